/- Part 6 of the proof of the statement TopPlanExactSaid: lemmas. No condition of its own. -/
import Derived.Lib.TrailingZeros
import Derived.Shelf.SlicesG.Cmp
import Derived.Shelf.SlGeneric
import Derived.Ground.SlgcProg
import Derived.Ground.SlgmProg
import Derived.Ground.SlsfProg
import Derived.Shelf.SortM.Plain
import Derived.Shelf.SortM.SortNone
import Derived.Shelf.SlSortCmp.NoneTotal
import Derived.Test.YtklnkmdgajiebaaGreatM5
namespace Go.Proofs.YtklnkmdgajiebaaGreat
open Go.RowKit
theorem eq76 (x : TupD DD ct76.ps) (Φ : TupD DD ct76.rs → Prop) : ct76.W x Φ = topF ⟨Tryz.prog, tab, [ct101, ct120], pl76, [], gh, [tn121], [([11, 0, 1, 1, 1, 1, 1, 1, 1, 12, 0, 1, 1], 0), ([16, 2, 1, 0, 1, 4, 0, 1, 1, 5, 4, 1, 0, 1, 1, 1, 1, 1, 1, 12, 0, 1, 1], 70002), ([17, 2, 1, 0, 1, 4, 0, 1, 1, 5, 4, 1, 0, 1, 1, 1, 1, 1, 1, 12, 0, 1, 1], 0)], []⟩ 9 ct76.f ct76.ps ct76.rs ct76.own x Φ := by kernel_rfl
theorem eq78 (x : TupD DD ct78.ps) (Φ : TupD DD ct78.rs → Prop) : ct78.W x Φ = topF ⟨Tryz.prog, tab, [ct44, ct72], pl78, [it100], gh, [], [], []⟩ 9 ct78.f ct78.ps ct78.rs ct78.own x Φ := by kernel_rfl
theorem eq11 : Eqn [ct29, ct30] pl11 [] [] ct11 := fun x Φ => by kernel_rfl
theorem eq23 : Eqn [ct46] pl23 [] [] ct23 := fun x Φ => by kernel_rfl
theorem eq84 : Eqn [ct45, ct85, ct111] pl84 [] [] ct84 := fun x Φ => by kernel_rfl
theorem eq21 : Eqn [ct41, ct43] pl21 [] [] ct21 := fun x Φ => by kernel_rfl
theorem eq28 : Eqn [ct56] pl28 [] [] ct28 := fun x Φ => by kernel_rfl
theorem eq90 : Eqn [] pl90 [] [] ct90 := fun x Φ => by kernel_rfl
theorem eq16 : Eqn [] pl16 [] [] ct16 := fun x Φ => by kernel_rfl
theorem eq111 : Eqn [] pl111 [] [] ct111 := fun x Φ => by kernel_rfl
theorem eq65 : Eqn [ct96] pl65 [] [] ct65 := fun x Φ => by kernel_rfl
theorem eq64 : Eqn [] pl64 [] [] ct64 := fun x Φ => by kernel_rfl
theorem eq79 : Eqn [ct80, ct81, ct82, ct83, ct104, ct106] pl79 [] [] ct79 := fun x Φ => by kernel_rfl
theorem eq29 : Eqn [ct6, ct57] pl29 [] [] ct29 := fun x Φ => by kernel_rfl
theorem eq109 : Eqn [ct21, ct97] pl109 [] [] ct109 := fun x Φ => by kernel_rfl
theorem eq46 : Eqn [ct65] pl46 [] [] ct46 := fun x Φ => by kernel_rfl
theorem eq71 : Eqn [ct45, ct72] pl71 [] [] ct71 := fun x Φ => by kernel_rfl
theorem eq35 : Eqn [] pl35 [] [] ct35 := fun x Φ => by kernel_rfl
theorem eq101 : Eqn [] pl101 [] [] ct101 := fun x Φ => by kernel_rfl
theorem eq57 : Eqn [] pl57 [] [] ct57 := fun x Φ => by kernel_rfl
theorem eq138 : Eqn [ct144] pl138 [] [] ct138 := fun x Φ => by kernel_rfl
theorem eq97 : Eqn [ct33, ct35] pl97 [] [] ct97 := fun x Φ => by kernel_rfl
theorem eq120 : Eqn [] pl120 [] [] ct120 := fun x Φ => by kernel_rfl
theorem eq104 : Eqn [] pl104 [] [] ct104 := fun x Φ => by kernel_rfl
theorem eq82 : Eqn [ct46] pl82 [] [] ct82 := fun x Φ => by kernel_rfl
theorem eq5 : Eqn [ct15, ct16] pl5 [] [] ct5 := fun x Φ => by kernel_rfl
theorem eq47 (x : TupD DD ct47.ps) (Φ : TupD DD ct47.rs → Prop) : ct47.W x Φ = topD ⟨Tryz.prog, tab, [ct21, ct44, ct71, ct72, ct97, ct98], pl47, [], gh, [], [], []⟩ 9 ct47.f ct47.ps ct47.rs ct47.own x Φ := by kernel_rfl
theorem eqi94 (x : TupD DD it94.cs) (l : List (TupD DD it94.ts)) : it94.W x l = iterF ⟨Tryz.prog, tab, [], pl94, [], gh, [], [], []⟩ it94.f it94.cs it94.ts x l := by kernel_rfl
theorem eq52 : Eqn [ct85, ct88] pl52 [] [] ct52 := fun x Φ => by kernel_rfl
theorem eq53 : Eqn [ct13, ct33, ct81] pl53 [] [] ct53 := fun x Φ => by kernel_rfl
theorem eq15 : Eqn [] pl15 [] [] ct15 := fun x Φ => by kernel_rfl
theorem eq56 : Eqn [] pl56 [] [] ct56 := fun x Φ => by kernel_rfl
theorem eq122 : Eqn [ct137, ct138] pl122 [] [] ct122 := fun x Φ => by kernel_rfl
theorem eq88 : Eqn [ct79] pl88 [] [] ct88 := fun x Φ => by kernel_rfl
theorem eq108 : Eqn [] pl108 [] [] ct108 := fun x Φ => by kernel_rfl
theorem eq119 : Eqn [ct44] pl119 [] [] ct119 := fun x Φ => by kernel_rfl
section
theorem Below.grow {w w' : World} (h : Below w.heap.size w w') : ∃ q os, w' = Sort.grow (w.drewN q) os := by
  refine ⟨w'.drawn - w.drawn, w'.heap.extract w.heap.size w'.heap.size, ?_⟩; have hs := h.size; have hd := h.dr
  have e1 : w'.heap = w.heap ++ w'.heap.extract w.heap.size w'.heap.size := by
    apply Array.ext_getElem?
    intro i; by_cases hi : i < w.heap.size
    · rw [h.block i hi, Array.getElem?_append_left hi]
    · rw [Array.getElem?_append_right (by omega)]
      by_cases hj : i < w'.heap.size
      · rw [Array.getElem?_eq_getElem hj, Array.getElem?_eq_getElem (by simp; omega)]
        congr 1
        simp only [Array.getElem_extract]
        congr 1
        omega
      · rw [Array.getElem?_eq_none (by omega), Array.getElem?_eq_none (by simp; omega)]
  have e2 : w'.drawn = w.drawn + (w'.drawn - w.drawn) := by omega
  obtain ⟨heap, tape, drawn, os, output⟩ := w'; have h1 : os = w.os := h.os; have h2 : tape = w.tape := h.tape; have h3 : output = w.output := h.output; subst h1 h2 h3; unfold Sort.grow World.drewN; simp only at e1 e2 ⊢; rw [← e1, ← e2]
section
variable {α : Type} (le : α → α → Bool)
theorem q291 (x : α) : ∀ l : List α, (insG le x l).Perm (x :: l)
  | [] => List.Perm.refl _
  | y :: r => by
    unfold insG; cases le x y with
    | true => exact List.Perm.refl _
    | false => exact ((q291 x r).cons y).trans (List.Perm.swap x y r)
theorem q40 : ∀ l : List α, (sortG le l).Perm l
  | [] => List.Perm.refl _
  | x :: r => (q291 le x (sortG le r)).trans ((q40 r).cons x)
variable {le}
theorem q292 (ht : ∀ a b, le a b = true ∨ le b a = true) (htr : ∀ a b c, le a b = true → le b c = true → le a c = true) (x : α) : ∀ l : List α, l.Pairwise (fun a b => le a b = true) → (insG le x l).Pairwise (fun a b => le a b = true)
  | [], _ => by simp [insG]
  | y :: r, h => by
    have h1 := List.pairwise_cons.1 h; unfold insG; cases hxy : le x y with
    | true =>
      refine List.pairwise_cons.2 ⟨fun z hz => ?_, h⟩; rcases List.mem_cons.1 hz with rfl | hz
      · exact hxy
      · exact htr _ _ _ hxy (h1.1 z hz)
    | false =>
      refine List.pairwise_cons.2 ⟨fun z hz => ?_, q292 ht htr x r h1.2⟩; rcases List.mem_cons.1 ((q291 le x r).mem_iff.1 hz) with rfl | hz
      · exact (ht z y).resolve_left (by rw [hxy]; simp)
      · exact h1.1 z hz
theorem q117 (ht : ∀ a b, le a b = true ∨ le b a = true) (htr : ∀ a b c, le a b = true → le b c = true → le a c = true) : ∀ l : List α, (sortG le l).Pairwise (fun a b => le a b = true)
  | [] => List.Pairwise.nil
  | x :: r => q292 ht htr x _ (q117 ht htr r)
theorem q498 (ht : ∀ a b, le a b = true ∨ le b a = true) (htr : ∀ a b c, le a b = true → le b c = true → le a c = true) (ha : ∀ a b, le a b = true → le b a = true → a = b) {l m : List α} (hp : m.Perm l) (hs : m.Pairwise (fun a b => le a b = true)) : m = sortG le l :=
  List.Perm.eq_of_pairwise (le := fun a b => le a b = true) (fun _ _ _ _ h1 h2 => ha _ _ h1 h2) hs (q117 ht htr l) (hp.trans (q40 le l).symm)
end
section
variable {α : Type}
theorem q182 {enc : α → List Value} {k : Nat} (hk : ∀ x, (enc x).length = k) : ∀ l : List α, (l.flatMap enc).length = l.length * k
  | [] => by simp
  | x :: l => by rw [List.flatMap_cons, List.length_append, hk, q182 hk l, List.length_cons, Nat.succ_mul, Nat.add_comm]
theorem q293 {enc : α → List Value} {k : Nat} (hk : ∀ x, (enc x).length = k) : ∀ (l : List α) (t : Nat) (_ : t < l.length * k), (l.flatMap enc)[t]? = (l[t / k]?).bind fun x => (enc x)[t % k]?
  | [], t, h => by simp at h
  | x :: l, t, h => by
    have k0 : 0 < k := by rcases Nat.eq_zero_or_pos k with h0 | h0; · subst h0; simp at h
                          · exact h0
    rw [List.flatMap_cons]; by_cases ht : t < k
    · rw [List.getElem?_append_left (by rw [hk]; exact ht), Nat.div_eq_of_lt ht, Nat.mod_eq_of_lt ht]
      rfl
    · have e1 : t / k = (t - k) / k + 1 := by rw [Nat.div_eq_sub_div k0 (by omega)]
      have e2 : t % k = (t - k) % k := by rw [Nat.mod_eq_sub_mod (by omega)]
      rw [List.getElem?_append_right (by rw [hk]; omega), hk, q293 hk l (t - k) (by rw [List.length_cons, Nat.succ_mul] at h; omega), e1, e2]; rfl
variable [Inhabited α]
theorem q329 {enc : α → List Value} {k : Nat} (hk : ∀ x, (enc x).length = k) (d : Array α) : (Sort.flatK enc k d).toList = d.toList.flatMap enc := by
  have hl := q182 hk d.toList
  apply List.ext_getElem?
  intro t; by_cases ht : t < d.size * k
  · have k0 : 0 < k := by rcases Nat.eq_zero_or_pos k with h0 | h0; · subst h0; simp at ht
                          · exact h0
    have hd : t / k < d.size := (Nat.div_lt_iff_lt_mul k0).2 ht; have hm : t % k < k := Nat.mod_lt _ k0; rw [q293 hk _ t (by rw [Array.length_toList]; exact ht)]; have e1 := Sort.get_flatK enc k d t ht; have e2 : t < (Sort.flatK enc k d).size := by rw [Sort.size_flatK]; exact ht
    rw [getElem!_pos (Sort.flatK enc k d) t e2] at e1; rw [Array.getElem?_toList, Array.getElem?_eq_getElem e2, e1, Array.getElem?_toList, Array.getElem?_eq_getElem hd]; have e3 : d[t / k]! = d[t / k] := getElem!_pos d _ hd; rw [e3]; have e4 : t % k < (enc d[t / k]).length := by rw [hk]; exact hm
    show some ((enc d[t / k])[t % k]!) = (enc d[t / k])[t % k]?; rw [getElem!_pos (enc d[t / k]) _ e4, List.getElem?_eq_getElem e4]
  · rw [List.getElem?_eq_none, List.getElem?_eq_none]
    · rw [hl, Array.length_toList]; omega
    · rw [Array.length_toList, Sort.size_flatK]; omega
end
theorem DtL.enc {α : Type} [Dt α] {enc : α → List Value} (he : ∀ H cs (x : α), Dt.rd H cs x → cs = enc x) {H : Hp} : ∀ {xs : List α} {cs : List Value}, DtL H cs xs → cs = xs.flatMap enc
  | [], _, h => h
  | _ :: _, _, ⟨_, _, h, h1, h2⟩ => by rw [h, he _ _ _ h1, DtL.enc he h2]; rfl
theorem DtL.ofEnc {α : Type} [Dt α] {enc : α → List Value} (he : ∀ H (x : α), Dt.rd H (enc x) x) {H : Hp} : ∀ (xs : List α), DtL H (xs.flatMap enc) xs
  | [] => rfl
  | x :: xs => ⟨enc x, xs.flatMap enc, rfl, he H x, DtL.ofEnc he xs⟩
end
def cmpI (a b : Int) : Int := if a < b then -1 else if b < a then 1 else 0
def cmpP (a b : q9) : Int := if cmpI a.volume b.volume ≠ 0 then cmpI a.volume b.volume else cmpI a.sector b.sector
theorem q713 (a b : Int) {Φ : Int → Prop} (h : Φ (cmpI a b)) : Z59 a b Φ := by
  unfold cmpI at h; unfold Z59 Z58; refine ⟨fun e => absurd e (by simp), fun _ => ⟨fun e => absurd e (by simp), fun _ => ⟨fun e => ?_, fun e => ⟨fun e2 => ?_, fun e2 => ?_⟩⟩⟩⟩
  · rw [if_pos e] at h; exact h
  · rw [if_neg e, if_pos e2] at h; exact h
  · rw [if_neg e, if_neg e2] at h; exact h
theorem q593 (x y : q9) : Z60 x y fun v => v = cmpP x y := by
  unfold Z60; refine ⟨(cmpI x.volume y.volume, ()), q713 _ _ rfl, (cmpI x.sector y.sector, ()), q713 _ _ rfl, (cmpP x y, ()), ?_, rfl⟩; refine ⟨3, ⟨fun _ => ⟨⟨by decide, by simp⟩, fun h => ?_, fun h => ⟨by unfold inI; decide, ⟨fun _ => ⟨⟨by decide, by simp⟩, fun h2 => ?_, fun h2 => ⟨by unfold inI; decide, ⟨fun h3 => absurd h3 (by simp), fun _ => ?_⟩⟩⟩, fun h2 => absurd (show (0 + 1 : Int) < _ by simp) h2⟩⟩⟩, fun h => absurd (show (0 : Int) < _ by simp) h⟩⟩
  · have h : cmpI x.volume y.volume ≠ 0 := h
    show (cmpI x.volume y.volume, ()) = (cmpP x y, ())
    unfold cmpP; rw [if_pos h]
  · have h : ¬ (cmpI x.volume y.volume ≠ 0) := h
    show (cmpI x.sector y.sector, ()) = (cmpP x y, ())
    unfold cmpP; rw [if_neg h]
  · have h : ¬ (cmpI x.volume y.volume ≠ 0) := h
    have h2 : ¬ (cmpI x.sector y.sector ≠ 0) := h2; show ((0 : Int), ()) = (cmpP x y, ())
    unfold cmpP; rw [if_neg h, Decidable.not_not.1 h2]
theorem q594 {a b : Int} : cmpI a b < 0 ↔ a < b := by unfold cmpI; split <;> (try split) <;> omega
theorem cmpI_eq {a b : Int} : cmpI a b = 0 ↔ a = b := by unfold cmpI; split <;> (try split) <;> omega
theorem cmpP_lt {a b : q9} : cmpP a b < 0 ↔ a.volume < b.volume ∨ a.volume = b.volume ∧ a.sector < b.sector := by
  have h1 := q594 (a := a.volume) (b := b.volume); have h2 := cmpI_eq (a := a.volume) (b := b.volume); have h3 := q594 (a := a.sector) (b := b.sector); unfold cmpP
  split <;> omega
theorem ltP (a b : q9) : ltOf cmpP a b = decide (a.volume < b.volume ∨ a.volume = b.volume ∧ a.sector < b.sector) := by
  unfold ltOf; exact decide_eq_decide.2 cmpP_lt
theorem swoP : Sort.SWO (ltOf cmpP) where
  irrefl x := by rw [ltP]; simp
  trans x y z h1 h2 := by rw [ltP] at *; simp only [decide_eq_true_eq] at *; omega
  ntrans x y z h1 h2 := by rw [ltP] at *; simp only [decide_eq_false_iff_not] at *; omega
theorem q74 {x y : q9} (h1 : x.volume = y.volume) (h2 : x.sector = y.sector) : x = y := by
  cases x; cases y; simp only at h1 h2; subst h1 h2; rfl
theorem q524 : ∀ x y : q9, ltOf cmpP x y = false → ltOf cmpP y x = false → x = y := fun x y h1 h2 => by
  rw [ltP] at *; simp only [decide_eq_false_iff_not] at *; exact q74 (by omega) (by omega)
theorem q161 (a b : q9) : pleB a b = true ∨ pleB b a = true := by unfold pleB; simp only [decide_eq_true_eq]; omega
theorem q162 (a b c : q9) (h : pleB a b = true) (k : pleB b c = true) : pleB a c = true := by unfold pleB at *; simp only [decide_eq_true_eq] at *; omega
theorem q499 (a b : q9) (h : pleB a b = true) (k : pleB b a = true) : a = b := by unfold pleB at *; simp only [decide_eq_true_eq] at *; exact q74 (by omega) (by omega)
theorem mergeP (l : List q9) : (l.mergeSort fun x y => !(ltOf cmpP) y x) = sortG pleB l := by
  have e : (fun x y : q9 => !(ltOf cmpP) y x) = pleB := by
    funext x y
    rw [ltP]; unfold pleB; by_cases h : y.volume < x.volume ∨ y.volume = x.volume ∧ y.sector < x.sector
    · rw [decide_eq_true h, decide_eq_false (by omega)]; rfl
    · rw [decide_eq_false h, decide_eq_true (by omega)]; rfl
  rw [e]; exact q498 q161 q162 q499 (List.mergeSort_perm l _) (List.pairwise_mergeSort (fun a b c h k => q162 a b c h k) (fun a b => by have := q161 a b; simpa using this) l)
theorem mo : Tryz.prog.follows .mixedOrders = true := by kernel_rfl
theorem okU {cs : List (Ct DD)} {pl : List PE} {S : List (List Nat × Nat)} {K : List (Sk DD)} {c : Ct DD} (h : Eqn cs pl S K c) (hE : Env.Ok (⟨Tryz.prog, tab, cs, pl, [], gh, [], S, K⟩ : Env DD)) : c.Ok Tryz.prog tab gh := Ct.lift hE 9 c fun x Φ => by rw [h x Φ]; exact id
theorem ok15 : ct15.Ok Tryz.prog tab gh := okU eq15 ⟨tabOk, trivial, mo, trivial, ghUp, trivial, trivial⟩
theorem ok16 : ct16.Ok Tryz.prog tab gh := okU eq16 ⟨tabOk, trivial, mo, trivial, ghUp, trivial, trivial⟩
theorem ok5 : ct5.Ok Tryz.prog tab gh := okU eq5 ⟨tabOk, ⟨ok15, ok16, trivial⟩, mo, trivial, ghUp, trivial, trivial⟩
theorem ok30 : ct30.Ok Tryz.prog tab gh := okU eq30 ⟨tabOk, trivial, mo, trivial, ghUp, trivial, trivial⟩
theorem ok62 : ct62.Ok Tryz.prog tab gh := okU eq62 ⟨tabOk, ⟨ok30, trivial⟩, mo, trivial, ghUp, trivial, trivial⟩
theorem ok36 : ct36.Ok Tryz.prog tab gh := okU eq36 ⟨tabOk, ⟨ok62, trivial⟩, mo, trivial, ghUp, trivial, trivial⟩
theorem ok17 : ct17.Ok Tryz.prog tab gh := okU eq17 ⟨tabOk, ⟨ok30, ok36, trivial⟩, mo, trivial, ghUp, trivial, trivial⟩
theorem itok94 : it94.Ok Tryz.prog gh := It.lift (E := ⟨Tryz.prog, tab, [], pl94, [], gh, [], [], []⟩) ⟨tabOk, trivial, mo, trivial, ghUp, trivial, trivial⟩ it94 fun x l => by rw [eqi94]; exact id
theorem ok37 : ct37.Ok Tryz.prog tab gh := Ct.lift (E := ⟨Tryz.prog, tab, [], pl37, [it94], gh, [], [], []⟩) ⟨tabOk, trivial, mo, ⟨itok94, trivial⟩, ghUp, trivial, trivial⟩ 9 ct37 fun x Φ => by rw [eq37]; exact id
theorem ok39 : ct39.Ok Tryz.prog tab gh := okU eq39 ⟨tabOk, trivial, mo, trivial, ghUp, trivial, trivial⟩
theorem ok38 : ct38.Ok Tryz.prog tab gh := okU eq38 ⟨tabOk, trivial, mo, trivial, ghUp, trivial, trivial⟩
theorem ok6 : ct6.Ok Tryz.prog tab gh := okU eq6 ⟨tabOk, ⟨ok17, ok37, ok38, ok39, trivial⟩, mo, trivial, ghUp, trivial, trivial⟩
theorem ok7 : ct7.Ok Tryz.prog tab gh := okU eq7 ⟨tabOk, trivial, mo, trivial, ghUp, trivial, trivial⟩
theorem ok64 : ct64.Ok Tryz.prog tab gh := okU eq64 ⟨tabOk, trivial, mo, trivial, ghUp, trivial, trivial⟩
theorem okT64 : ct64.Ok Tryz.prog tab ghT := Ct.lift (E := ⟨Tryz.prog, tab, [], pl64, [], ghT, [], [], []⟩) ⟨tabOk, trivial, mo, trivial, fun _ _ _ _ => trivial, trivial, trivial⟩ 9 ct64 fun x Φ => by
  have h : ct64.W x Φ = topF ⟨Tryz.prog, tab, [], pl64, [], ghT, [], [], []⟩ 9 ct64.f ct64.ps ct64.rs ct64.own x Φ := by kernel_rfl
  rw [h]; exact id
theorem ok41 : ct41.Ok Tryz.prog tab gh := okU eq41 ⟨tabOk, ⟨ok64, trivial⟩, mo, trivial, ghUp, trivial, trivial⟩
theorem okT41 : ct41.Ok Tryz.prog tab ghT := Ct.lift (E := ⟨Tryz.prog, tab, [ct64], pl41, [], ghT, [], [], []⟩) ⟨tabOk, ⟨okT64, trivial⟩, mo, trivial, fun _ _ _ _ => trivial, trivial, trivial⟩ 9 ct41 fun x Φ => by
  have h : ct41.W x Φ = topF ⟨Tryz.prog, tab, [ct64], pl41, [], ghT, [], [], []⟩ 9 ct41.f ct41.ps ct41.rs ct41.own x Φ := by kernel_rfl
  rw [h]; exact id
theorem ok43 : ct43.Ok Tryz.prog tab gh := okU eq43 ⟨tabOk, trivial, mo, trivial, ghUp, trivial, trivial⟩
theorem ok21 : ct21.Ok Tryz.prog tab gh := okU eq21 ⟨tabOk, ⟨ok41, ok43, trivial⟩, mo, trivial, ghUp, trivial, trivial⟩
theorem ok44 : ct44.Ok Tryz.prog tab gh := okU eq44 ⟨tabOk, trivial, mo, trivial, ghUp, trivial, trivial⟩
theorem ok45 : ct45.Ok Tryz.prog tab gh := okU eq45 ⟨tabOk, trivial, mo, trivial, ghUp, trivial, trivial⟩
theorem ok22 : ct22.Ok Tryz.prog tab gh := okU eq22 ⟨tabOk, ⟨ok21, ok44, ok45, trivial⟩, mo, trivial, ghUp, trivial, trivial⟩
theorem ok96 : ct96.Ok Tryz.prog tab gh := okU eq96 ⟨tabOk, trivial, mo, trivial, ghUp, trivial, trivial⟩
theorem ok65 : ct65.Ok Tryz.prog tab gh := okU eq65 ⟨tabOk, ⟨ok96, trivial⟩, mo, trivial, ghUp, trivial, trivial⟩
theorem ok46 : ct46.Ok Tryz.prog tab gh := okU eq46 ⟨tabOk, ⟨ok65, trivial⟩, mo, trivial, ghUp, trivial, trivial⟩
theorem ok23 : ct23.Ok Tryz.prog tab gh := okU eq23 ⟨tabOk, ⟨ok46, trivial⟩, mo, trivial, ghUp, trivial, trivial⟩
theorem ok92 : ct92.Ok Tryz.prog tab gh := okU eq92 ⟨tabOk, trivial, mo, trivial, ghUp, trivial, trivial⟩
theorem okT92 : ct92.Ok Tryz.prog tab ghT := Ct.lift (E := ⟨Tryz.prog, tab, [], pl92, [], ghT, [], [], []⟩) ⟨tabOk, trivial, mo, trivial, fun _ _ _ _ => trivial, trivial, trivial⟩ 9 ct92 fun x Φ => by
  have h : ct92.W x Φ = topF ⟨Tryz.prog, tab, [], pl92, [], ghT, [], [], []⟩ 9 ct92.f ct92.ps ct92.rs ct92.own x Φ := by kernel_rfl
  rw [h]; exact id
theorem ok58 : ct58.Ok Tryz.prog tab gh := okU eq58 ⟨tabOk, ⟨ok92, trivial⟩, mo, trivial, ghUp, trivial, trivial⟩
theorem okT58 : ct58.Ok Tryz.prog tab ghT := Ct.lift (E := ⟨Tryz.prog, tab, [ct92], pl58, [], ghT, [], [], []⟩) ⟨tabOk, ⟨okT92, trivial⟩, mo, trivial, fun _ _ _ _ => trivial, trivial, trivial⟩ 9 ct58 fun x Φ => by
  have h : ct58.W x Φ = topF ⟨Tryz.prog, tab, [ct92], pl58, [], ghT, [], [], []⟩ 9 ct58.f ct58.ps ct58.rs ct58.own x Φ := by kernel_rfl
  rw [h]; exact id
theorem ok33 : ct33.Ok Tryz.prog tab gh := okU eq33 ⟨tabOk, ⟨ok41, ok58, trivial⟩, mo, trivial, ghUp, trivial, trivial⟩
theorem okT33 : ct33.Ok Tryz.prog tab ghT := Ct.lift (E := ⟨Tryz.prog, tab, [ct41, ct58], pl33, [], ghT, [], [], []⟩) ⟨tabOk, ⟨okT41, okT58, trivial⟩, mo, trivial, fun _ _ _ _ => trivial, trivial, trivial⟩ 9 ct33 fun x Φ => by
  have h : ct33.W x Φ = topF ⟨Tryz.prog, tab, [ct41, ct58], pl33, [], ghT, [], [], []⟩ 9 ct33.f ct33.ps ct33.rs ct33.own x Φ := by kernel_rfl
  rw [h]; exact id
theorem ok60 : ct60.Ok Tryz.prog tab gh := okU eq60 ⟨tabOk, trivial, mo, trivial, ghUp, trivial, trivial⟩
theorem okT60 : ct60.Ok Tryz.prog tab ghT := Ct.lift (E := ⟨Tryz.prog, tab, [], pl60, [], ghT, [], [], []⟩) ⟨tabOk, trivial, mo, trivial, fun _ _ _ _ => trivial, trivial, trivial⟩ 9 ct60 fun x Φ => by
  have h : ct60.W x Φ = topF ⟨Tryz.prog, tab, [], pl60, [], ghT, [], [], []⟩ 9 ct60.f ct60.ps ct60.rs ct60.own x Φ := by kernel_rfl
  rw [h]; exact id
theorem ok35 : ct35.Ok Tryz.prog tab gh := okU eq35 ⟨tabOk, trivial, mo, trivial, ghUp, trivial, trivial⟩
theorem okT35 : ct35.Ok Tryz.prog tab ghT := Ct.lift (E := ⟨Tryz.prog, tab, [], pl35, [], ghT, [], [], []⟩) ⟨tabOk, trivial, mo, trivial, fun _ _ _ _ => trivial, trivial, trivial⟩ 9 ct35 fun x Φ => by
  have h : ct35.W x Φ = topF ⟨Tryz.prog, tab, [], pl35, [], ghT, [], [], []⟩ 9 ct35.f ct35.ps ct35.rs ct35.own x Φ := by kernel_rfl
  rw [h]; exact id
theorem pk55 (v : Value) (cs : List Value) : PkR Tryz.prog 55 v cs = (cs = [v]) := by kernel_rfl
theorem q253 {H : Hp} (x0 : List (List Sec)) {A1 : Option Addr} {n1 c1 : Nat} {s1 : List Value} (hF1 : Fz (α := List Sec) H A1 n1 c1 x0 s1) {Φ : Int → Prop} (hm : q57 x0 Φ) : RetP Tryz.prog 33 #[.slice A1 n1 c1] H (fun _ v L => ∃ y, Φ y ∧ v = .int .i64 (y) ∧ L = []) := by
  refine RetP.mono (okT33 (x0, ()) (fun y => Φ y.1) hm H [.slice A1 n1 c1] trivial ⟨_, [.slice A1 n1 c1], _, rfl, by rw [pk55], (show Dt.rd (α := List (List Sec)) H _ _ from ⟨A1, n1, c1, s1, rfl, hF1⟩), rfl⟩) fun H' v L _ ⟨y, hy, hr⟩ => ?_; obtain ⟨ρ, _, _, _, _, h1, h2⟩ := hr 0 (fun _ => none) (fun _ _ => rfl) _ _ _ (show resE Tryz.prog tab _ _ y 0 = some (.i .i64 y.1, [], 0) by kernel_rfl); exact ⟨y.1, hy, h1, h2⟩
theorem pk71 (v : Value) (cs : List Value) : PkR Tryz.prog 71 v cs = (cs = [v]) := by kernel_rfl
theorem q54 {H : Hp} (x0 : List Sec) {A1 : Option Addr} {n1 c1 : Nat} {s1 : List Value} (hF1 : Fz (α := Sec) H A1 n1 c1 x0 s1) {Φ : List Sec → Prop} (hm : Z42 x0 Φ) : RetP Tryz.prog 60 #[.slice A1 n1 c1] H (fun H' v L => ∃ y, Φ y ∧ ∃ A12, ∃ n12, ∃ c12, ∃ s12, v = .slice A12 n12 c12 ∧ DtL (α := Sec) H' s12 y ∧ n12 = y.length ∧ L = [.row (.slice A12 n12 c12) 70 8 n12 s12]) := by
  refine RetP.mono (okT60 (x0, ()) (fun y => Φ y.1) hm H [.slice A1 n1 c1] trivial ⟨_, [.slice A1 n1 c1], _, rfl, by rw [pk71], (show Dt.rd (α := List Sec) H _ _ from ⟨A1, n1, c1, s1, rfl, hF1⟩), rfl⟩) fun H' v L _ ⟨y, hy, hr⟩ => ?_; obtain ⟨ρ, _, _, _, _, h1, h2⟩ := hr 0 (fun _ => none) (fun _ _ => rfl) _ _ _ (show resE Tryz.prog tab _ _ y 0 = some (.own 0, [(0, .row 70 y.1)], 1) by kernel_rfl); obtain ⟨A, n, c, e1, rfl⟩ := h1; obtain ⟨S, L', rfl, ⟨A', n', c', s, e2, rfl, e3, e4⟩, e5⟩ := h2; obtain rfl : L' = [] := e5; rw [e1] at e2; cases e2; exact ⟨y.1, hy, A, n, c, s, rfl, e3, e4, rfl⟩
theorem q218 {H : Hp} (x0 : List (List Sec)) {A1 : Option Addr} {n1 c1 : Nat} {s1 : List Value} (hF1 : Fz (α := List Sec) H A1 n1 c1 x0 s1) {Φ : List (List Sec) → Prop} (hm : Z44 x0 Φ) : RetP Tryz.prog 59 #[.slice A1 n1 c1, .func (.func 60) #[] #[]] H (fun H' v L => ∃ y, Φ y ∧ ∃ A45, ∃ n45, ∃ c45, ∃ s45, ∃ rs46, v = .slice A45 n45 c45 ∧ DeepL (α := List Sec) [70] H' s45 y rs46 ∧ n45 = y.length ∧ L = .row (.slice A45 n45 c45) 71 1 n45 s45 :: rs46) := by
 refine RetP.of_code Tryz.func59 rfl (nb rfl) fun w0 hM => ?_
 refine CW.sr <| RW.st (Ex.assign (.slice none 0 0) rfl) rfl <| RW.nil <| CW.sr <| RW.st (Ex.move (.slice A1 n1 c1) rfl) rfl <| RW.st (Ex.lenN st54.1 rfl hF1.hn) rfl ?_
 obtain ⟨hg8, hm⟩ := hm
 obtain ⟨hg9, hm⟩ := hm
 refine RW.makeE (α := List Sec) hM st54 tz71 rfl rfl hg8 hg9 rfl rfl ?_; intro b2 n3 c4 s5 w hd6 hn7 hM
 refine RW.st (Ex.assign (.slice (some ⟨b2, 0, none⟩) n3 c4) rfl) rfl <| RW.nil <| CW.seq <| CW.sr <| RW.st (Ex.move (.slice A1 n1 c1) rfl) rfl <| RW.st (Ex.lenN st54.1 rfl hF1.hn) rfl <| RW.st (Ex.move (.int .i64 0) rfl) rfl <| RW.nil <| CW.block ?_
 obtain ⟨m44, hm⟩ := hm
 skip
 refine CW.loop (β := Nat) (fun n σ w => ∃ (v12 : List (List Sec)), ∃ (A13 : Option Addr), ∃ (n14 : Nat), ∃ (c15 : Nat), ∃ (s16 : List Value), ∃ (rs17 : List Ent), ∃ (v20 : Int), ∃ Hk10, H.le Hk10 ∧ (∃ τ, σ = sl [(1, .func (.func 60) #[] #[]), (5, .slice A13 n14 c15), (11, .slice A1 n1 c1), (12, .int .i64 ((x0.length : Int))), (13, .int .i64 v20)] τ) ∧ Mem w0 H w Hk10 (.row (.slice A13 n14 c15) 71 1 n14 s16 :: rs17) ∧ (DeepL (α := List Sec) [70] Hk10 s16 v12 rs17) ∧ (n14 = v12.length) ∧ LoopN (Z43 x0 Φ) n (v12, v20)) (fun n => n) m44 ⟨([] : List (List Sec)), (some ⟨b2, 0, none⟩), n3, c4, s5, [], 0, H, (Hp.le.refl _), q43 ⟨rfl, rfl, rfl, rfl, rfl, trivial⟩, hM, (DeepL.ofNil (Ts := [70]) hd6), hn7, hm⟩ ?_
 rintro k21 _ w ⟨v12, A13, n14, c15, s16, rs17, v20, Hk10, hle11, ⟨τ, rfl⟩, hM, hd18, hn19, hm⟩
 obtain _ | k21 := k21
 · exact hm.elim
 replace hm : (Z43 x0 Φ) (v12, v20) (LoopN (Z43 x0 Φ) k21) := hm
 generalize hrec22 : LoopN (Z43 x0 Φ) k21 = rec1 at hm
 refine CW.sr <| RW.st (Ex.lss rfl rfl) rfl <| RW.nil <| CW.seq ?_
 refine CW.cond_dec (p := v20 < (x0.length : Int)) rfl (fun hc23 => ?_) (fun hc23 => ?_)
 ·
  replace hm := And.left hm hc23
  refine CW.skip <| CW.seq <| CW.block <| CW.sr ?_
  obtain ⟨hg24, hm⟩ := hm; refine RW.st (Ex.index st54 rfl rfl v20.toNat (hF1.ne hg24) hg24.nat (hF1.lt hg24)) rfl ?_; obtain ⟨_, ⟨A25, n25, c25, s25, rfl, hF25⟩, hx26⟩ := DtL.getI (α := List Sec) (hF1.mono hle11).dat hg24; refine RW.st (Ex.loadE hM hle11 hF1.rdc to71 rfl (hx26 0 _ rfl)) rfl <| RW.st (Ex.assign (.slice A25 n25 c25) rfl) rfl <| RW.nil <| CW.region <| RW.st (Ex.move (.slice A13 n14 c15) rfl) rfl <| RW.st (Ex.move (.func (.func 60) #[] #[]) rfl) rfl <| RW.st (Ex.move (.slice A25 n25 c25) rfl) rfl ?_
  refine RW.callP hM (q54 (ix x0 v20) hF25 hm) en60 rfl rfl rfl rfl ?_; rintro _ w H28 _ hle29 ⟨v27, hm, A30, n30, c30, s30, rfl, hd31, hn32, rfl⟩ hM; refine RW.buildSlice hM st54 tz71 [(0, .slice A30 n30 c30)] [.slice A30 n30 c30] (by decide) rfl rfl rfl (by decide) rfl rfl ?_; intro b33 w hM; obtain ⟨hg39, hm⟩ := hm; refine RW.appendH (α := List Sec) (xs := v12) (x0 := v27) hM 2 st54 rfl rfl hn19 rfl (fun j u hj => hM.rowCell (k := 0) rfl rfl hj) rfl (q90 ⟨rfl, trivial⟩) hg39 rfl rfl ?_; intro A35 n36 c37 w hn38 hM; obtain ⟨s40, rs41, hd42, hM⟩ := Mem.adopt (α := List Sec) (Ts := [70]) (x := v27) [.row (.slice (some ⟨b33, 0, none⟩) 1 1) 71 1 1 [.slice A30 n30 c30], .row (.slice A35 n36 c37) 71 1 n36 (s16 ++ [.slice A30 n30 c30])] (Mem.pickT (L1 := [.row (.slice (some ⟨b33, 0, none⟩) 1 1) 71 1 1 [.slice A30 n30 c30], .row (.slice A30 n30 c30) 70 8 n30 s30, .row (.slice A35 n36 c37) 71 1 n36 (s16 ++ [.slice A30 n30 c30])]) (T := rs17) hM [1, 0, 2] rfl rfl) 1 rfl (hd18.mono hle29) ⟨A30, n30, c30, s30, rfl, rfl, hd31, hn32⟩
  replace hM : Mem w0 H w H28 (.row (.slice A35 n36 c37) 71 1 n36 s40 :: rs41) := Mem.pickT (L1 := [.row (.slice (some ⟨b33, 0, none⟩) 1 1) 71 1 1 [.slice A30 n30 c30], .row (.slice A35 n36 c37) 71 1 n36 s40]) (T := rs41) hM [1] rfl rfl
  refine RW.st (Ex.assign (.slice A35 n36 c37) rfl) rfl <| RW.nil <| CW.region ?_
  obtain ⟨hg43, hm⟩ := hm; refine RW.st (Ex.add rfl rfl hg43.1 hg43.2) rfl <| RW.st (Ex.move (.int .i64 (v20 + 1)) rfl) rfl <| RW.nil ?_
  exact And.intro rfl ⟨k21, ⟨(v12 ++ [v27]), A35, n36, c37, s40, rs41, v20 + 1, H28, hle11.trans hle29, q43 ⟨rfl, rfl, rfl, rfl, rfl, trivial⟩, hM, hd42, hn38, (by rw [hrec22]; exact hm)⟩, Nat.lt_succ_self _⟩
 ·
  replace hm := And.right hm hc23
  refine CW.exit ?_; refine CW.sr <| RW.st (Ex.move (.slice A13 n14 c15) rfl) rfl <| RW.st (Ex.assign (.slice A13 n14 c15) rfl) rfl <| RW.nil <| CW.ret ?_
  refine q532 (.inl rfl) rfl (.slice A13 n14 c15) rfl ?_; exact ⟨_, _, hM, v12, hm, A13, n14, c15, s16, rs17, rfl, hd18, hn19, rfl⟩
theorem q219 {H : Hp} (x0 : List (List Sec)) {A1 : Option Addr} {n1 c1 : Nat} {s1 : List Value} (hF1 : Fz (α := List Sec) H A1 n1 c1 x0 s1) {Φ : List (List Sec) → Prop} (hm : Z45 x0 Φ) : RetP Tryz.prog 34 #[.slice A1 n1 c1] H (fun H' v L => ∃ y, Φ y ∧ ∃ A9, ∃ n9, ∃ c9, ∃ s9, ∃ rs10, v = .slice A9 n9 c9 ∧ DeepL (α := List Sec) [70] H' s9 y rs10 ∧ n9 = y.length ∧ L = .row (.slice A9 n9 c9) 71 1 n9 s9 :: rs10) := by
 refine RetP.of_code Tryz.func34 rfl (nb rfl) fun w0 hM => ?_
 refine CW.sr <| RW.st (Ex.assign (.slice none 0 0) rfl) rfl <| RW.nil <| CW.sr <| RW.st (Ex.move (.slice A1 n1 c1) rfl) rfl ?_
 refine RW.callP hM (q218 x0 hF1 hm) en59 rfl rfl rfl rfl ?_; rintro _ w H3 _ hle4 ⟨v2, hm, A5, n5, c5, s5, rs6, rfl, hd7, hn8, rfl⟩ hM
 replace hM := Mem.toTail (a := [.row (.slice A5 n5 c5) 71 1 n5 s5]) (b := rs6) (c := []) hM
 refine RW.st (Ex.assign (.slice A5 n5 c5) rfl) rfl <| RW.nil <| CW.ret ?_
 refine q532 (.inl rfl) rfl (.slice A5 n5 c5) rfl ?_
 exact ⟨_, _, hM, v2, hm, A5, n5, c5, s5, rs6, rfl, hd7, hn8, rfl⟩
theorem pk73 (v : Value) (cs : List Value) : PkR Tryz.prog 73 v cs = (v = .agg cs.toArray) := by kernel_rfl
theorem q294 {H : Hp} (x0 : List (List Sec)) (x1 : q8) {A1 : Option Addr} {n1 c1 : Nat} {s1 : List Value} (hF1 : Fz (α := List Sec) H A1 n1 c1 x0 s1) {A2 : Option Addr} {n2 c2 : Nat} {s2 : List Value} (hF2 : Fz (α := Sec) H A2 n2 c2 x1.Data s2) {Φ : Int → Prop} (hm : q84 x0 x1 Φ) : RetP Tryz.prog 35 #[.slice A1 n1 c1, .agg #[.int .i64 (x1.Volume), .int .i64 (x1.Start), .slice A2 n2 c2]] H (fun _ v L => ∃ y, Φ y ∧ v = .int .i64 (y) ∧ L = []) := by
  refine RetP.mono (okT35 (x0, x1, ()) (fun y => Φ y.1) hm H [.slice A1 n1 c1, .agg #[.int .i64 (x1.Volume), .int .i64 (x1.Start), .slice A2 n2 c2]] trivial ⟨_, [.slice A1 n1 c1], _, rfl, by rw [pk55], (show Dt.rd (α := List (List Sec)) H _ _ from ⟨A1, n1, c1, s1, rfl, hF1⟩), ⟨_, [.int .i64 (x1.Volume), .int .i64 (x1.Start), .slice A2 n2 c2], _, rfl, by rw [pk73], (show Dt.rd (α := q8) H _ _ from ⟨A2, n2, c2, s2, rfl, hF2⟩), rfl⟩⟩) fun H' v L _ ⟨y, hy, hr⟩ => ?_; obtain ⟨ρ, _, _, _, _, h1, h2⟩ := hr 0 (fun _ => none) (fun _ _ => rfl) _ _ _ (show resE Tryz.prog tab _ _ y 0 = some (.i .i64 y.1, [], 0) by kernel_rfl); exact ⟨y.1, hy, h1, h2⟩
theorem q254 {H : Hp} (x0 : List (List Sec)) (x1 : List q8) {A1 : Option Addr} {n1 c1 : Nat} {s1 : List Value} (hF1 : Fz (α := List Sec) H A1 n1 c1 x0 s1) {A2 : Option Addr} {n2 c2 : Nat} {s2 : List Value} (hF2 : Fz (α := q8) H A2 n2 c2 x1 s2) {Φ : List (List Sec) × Int × Int → Prop} (hm : q58 x0 x1 Φ) : RetP Tryz.prog 13 #[.slice A1 n1 c1, .slice A2 n2 c2] H (fun H' v L => ∃ y, Φ y ∧ ∃ A89, ∃ n89, ∃ c89, ∃ s89, ∃ rs90, v = .tuple #[.slice A89 n89 c89, .int .i64 (y.2.1), .int .i64 (y.2.2)] ∧ DeepL (α := List Sec) [70] H' s89 y.1 rs90 ∧ n89 = y.1.length ∧ L = .row (.slice A89 n89 c89) 71 1 n89 s89 :: rs90) := by
 refine RetP.of_code Tryz.func13 rfl (nb rfl) fun w0 hM => ?_
 refine CW.sr <| RW.st (Ex.assign (.slice none 0 0) rfl) rfl <| RW.st (Ex.assign (.int .i64 0) rfl) rfl <| RW.st (Ex.assign (.int .i64 0) rfl) rfl <| RW.nil <| CW.seq <| CW.sr <| RW.st (Ex.move (.slice A1 n1 c1) rfl) rfl ?_
 refine RW.callP hM (q253 x0 hF1 hm) en33 rfl rfl rfl rfl ?_; rintro _ w H4 _ hle5 ⟨v3, hm, rfl, rfl⟩ hM
 refine RW.st (Ex.assign (.int .i64 v3) rfl) rfl <| RW.nil <| CW.sr <| RW.st (Ex.move (.int .i64 v3) rfl) rfl <| RW.st (Ex.neq rfl rfl) rfl <| RW.nil ?_
 refine CW.cond_dec (p := v3 ≠ 0) rfl (fun hc6 => ?_) (fun hc6 => ?_)
 ·
  replace hm := And.left hm hc6
  refine CW.sr <| RW.st (Ex.move (.int .i64 v3) rfl) rfl <| RW.st (Ex.assign (.slice none 0 0) rfl) rfl <| RW.st (Ex.assign (.int .i64 0) rfl) rfl <| RW.st (Ex.assign (.int .i64 v3) rfl) rfl <| RW.nil <| CW.ret ?_
  refine q149 ?_; refine q346 (.inl rfl) rfl (.slice none 0 0) (.int .i64 0) (.int .i64 v3) rfl rfl rfl ?_
  replace hM := hM.nilRow 71 1
  exact ⟨_, _, hM, (([] : List (List Sec)), 0, v3), hm, none, 0, 0, [], [], rfl, (DeepL.nil : DeepL (α := List Sec) [70] H4 [] [] []), rfl, rfl⟩
 ·
  replace hm := And.right hm hc6
  refine CW.skip <| CW.sr <| RW.st (Ex.move (.slice A1 n1 c1) rfl) rfl ?_
  refine RW.callP hM (q219 x0 (hF1.mono hle5) hm) en34 rfl rfl rfl rfl ?_; rintro _ w H8 _ hle9 ⟨v7, hm, A10, n10, c10, s10, rs11, rfl, hd12, hn13, rfl⟩ hM
  replace hM := Mem.toTail (a := [.row (.slice A10 n10 c10) 71 1 n10 s10]) (b := rs11) (c := []) hM
  refine RW.st (Ex.assign (.slice A10 n10 c10) rfl) rfl <| RW.nil <| CW.seq <| CW.sr <| RW.st (Ex.move (.slice A2 n2 c2) rfl) rfl <| RW.st (Ex.lenN st47.1 rfl hF2.hn) rfl <| RW.st (Ex.move (.int .i64 0) rfl) rfl <| RW.nil <| CW.block ?_
  obtain ⟨m88, hm⟩ := hm
  skip
  refine CW.loop (β := Nat) (fun n σ w => ∃ (v16 : List (List Sec)), ∃ (A17 : Option Addr), ∃ (n18 : Nat), ∃ (c19 : Nat), ∃ (s20 : List Value), ∃ (rs21 : List Ent), ∃ (v24 : Int), ∃ Hk14, H8.le Hk14 ∧ (∃ τ, σ = sl [(8, .slice A17 n18 c19), (19, .slice A2 n2 c2), (20, .int .i64 ((x1.length : Int))), (21, .int .i64 v24)] τ) ∧ Mem w0 H w Hk14 (.row (.slice A17 n18 c19) 71 1 n18 s20 :: rs21) ∧ (DeepL (α := List Sec) [70] Hk14 s20 v16 rs21) ∧ (n18 = v16.length) ∧ LoopN (Z46 x1 Φ) n (v16, v24)) (fun n => n) m88 ⟨v7, A10, n10, c10, s10, rs11, 0, H8, (Hp.le.refl _), q43 ⟨rfl, rfl, rfl, rfl, trivial⟩, hM, hd12, hn13, hm⟩ ?_
  rintro k25 _ w ⟨v16, A17, n18, c19, s20, rs21, v24, Hk14, hle15, ⟨τ, rfl⟩, hM, hd22, hn23, hm⟩
  obtain _ | k25 := k25
  · exact hm.elim
  replace hm : (Z46 x1 Φ) (v16, v24) (LoopN (Z46 x1 Φ) k25) := hm
  generalize hrec26 : LoopN (Z46 x1 Φ) k25 = rec1 at hm; refine CW.sr <| RW.st (Ex.lss rfl rfl) rfl <| RW.nil <| CW.seq ?_
  refine CW.cond_dec (p := v24 < (x1.length : Int)) rfl (fun hc27 => ?_) (fun hc27 => ?_)
  ·
   replace hm := And.left hm hc27
   refine CW.skip <| CW.seq <| CW.block <| CW.sr <| RW.st (Ex.move (.int .i64 v24) rfl) rfl ?_
   obtain ⟨hg28, hm⟩ := hm; refine RW.st (Ex.index st47 rfl rfl v24.toNat (hF2.ne hg28) hg28.nat (hF2.lt hg28)) rfl ?_; obtain ⟨_, ⟨A29, n29, c29, s29, rfl, hF29⟩, hx30⟩ := DtL.getI (α := q8) (hF2.mono ((hle5.trans hle9).trans hle15)).dat hg28; refine RW.st (Ex.loadEA hM ((hle5.trans hle9).trans hle15) hF2.rdc [.int .i64 ((ix x1 v24).Volume), .int .i64 ((ix x1 v24).Start), .slice A29 n29 c29] ta73 rfl (hF2.ne hg28) rfl (q70 (off := 0) (n := 3) hx30 rfl)) rfl ?_; refine RW.alloc hM tz73 [.int .i64 0, .int .i64 0, .slice none 0 0] rfl rfl rfl ?_; intro b31 w hM; refine RW.st (Ex.assign (.int .i64 v24) rfl) rfl ?_; refine RW.store hM 0 (.agg #[.int .i64 ((ix x1 v24).Volume), .int .i64 ((ix x1 v24).Start), .slice A29 n29 c29]) [.int .i64 ((ix x1 v24).Volume), .int .i64 ((ix x1 v24).Start), .slice A29 n29 c29] [.int .i64 ((ix x1 v24).Volume), .int .i64 ((ix x1 v24).Start), .slice A29 n29 c29] sz73 rfl rfl rfl (q90 ⟨rfl, rfl, rfl, trivial⟩) rfl (nb rfl) rfl (.box b31 73 [.int .i64 ((ix x1 v24).Volume), .int .i64 ((ix x1 v24).Start), .slice A29 n29 c29] :: .row (.slice A17 n18 c19) 71 1 n18 s20 :: rs21) rfl rfl rfl ?_; intro w hM; refine RW.nil <| CW.seq <| CW.sr <| RW.st (Ex.move (.slice A17 n18 c19) rfl) rfl <| RW.st (Ex.loadA hM 0 [.int .i64 ((ix x1 v24).Volume), .int .i64 ((ix x1 v24).Start), .slice A29 n29 c29] ta73 rfl rfl rfl rfl) rfl ?_
   have hM1 := hM; obtain ⟨H32, hM, hle33, hd34⟩ := DeepL.flat (es := [.box b31 73 [.int .i64 ((ix x1 v24).Volume), .int .i64 ((ix x1 v24).Start), .slice A29 n29 c29], .row (.slice A17 n18 c19) 71 1 n18 s20]) hM hd22; obtain ⟨H35, hM, hle36, hF37⟩ := hM.giveF (α := List Sec) 1 rfl hd34 hn23; refine RW.callB hM1 hM (q294 v16 (ix x1 v24) hF37 (hF29.mono (hle33.trans hle36)) hm) en35 rfl rfl rfl rfl ?_; clear hM hM1; intro v38 w hm hM; refine RW.st (Ex.assign (.int .i64 v38) rfl) rfl <| RW.nil <| CW.sr <| RW.st (Ex.move (.int .i64 v38) rfl) rfl <| RW.st (Ex.neq rfl rfl) rfl <| RW.nil ?_
   refine CW.cond_dec (p := v38 ≠ 0) rfl (fun hc41 => ?_) (fun hc41 => ?_)
   ·
    replace hm := And.left hm hc41
    refine CW.sr <| RW.st (Ex.move (.int .i64 v24) rfl) rfl <| RW.st (Ex.move (.int .i64 v38) rfl) rfl <| RW.st (Ex.assign (.slice none 0 0) rfl) rfl <| RW.st (Ex.assign (.int .i64 v24) rfl) rfl <| RW.st (Ex.assign (.int .i64 v38) rfl) rfl <| RW.nil <| CW.ret ?_
    refine q149 (q314 (q149 (q149 (q314 (q149 ?_))))); refine q346 (.inl rfl) rfl (.slice none 0 0) (.int .i64 v24) (.int .i64 v38) rfl rfl rfl ?_
    replace hM := hM.nilRow 71 1
    exact ⟨_, _, ((Mem.dropT (L1 := [.row (.slice none 0 0) 71 1 0 [], .box b31 73 [.int .i64 ((ix x1 v24).Volume), .int .i64 ((ix x1 v24).Start), .slice A29 n29 c29], .row (.slice A17 n18 c19) 71 1 n18 s20]) (T := rs21) hM).pick [0] rfl rfl), (([] : List (List Sec)), v24, v38), hm, none, 0, 0, [], [], rfl, (DeepL.nil : DeepL (α := List Sec) [70] Hk14 [] [] []), rfl, rfl⟩
   ·
    replace hm := And.right hm hc41
    refine CW.skip ?_; obtain ⟨hg42, hm⟩ := hm; obtain ⟨c44, _, c45, _, rs46, rfl, ⟨A43, n43, c43, s43, rfl, rfl, hF43, hn48⟩, hh47, hM⟩ := Mem.focus [.box b31 73 [.int .i64 ((ix x1 v24).Volume), .int .i64 ((ix x1 v24).Start), .slice A29 n29 c29], .row (.slice A17 n18 c19) 71 1 n18 s20] hM hd22 hg42; have hx49 := Hole.get (ch := [.slice A43 n43 c43]) hh47; obtain ⟨hg55, hm⟩ := hm
    refine CW.drawL 10 [] [(fun Hq us E => us = [.slice A17 n18 c19] ∧ E = [] ∧ True), (fun Hq us E => us = [.pointer (some ⟨b31, 0, none⟩)] ∧ E = [] ∧ True), (fun Hq us E => us = [.int .i64 ((ix x1 v24).Volume)] ∧ E = [] ∧ True), (fun Hq us E => us = [elp A17 ((((ix x1 v24).Volume).toNat) * 1 + 0)] ∧ E = [] ∧ True), (fun Hq us E => us = [.slice A43 n43 c43] ∧ E = [] ∧ True), (fun Hq us E => us = [.pointer (some ⟨b31, 1, none⟩)] ∧ E = [] ∧ True), (fun Hq us E => us = [.int .i64 ((ix x1 v24).Start)] ∧ E = [] ∧ True), (fun Hq us E => ∃ (A56 : Option Addr), ∃ (n57 : Nat), ∃ (c58 : Nat), us = [.slice A56 n57 c58] ∧ E = [] ∧ View A43 n43 c43 8 ((ix x1 v24).Start) A56 n57 c58 ∧ True), (fun Hq us E => us = [.pointer (some ⟨b31, 2, none⟩)] ∧ E = [] ∧ True), (fun Hq us E => us = [.slice A29 n29 c29] ∧ E = [] ∧ True)]
     (fun k => [[0], [1], [2], [3], [4], [5], [6], [7], [8], [9]].getD k []) (fun _ => none) (by kernel_rfl) hM (by kernel_rfl) (by kernel_rfl) (by kernel_rfl) rfl (by simp only [List.forall_mem_cons]; exact ⟨fun _ _ _ _ hle ⟨e1, e2, _⟩ => ⟨e1, e2, trivial⟩, fun _ _ _ _ hle ⟨e1, e2, _⟩ => ⟨e1, e2, trivial⟩, fun _ _ _ _ hle ⟨e1, e2, _⟩ => ⟨e1, e2, trivial⟩, fun _ _ _ _ hle ⟨e1, e2, _⟩ => ⟨e1, e2, trivial⟩, fun _ _ _ _ hle ⟨e1, e2, _⟩ => ⟨e1, e2, trivial⟩, fun _ _ _ _ hle ⟨e1, e2, _⟩ => ⟨e1, e2, trivial⟩, fun _ _ _ _ hle ⟨e1, e2, _⟩ => ⟨e1, e2, trivial⟩, fun _ _ _ _ hle ⟨A56, n57, c58, e1, e2, hV59, _⟩ => ⟨A56, n57, c58, e1, e2, hV59, trivial⟩, fun _ _ _ _ hle ⟨e1, e2, _⟩ => ⟨e1, e2, trivial⟩, fun _ _ _ _ hle ⟨e1, e2, _⟩ => ⟨e1, e2, trivial⟩, by simp⟩) ⟨?_, ?_, ?_, ?_, ?_, ?_, ?_, ?_, ?_, ?_, trivial⟩ ?_
    ·
     intro H' σ' w R E hle hMR hE0 hE hp hf; obtain rfl := hE0 rfl; obtain ⟨τ, rfl⟩ := q43 (σ := σ') (l := [(8, .slice A17 n18 c19)]) ⟨(hf 8 (by kernel_rfl)).trans rfl, trivial⟩; have hM := Mem.subR (R := R) hMR; exact RW.step (Ex.move (.slice A17 n18 c19) rfl) rfl rfl rfl (RW.nil ⟨rfl, rfl, _, rfl, H', [], Hp.le.refl _, hMR, rfl, rfl, trivial⟩)
    ·
     intro H' σ' w R E hle hMR hE0 hE hp hf; obtain rfl := hE0 rfl; obtain ⟨τ, rfl⟩ := q43 (σ := σ') (l := [(10, .pointer (some ⟨b31, 0, none⟩))]) ⟨(hf 10 (by kernel_rfl)).trans rfl, trivial⟩; have hM := Mem.subR (R := R) hMR; exact RW.step (Ex.fieldAddr fa73_0 rfl) rfl rfl rfl (RW.nil ⟨rfl, rfl, _, rfl, H', [], Hp.le.refl _, hMR, rfl, rfl, trivial⟩)
    ·
     intro H' σ' w R E hle hMR hE0 hE hp hf; obtain rfl := hE0 rfl; obtain ⟨_, hg⟩ := hp 1 (by decide) (by kernel_rfl); obtain ⟨e60, _, _⟩ := hg.get rfl; have e61 : σ' 34 = .pointer (some ⟨b31, 0, none⟩) := (List.cons.inj e60).1; obtain ⟨τ, rfl⟩ := q43 (σ := σ') (l := [(34, .pointer (some ⟨b31, 0, none⟩))]) ⟨e61, trivial⟩; have hM := Mem.subR (R := R) hMR; exact RW.step (Ex.load1 hM 1 to3 rfl rfl rfl) rfl rfl rfl (RW.nil ⟨rfl, rfl, _, rfl, H', [], Hp.le.refl _, hMR, rfl, rfl, trivial⟩)
    ·
     intro H' σ' w R E hle hMR hE0 hE hp hf; obtain rfl := hE0 rfl; obtain ⟨_, hg⟩ := hp 0 (by decide) (by kernel_rfl); obtain ⟨e62, _, _⟩ := hg.get rfl; have e63 : σ' 33 = .slice A17 n18 c19 := (List.cons.inj e62).1; obtain ⟨_, hg⟩ := hp 2 (by decide) (by kernel_rfl); obtain ⟨e64, _, _⟩ := hg.get rfl; have e65 : σ' 35 = .int .i64 ((ix x1 v24).Volume) := (List.cons.inj e64).1; obtain ⟨τ, rfl⟩ := q43 (σ := σ') (l := [(33, .slice A17 n18 c19), (35, .int .i64 ((ix x1 v24).Volume))]) ⟨e63, e65, trivial⟩; have hM := Mem.subR (R := R) hMR; exact RW.step (Ex.index st55 rfl rfl (((ix x1 v24).Volume).toNat) (hM.rowNeD (α := List Sec) (p := 2) rfl hn23 hg42) hg42.nat (Nat.lt_of_lt_of_eq hg42.lt (hn23).symm)) rfl rfl rfl (RW.nil ⟨rfl, rfl, _, rfl, H', [], Hp.le.refl _, hMR, rfl, rfl, trivial⟩)
    ·
     intro H' σ' w R E hle hMR hE0 hE hp hf; obtain rfl := hE0 rfl; obtain ⟨_, hg⟩ := hp 3 (by decide) (by kernel_rfl); obtain ⟨e66, _, _⟩ := hg.get rfl; have e67 : σ' 36 = elp A17 ((((ix x1 v24).Volume).toNat) * 1 + 0) := (List.cons.inj e66).1; obtain ⟨τ, rfl⟩ := q43 (σ := σ') (l := [(36, elp A17 ((((ix x1 v24).Volume).toNat) * 1 + 0))]) ⟨e67, trivial⟩; have hM := Mem.subR (R := R) hMR; exact RW.step (Ex.loadR hM 2 rfl to71 (hM.rowNeD (α := List Sec) (p := 2) rfl hn23 hg42) rfl (hx49 0 _ rfl)) rfl rfl rfl (RW.nil ⟨rfl, rfl, _, rfl, H', [], Hp.le.refl _, hMR, rfl, rfl, trivial⟩)
    ·
     intro H' σ' w R E hle hMR hE0 hE hp hf; obtain rfl := hE0 rfl; obtain ⟨τ, rfl⟩ := q43 (σ := σ') (l := [(10, .pointer (some ⟨b31, 0, none⟩))]) ⟨(hf 10 (by kernel_rfl)).trans rfl, trivial⟩; have hM := Mem.subR (R := R) hMR; exact RW.step (Ex.fieldAddr fa73_1 rfl) rfl rfl rfl (RW.nil ⟨rfl, rfl, _, rfl, H', [], Hp.le.refl _, hMR, rfl, rfl, trivial⟩)
    ·
     intro H' σ' w R E hle hMR hE0 hE hp hf; obtain rfl := hE0 rfl; obtain ⟨_, hg⟩ := hp 5 (by decide) (by kernel_rfl); obtain ⟨e68, _, _⟩ := hg.get rfl; have e69 : σ' 38 = .pointer (some ⟨b31, 1, none⟩) := (List.cons.inj e68).1; obtain ⟨τ, rfl⟩ := q43 (σ := σ') (l := [(38, .pointer (some ⟨b31, 1, none⟩))]) ⟨e69, trivial⟩; have hM := Mem.subR (R := R) hMR; exact RW.step (Ex.load1 hM 1 to3 rfl rfl rfl) rfl rfl rfl (RW.nil ⟨rfl, rfl, _, rfl, H', [], Hp.le.refl _, hMR, rfl, rfl, trivial⟩)
    ·
     intro H' σ' w R E hle hMR hE0 hE hp hf; obtain rfl := hE0 rfl; obtain ⟨_, hg⟩ := hp 4 (by decide) (by kernel_rfl); obtain ⟨e70, _, _⟩ := hg.get rfl; have e71 : σ' 37 = .slice A43 n43 c43 := (List.cons.inj e70).1; obtain ⟨_, hg⟩ := hp 6 (by decide) (by kernel_rfl); obtain ⟨e72, _, _⟩ := hg.get rfl; have e73 : σ' 39 = .int .i64 ((ix x1 v24).Start) := (List.cons.inj e72).1; obtain ⟨τ, rfl⟩ := q43 (σ := σ') (l := [(37, .slice A43 n43 c43), (39, .int .i64 ((ix x1 v24).Start))]) ⟨e71, e73, trivial⟩; have hM := Mem.subR (R := R) hMR; refine RW.sliceLo st71 rfl rfl hn48 hg55 rfl rfl ?_; intro A56 n57 c58 hV59; exact RW.nil ⟨rfl, rfl, _, rfl, H', [], Hp.le.refl _, hMR, A56, n57, c58, rfl, rfl, hV59, trivial⟩
    ·
     intro H' σ' w R E hle hMR hE0 hE hp hf; obtain rfl := hE0 rfl; obtain ⟨τ, rfl⟩ := q43 (σ := σ') (l := [(10, .pointer (some ⟨b31, 0, none⟩))]) ⟨(hf 10 (by kernel_rfl)).trans rfl, trivial⟩; have hM := Mem.subR (R := R) hMR; exact RW.step (Ex.fieldAddr fa73_2 rfl) rfl rfl rfl (RW.nil ⟨rfl, rfl, _, rfl, H', [], Hp.le.refl _, hMR, rfl, rfl, trivial⟩)
    ·
     intro H' σ' w R E hle hMR hE0 hE hp hf; obtain rfl := hE0 rfl; obtain ⟨_, hg⟩ := hp 8 (by decide) (by kernel_rfl); obtain ⟨e74, _, _⟩ := hg.get rfl; have e75 : σ' 41 = .pointer (some ⟨b31, 2, none⟩) := (List.cons.inj e74).1; obtain ⟨τ, rfl⟩ := q43 (σ := σ') (l := [(41, .pointer (some ⟨b31, 2, none⟩))]) ⟨e75, trivial⟩; have hM := Mem.subR (R := R) hMR; exact RW.step (Ex.load1 hM 1 to71 rfl rfl rfl) rfl rfl rfl (RW.nil ⟨rfl, rfl, _, rfl, H', [], Hp.le.refl _, hMR, rfl, rfl, trivial⟩)
    ·
     intro HR8 σ' w X miss hms hleR hM hX hX0 hf; simp [subs] at hms; rcases hms with rfl
     ·
      obtain ⟨H76, hH8⟩ : ∃ x, x = HR8 := ⟨_, rfl⟩
      subst hH8; have hle77 := hleR; obtain ⟨_, g0, y0⟩ := hX 0 (by decide) (by kernel_rfl); obtain ⟨_, rfl, _⟩ := g0.get rfl
      replace y0 : X 0 = [] := y0
      obtain ⟨_, g0, y1⟩ := hX 1 (by decide) (by kernel_rfl); obtain ⟨_, rfl, _⟩ := g0.get rfl
      replace y1 : X 1 = [] := y1
      obtain ⟨_, g0, y2⟩ := hX 2 (by decide) (by kernel_rfl); obtain ⟨_, rfl, _⟩ := g0.get rfl
      replace y2 : X 2 = [] := y2
      obtain ⟨_, g0, y3⟩ := hX 3 (by decide) (by kernel_rfl); obtain ⟨_, rfl, _⟩ := g0.get rfl
      replace y3 : X 3 = [] := y3
      obtain ⟨_, g0, y4⟩ := hX 4 (by decide) (by kernel_rfl); obtain ⟨_, rfl, _⟩ := g0.get rfl
      replace y4 : X 4 = [] := y4
      obtain ⟨_, g0, y5⟩ := hX 5 (by decide) (by kernel_rfl); obtain ⟨_, rfl, _⟩ := g0.get rfl
      replace y5 : X 5 = [] := y5
      obtain ⟨_, g0, y6⟩ := hX 6 (by decide) (by kernel_rfl); obtain ⟨_, rfl, _⟩ := g0.get rfl
      replace y6 : X 6 = [] := y6
      obtain ⟨_, g0, y7⟩ := hX 7 (by decide) (by kernel_rfl); obtain ⟨A56, n57, c58, e78, rfl, hV59, _⟩ := g0.get rfl; have e79 : σ' 40 = .slice A56 n57 c58 := (List.cons.inj e78).1
      replace y7 : X 7 = [] := y7
      obtain ⟨_, g0, y8⟩ := hX 8 (by decide) (by kernel_rfl); obtain ⟨_, rfl, _⟩ := g0.get rfl
      replace y8 : X 8 = [] := y8
      obtain ⟨_, g0, y9⟩ := hX 9 (by decide) (by kernel_rfl); obtain ⟨e80, rfl, _⟩ := g0.get rfl; have e81 : σ' 42 = .slice A29 n29 c29 := (List.cons.inj e80).1
      replace y9 : X 9 = [] := y9
      have hfl : flatX X 10 = [] := by
       show X 0 ++ (X 1 ++ (X 2 ++ (X 3 ++ (X 4 ++ (X 5 ++ (X 6 ++ (X 7 ++ (X 8 ++ (X 9 ++ []))))))))) = _; rw [y0, y1, y2, y3, y4, y5, y6, y7, y8, y9]; rfl
      rw [hfl] at hM; obtain ⟨τ, rfl⟩ := q43 (σ := σ') (l := [(8, .slice A17 n18 c19), (19, .slice A2 n2 c2), (20, .int .i64 ((x1.length : Int))), (21, .int .i64 v24), (40, .slice A56 n57 c58), (42, .slice A29 n29 c29)]) ⟨(hf 8 (by kernel_rfl)).trans rfl, (hf 19 (by kernel_rfl)).trans rfl, (hf 20 (by kernel_rfl)).trans rfl, (hf 21 (by kernel_rfl)).trans rfl, e79, e81, trivial⟩; change RA _ _ _ _ _ _ _ (sl [(8, .slice A17 n18 c19), (19, .slice A2 n2 c2), (20, .int .i64 ((x1.length : Int))), (21, .int .i64 v24), (40, .slice A56 n57 c58), (42, .slice A29 n29 c29)] τ) _ 11 _; refine RA.step [10] (by kernel_rfl) rfl ⟨⟨_, rfl, ?_⟩, trivial⟩; refine RW.copyV (α := Sec) (xs := (ix v16 ((ix x1 v24).Volume))) (ys := (ix x1 v24).Data) hM 0 st71 rfl hV59 rfl (hF43.mono hle77) hn48 hg55 rfl hle77 hF29 rfl rfl ?_; intro s82 w hd83 hM; refine RW.nil ?_; refine And.intro rfl ?_; refine RA.done (by kernel_rfl) ?_; refine CW.region ?_; obtain ⟨hg84, hm⟩ := hm; refine RW.st (Ex.add rfl rfl hg84.1 hg84.2) rfl <| RW.st (Ex.move (.int .i64 (v24 + 1)) rfl) rfl <| RW.nil ?_
      obtain ⟨s85, rs86, hd87, hM⟩ := Mem.unfocus (α := List Sec) (Ts := [70]) (x := (paste (ix v16 ((ix x1 v24).Volume)) ((ix x1 v24).Start) ((ix x1 v24).Data))) [.box b31 73 [.int .i64 ((ix x1 v24).Volume), .int .i64 ((ix x1 v24).Start), .slice A29 n29 c29], .row (.slice A17 n18 c19) 71 1 n18 (c44 ++ ([.slice A43 n43 c43] ++ c45))] hM 1 rfl (hh47.mono hle77) ⟨A43, n43, c43, s82, rfl, rfl, hd83, (hn48).trans (q204 hg55).symm⟩; exact And.intro rfl ⟨k25, ⟨(put v16 ((ix x1 v24).Volume) (paste (ix v16 ((ix x1 v24).Volume)) ((ix x1 v24).Start) ((ix x1 v24).Data))), A17, n18, c19, s85, rs86, v24 + 1, H76, hle15.trans hle77, q43 ⟨rfl, rfl, rfl, rfl, trivial⟩, (Mem.pickT (L1 := [.box b31 73 [.int .i64 ((ix x1 v24).Volume), .int .i64 ((ix x1 v24).Start), .slice A29 n29 c29], .row (.slice A17 n18 c19) 71 1 n18 s85]) (T := rs86) hM [1] rfl rfl), hd87, (hn23).trans (q118 _ _ _).symm, (by rw [hrec26]; exact hm)⟩, Nat.lt_succ_self _⟩
  ·
   replace hm := And.right hm hc27
   refine CW.exit ?_; refine CW.sr <| RW.st (Ex.move (.slice A17 n18 c19) rfl) rfl <| RW.st (Ex.assign (.slice A17 n18 c19) rfl) rfl <| RW.st (Ex.assign (.int .i64 0) rfl) rfl <| RW.st (Ex.assign (.int .i64 0) rfl) rfl <| RW.nil <| CW.ret ?_
   refine q346 (.inl rfl) rfl (.slice A17 n18 c19) (.int .i64 0) (.int .i64 0) rfl rfl rfl ?_; exact ⟨_, _, hM, (v16, 0, 0), hm, A17, n18, c19, s20, rs21, rfl, hd22, hn23, rfl⟩
theorem pk47 (v : Value) (cs : List Value) : PkR Tryz.prog 47 v cs = (cs = [v]) := by kernel_rfl
set_option maxRecDepth 100000 in
theorem ok13 : ct13.Ok Tryz.prog tab gh := by
  intro x Φ hW H vs _ hA; obtain ⟨v0, k0, q0, rfl, p0, r0, v1, k1, q1, rfl, p1, r1, hq⟩ := hA; obtain rfl : q1 = [] := hq; rw [pk55] at p0; subst p0; obtain ⟨A0, n0, c0, s0, e0, hF0⟩ := (show Dt.rd (α := List (List Sec)) H _ _ from r0)
  obtain rfl := (List.cons.inj e0).1; rw [pk47] at p1; subst p1; obtain ⟨A1, n1, c1, s1, e1, hF1⟩ := (show Dt.rd (α := List q8) H _ _ from r1)
  obtain rfl := (List.cons.inj e1).1; have hW : q58 x.1 x.2.1 (fun y => Φ (y.1, y.2.1, y.2.2, ())) := hW; intro w hw; refine (q254 x.1 x.2.1 hF0 hF1 hW w hw).mono fun e w' ⟨v, H', L', h1, hM, y, hy, A, n, c, s, rs, hv, hd, hn, hL⟩ => ?_; subst hL; obtain ⟨H2, g1, g2, g3⟩ := DeepL.flat (es := [_]) hM hd; refine ⟨v, H2, _, h1, g1, _, hy, fun nx ρ0 hn0 s' b m hre => ?_⟩; rw [show resE Tryz.prog tab ct13.rs ct13.own (y.1, y.2.1, y.2.2, ()) nx = some (.tup [.own nx, .i .i64 y.2.1, .i .i64 y.2.2], [(nx, .row 71 y.1)], nx + 1) by kernel_rfl] at hre; cases hre; obtain ⟨f1, f2⟩ := q82 hn0 (.r A n c); exact ⟨ρ0.put nx (.r A n c), f1, Nat.le_succ _, f2, fun id hid => RM.put_ne _ _ (Nat.ne_of_lt hid), ⟨_, hv, _, _, rfl, ⟨A, n, c, RM.put_same _ _ _, rfl⟩, _, _, rfl, rfl, _, _, rfl, rfl, rfl⟩, _, _, rfl, ⟨A, n, c, s, RM.put_same _ _ _, rfl, g3, hn⟩, rfl⟩
theorem ok119 : ct119.Ok Tryz.prog tab gh := okU eq119 ⟨tabOk, ⟨ok44, trivial⟩, mo, trivial, ghUp, trivial, trivial⟩
theorem ok98 : ct98.Ok Tryz.prog tab gh := okU eq98 ⟨tabOk, ⟨ok44, ok119, trivial⟩, mo, trivial, ghUp, trivial, trivial⟩
theorem ok97 : ct97.Ok Tryz.prog tab gh := okU eq97 ⟨tabOk, ⟨ok33, ok35, trivial⟩, mo, trivial, ghUp, trivial, trivial⟩
theorem ok72 : ct72.Ok Tryz.prog tab gh := okU eq72 ⟨tabOk, ⟨ok60, trivial⟩, mo, trivial, ghUp, trivial, trivial⟩
theorem ok71 : ct71.Ok Tryz.prog tab gh := okU eq71 ⟨tabOk, ⟨ok45, ok72, trivial⟩, mo, trivial, ghUp, trivial, trivial⟩
theorem ok47 : ct47.Ok Tryz.prog tab gh := Ct.liftD (E := ⟨Tryz.prog, tab, [ct21, ct44, ct71, ct72, ct97, ct98], pl47, [], gh, [], [], []⟩) ⟨tabOk, ⟨ok21, ok44, ok71, ok72, ok97, ok98, trivial⟩, mo, trivial, ghUp, trivial, trivial⟩ 9 ct47 fun x Φ => by rw [eq47]; exact id
theorem ok99 : ct99.Ok Tryz.prog tab gh := okU eq99 ⟨tabOk, trivial, mo, trivial, ghUp, trivial, trivial⟩
theorem q595 : it100.Ok Tryz.prog gh := It.lift (E := ⟨Tryz.prog, tab, [], pl100, [], gh, [], [], []⟩) ⟨tabOk, trivial, mo, trivial, ghUp, trivial, trivial⟩ it100 fun x l => by rw [eqi100]; exact id
theorem ok101 : ct101.Ok Tryz.prog tab gh := okU eq101 ⟨tabOk, trivial, mo, trivial, ghUp, trivial, trivial⟩
theorem ok120 : ct120.Ok Tryz.prog tab gh := okU eq120 ⟨tabOk, trivial, mo, trivial, ghUp, trivial, trivial⟩
theorem ok144 : ct144.Ok Tryz.prog tab gh := okU eq144 ⟨tabOk, trivial, mo, trivial, ghUp, trivial, trivial⟩
theorem ok138 : ct138.Ok Tryz.prog tab gh := okU eq138 ⟨tabOk, ⟨ok144, trivial⟩, mo, trivial, ghUp, trivial, trivial⟩
theorem ok137 : ct137.Ok Tryz.prog tab gh := okU eq137 ⟨tabOk, trivial, mo, trivial, ghUp, trivial, trivial⟩
theorem ok122 : ct122.Ok Tryz.prog tab gh := okU eq122 ⟨tabOk, ⟨ok137, ok138, trivial⟩, mo, trivial, ghUp, trivial, trivial⟩
def Tryz.layP_ren : Go.Shelf.Ren := ⟨fun | 6 => 121 | 15 => 115 | 14 => 136 | 28 => 134 | 29 => 135 | 20 => 145 | 21 => 146 | 22 => 147 | 23 => 148 | 24 => 149 | 25 => 150 | 26 => 151 | 27 => 152 | 46 => 154 | 47 => 140 | 48 => 141 | 49 => 155 | 50 => 156 | 57 => 157 | n => n, fun | 22 => 186 | 24 => 184 | 25 => 188 | 3 => 3 | 39 => 68 | 0 => 0 | 53 => 157 | 55 => 160 | 4 => 4 | 46 => 193 | 45 => 192 | 50 => 91 | 5 => 5 | 9 => 9 | 66 => 202 | 70 => 206 | 76 => 213 | 77 => 214 | n => n, fun | n => n⟩
theorem Tryz.layP : Go.Proofs.SlLaysF0.n6 Tryz.prog Tryz.layP_ren := {
  mixed := by kernel_rfl
  f6 := ⟨Tryz.f121.name, by decide, Tryz.func121.trans (congrArg some (by kernel_rfl))⟩
  f14 := ⟨Tryz.f136.name, by decide, Tryz.func136.trans (congrArg some (by kernel_rfl))⟩
  f15 := Tryz.func115.trans (congrArg some (by kernel_rfl))
  f20 := ⟨Tryz.f145.name, by decide, Tryz.func145.trans (congrArg some (by kernel_rfl))⟩
  f21 := ⟨Tryz.f146.name, by decide, Tryz.func146.trans (congrArg some (by kernel_rfl))⟩
  f22 := ⟨Tryz.f147.name, by decide, Tryz.func147.trans (congrArg some (by kernel_rfl))⟩
  f23 := ⟨Tryz.f148.name, by decide, Tryz.func148.trans (congrArg some (by kernel_rfl))⟩
  f24 := ⟨Tryz.f149.name, by decide, Tryz.func149.trans (congrArg some (by kernel_rfl))⟩
  f25 := ⟨Tryz.f150.name, by decide, Tryz.func150.trans (congrArg some (by kernel_rfl))⟩
  f26 := ⟨Tryz.f151.name, by decide, Tryz.func151.trans (congrArg some (by kernel_rfl))⟩
  f27 := ⟨Tryz.f152.name, by decide, Tryz.func152.trans (congrArg some (by kernel_rfl))⟩
  f28 := Tryz.func134.trans (congrArg some (by kernel_rfl))
  f29 := Tryz.func135.trans (congrArg some (by kernel_rfl))
  f46 := ⟨Tryz.f154.name, by decide, Tryz.func154.trans (congrArg some (by kernel_rfl))⟩
  f47 := Tryz.func140.trans (congrArg some (by kernel_rfl))
  f48 := Tryz.func141.trans (congrArg some (by kernel_rfl))
  f49 := ⟨Tryz.f155.name, by decide, Tryz.func155.trans (congrArg some (by kernel_rfl))⟩
  f50 := ⟨Tryz.f156.name, by decide, Tryz.func156.trans (congrArg some (by kernel_rfl))⟩
  f57 := ⟨Tryz.f157.name, by decide, Tryz.func157.trans (congrArg some (by kernel_rfl))⟩
  t0 := Tryz.underlying0
  a0 := Tryz.isAgg0
  z0 := Tryz.sizeOf0
  v0 := Tryz.zeroValue0
  t3 := Tryz.underlying3
  a3 := Tryz.isAgg3
  z3 := Tryz.sizeOf3
  v3 := Tryz.zeroValue3
  t4 := Tryz.underlying4
  a4 := Tryz.isAgg4
  z4 := Tryz.sizeOf4
  v4 := Tryz.zeroValue4
  t5 := Tryz.underlying5
  a5 := Tryz.isAgg5
  z5 := Tryz.sizeOf5
  v5 := Tryz.zeroValue5
  t9 := Tryz.underlying9
  a9 := Tryz.isAgg9
  z9 := Tryz.sizeOf9
  v9 := Tryz.zeroValue9
  t22 := Tryz.underlying186
  a22 := Tryz.isAgg186
  z22 := Tryz.sizeOf186
  v22 := Tryz.zeroValue186
  t25 := Tryz.underlying188
  a25 := Tryz.isAgg188
  z25 := Tryz.sizeOf188
  v25 := Tryz.zeroValue188
  t39 := Tryz.underlying68
  a39 := Tryz.isAgg68
  z39 := Tryz.sizeOf68
  v39 := Tryz.zeroValue68
  t45 := Tryz.underlying192
  a45 := Tryz.isAgg192
  z45 := Tryz.sizeOf192
  v45 := Tryz.zeroValue192
  t46 := Tryz.underlying193
  a46 := Tryz.isAgg193
  z46 := Tryz.sizeOf193
  v46 := Tryz.zeroValue193
  t50 := Tryz.underlying91
  a50 := Tryz.isAgg91
  z50 := Tryz.sizeOf91
  v50 := Tryz.zeroValue91
  t53 := Tryz.underlying157
  a53 := Tryz.isAgg157
  z53 := Tryz.sizeOf157
  v53 := Tryz.zeroValue157
  t55 := Tryz.underlying160
  a55 := Tryz.isAgg160
  z55 := Tryz.sizeOf160
  v55 := Tryz.zeroValue160
  t66 := Tryz.underlying202
  a66 := Tryz.isAgg202
  z66 := Tryz.sizeOf202
  v66 := Tryz.zeroValue202
  t70 := Tryz.underlying206
  a70 := Tryz.isAgg206
  z70 := Tryz.sizeOf206
  v70 := Tryz.zeroValue206
  t76 := Tryz.underlying213
  a76 := Tryz.isAgg213
  z76 := Tryz.sizeOf213
  v76 := Tryz.zeroValue213
  t77 := Tryz.underlying214
  a77 := Tryz.isAgg214
  z77 := Tryz.sizeOf214
  v77 := Tryz.zeroValue214 }
theorem pk184 (v : Value) (cs : List Value) : PkR Tryz.prog 184 v cs = (v = .agg cs.toArray) := by kernel_rfl
def encP (x : q9) : List Value := [.int .i64 x.volume, .int .i64 x.sector]
theorem q441 {H : Hp} (hG : gh H) (x y : q9) (W : World) (hag : ∀ b o, H b = some o → W.heap[b]? = some o) : Calls Tryz.prog 122 #[.agg (encP x).toArray, .agg (encP y).toArray] W fun e w' => e = .returned (.int .i64 (cmpP x y)) ∧ ∃ q os, w' = Sort.grow (W.drewN q) os := by
  refine (ok122 (x, y, ()) (fun v => v.1 = cmpP x y) (q593 x y) H [.agg (encP x).toArray, .agg (encP y).toArray] hG ⟨_, encP x, _, rfl, by rw [pk184], rfl, _, encP y, _, rfl, by rw [pk184], rfl, rfl⟩ W hag).mono fun e w' ⟨v, H', L', h1, hM, y', hy, hr⟩ => ?_; obtain ⟨ρ, _, _, _, _, h2, _⟩ := hr 0 (fun _ => none) (fun _ _ => rfl) _ _ _ (show resE Tryz.prog tab ct122.rs ct122.own y' 0 = some (.i .i64 y'.1, [], 0) by kernel_rfl); have h2 : v = .int .i64 y'.1 := h2; exact ⟨by rw [h1, h2, hy], hM.below.grow⟩
set_option maxRecDepth 100000 in
theorem tnh121 {xs : List q9} {Φ : List q9 → Prop} (hlen : xs.length ≤ 1099511627776) (hW : Φ (sortG pleB xs)) {H : Hp} {w : World} {base : Nat} {v : Value} {n : Nat} {s : List Value} (hG : gh H) (hag : ∀ b o, H b = some o → w.heap[b]? = some o) (hap : ∀ b, v.ownBlock = some b → H b = none) (ho : w.ownsRow base 184 2 v n s) (hn : n = xs.length) (hd : DtL (α := q9) H s xs) : Calls Tryz.prog 121 (v :: fnVs [122]).toArray w fun e w' => e = .returned (.tuple #[]) ∧ ∃ (ys : List q9) (s' : List Value), Φ ys ∧ DtL (α := q9) H s' ys ∧ ys.length = xs.length ∧ w.grownBy w' v.ownBlock ∧ w.drawn ≤ w'.drawn ∧ w'.ownsRow base 184 2 v n s' := by
  have hs := hd.enc (enc := encP) fun _ _ _ h => h; have hk : ∀ x : q9, (encP x).length = 2 := fun _ => rfl
  have none : ∀ p cap, v = .slice p 0 cap → n = 0 → Calls Tryz.prog 121 (v :: fnVs [122]).toArray w fun e w' => e = .returned (.tuple #[]) ∧ ∃ (ys : List q9) (s' : List Value), Φ ys ∧ DtL (α := q9) H s' ys ∧ ys.length = xs.length ∧ w.grownBy w' v.ownBlock ∧ w.drawn ≤ w'.drawn ∧ w'.ownsRow base 184 2 v n s' := by
    intro p cap hv h0; have hx : xs = [] := List.eq_nil_of_length_eq_zero (hn.symm.trans h0); have hc := AnyF.slices_SortFunc_none (P := Tryz.prog) (ρ := Tryz.layP_ren) { Tryz.layP with } p cap (.func (.func 122) #[] #[]) w; change Calls Tryz.prog 121 _ _ _ at hc; rw [hv]; refine hc.mono fun e w' ⟨h2, h3⟩ => ⟨h2, xs, s, ?_, hd, rfl, ?_, ?_, ?_⟩
    · rw [hx] at hW ⊢; exact hW
    · rw [h3]; exact ⟨rfl, rfl, rfl, Nat.le_refl _, fun _ _ _ => rfl⟩
    · rw [h3]; exact Nat.le_refl _
    · rw [h3, ← hv]; exact ho
  obtain ⟨_, ⟨hv, h0⟩ | ⟨b, cap, cur, hv, _⟩⟩ := id ho
  · exact none _ _ hv h0
  · subst hv
    haveI : Inhabited q9 := ⟨⟨0, 0⟩⟩
    have hfl : (Sort.flatK encP 2 xs.toArray).toList = s := by rw [q329 hk, hs]
    obtain ⟨hH, hb⟩ := q328 (enc := id) (d := Sort.flatK encP 2 xs.toArray) ho (by rw [List.map_id_fun, hfl]; rfl); have hgH : H b = Option.none := hap b rfl; have eg : ∀ args w, (callFunc 122 args).run Tryz.prog w = .ok (.enter 122 args) w := enters_of Tryz.func122 (by kernel_rfl) rfl
    have hcmp : CmpLays Tryz.prog 122 #[] encP 2 cmpP b 0 xs.toArray.size w := fun m os dk _ p q => by
      refine q441 hG p q _ fun b' o hbo => ?_; have h1 := hag b' o hbo; have hne : b' ≠ b := by rintro rfl; rw [hgH] at hbo; cases hbo
      exact (q327 id 0 m (Sort.flatK encP 2 dk) os (q31 h1) hne).trans h1
    have ht : TyAgg Tryz.prog 184 2 := q351 (by kernel_rfl); obtain ⟨⟨ds, t1, t2⟩, ⟨ti, t3, t4⟩⟩ := ht; have hc := AnyQ.slices_SortFunc_total Tryz.layP 2 (fun w => (q79 t1 w).trans (by rw [t2])) (fun w => (q20 t3 w).trans (by rw [t4])) encP hk (fun x u hu => by simp only [encP, List.mem_cons, List.not_mem_nil, or_false] at hu; rcases hu with rfl | rfl <;> rfl) cmpP swoP 122 #[] b 0 cap xs.toArray w eg hcmp hH hb (by rw [List.size_toArray]; omega) q524; change Calls Tryz.prog 121 _ _ _ at hc; rw [List.size_toArray, ← hn] at hc; refine hc.mono fun e w' ⟨h2, m, os, h3⟩ => ?_; rw [mergeP] at h3; refine ⟨h2, sortG pleB xs, (sortG pleB xs).flatMap encP, hW, DtL.ofEnc (fun _ _ => rfl) _, (q40 pleB xs).length_eq, ?_, ?_, ?_⟩
    · rw [h3]; exact q245 id 0 m (Sort.flatK encP 2 (sortG pleB xs).toArray) os
    · rw [h3]; exact Nat.le_add_right _ _
    · rw [h3]
      have := q288 id m (Sort.flatK encP 2 (sortG pleB xs).toArray) os ho (by rw [Sort.size_flatK, List.size_toArray, (q40 pleB xs).length_eq, hn]); rw [List.map_id_fun, id, q329 hk] at this; exact this
theorem tnok121 : tn121.Ok Tryz.prog gh := fun _ _ hW _ _ _ _ _ _ hG hag hap ho hn hd => tnh121 hW.1 hW.2 hG hag hap ho hn hd
theorem ok76 : ct76.Ok Tryz.prog tab gh := Ct.lift (E := ⟨Tryz.prog, tab, [ct101, ct120], pl76, [], gh, [tn121], [([11, 0, 1, 1, 1, 1, 1, 1, 1, 12, 0, 1, 1], 0), ([16, 2, 1, 0, 1, 4, 0, 1, 1, 5, 4, 1, 0, 1, 1, 1, 1, 1, 1, 12, 0, 1, 1], 70002), ([17, 2, 1, 0, 1, 4, 0, 1, 1, 5, 4, 1, 0, 1, 1, 1, 1, 1, 1, 12, 0, 1, 1], 0)], []⟩) ⟨tabOk, ⟨ok101, ok120, trivial⟩, mo, trivial, ghUp, ⟨tnok121, trivial⟩, trivial⟩ 9 ct76 fun x Φ => by rw [eq76]; exact id
theorem ok78 : ct78.Ok Tryz.prog tab gh := Ct.lift (E := ⟨Tryz.prog, tab, [ct44, ct72], pl78, [it100], gh, [], [], []⟩) ⟨tabOk, ⟨ok44, ok72, trivial⟩, mo, ⟨q595, trivial⟩, ghUp, trivial, trivial⟩ 9 ct78 fun x Φ => by rw [eq78]; exact id
theorem ok48 : ct48.Ok Tryz.prog tab gh := Ct.liftD (E := ⟨Tryz.prog, tab, [ct21, ct44, ct45, ct76, ct78, ct97, ct98, ct99], pl48, [it100], gh, [], [([18, 0, 1, 4, 0, 1, 1, 5, 4, 1, 0, 1, 1, 12, 0, 1, 1, 1, 1, 1], 0)], []⟩) ⟨tabOk, ⟨ok21, ok44, ok45, ok76, ok78, ok97, ok98, ok99, trivial⟩, mo, ⟨q595, trivial⟩, ghUp, trivial, trivial⟩ 9 ct48 fun x Φ => by rw [eq48]; exact id
theorem ok104 : ct104.Ok Tryz.prog tab gh := okU eq104 ⟨tabOk, trivial, mo, trivial, ghUp, trivial, trivial⟩
theorem ok82 : ct82.Ok Tryz.prog tab gh := okU eq82 ⟨tabOk, ⟨ok46, trivial⟩, mo, trivial, ghUp, trivial, trivial⟩
theorem ok109 : ct109.Ok Tryz.prog tab gh := okU eq109 ⟨tabOk, ⟨ok21, ok97, trivial⟩, mo, trivial, ghUp, trivial, trivial⟩
theorem ok81 : ct81.Ok Tryz.prog tab gh := okU eq81 ⟨tabOk, ⟨ok21, ok44, ok98, ok109, trivial⟩, mo, trivial, ghUp, trivial, trivial⟩
theorem ok110 : ct110.Ok Tryz.prog tab gh := okU eq110 ⟨tabOk, trivial, mo, trivial, ghUp, trivial, trivial⟩
theorem ok83 : ct83.Ok Tryz.prog tab gh := okU eq83 ⟨tabOk, ⟨ok110, trivial⟩, mo, trivial, ghUp, trivial, trivial⟩
theorem ok90 : ct90.Ok Tryz.prog tab gh := okU eq90 ⟨tabOk, trivial, mo, trivial, ghUp, trivial, trivial⟩
theorem ok106 : ct106.Ok Tryz.prog tab gh := okU eq106 ⟨tabOk, ⟨ok83, ok90, trivial⟩, mo, trivial, ghUp, trivial, trivial⟩
theorem ok108 : ct108.Ok Tryz.prog tab gh := okU eq108 ⟨tabOk, trivial, mo, trivial, ghUp, trivial, trivial⟩
theorem ok80 : ct80.Ok Tryz.prog tab gh := okU eq80 ⟨tabOk, ⟨ok108, trivial⟩, mo, trivial, ghUp, trivial, trivial⟩
theorem ok79 : ct79.Ok Tryz.prog tab gh := okU eq79 ⟨tabOk, ⟨ok80, ok81, ok82, ok83, ok104, ok106, trivial⟩, mo, trivial, ghUp, trivial, trivial⟩
theorem ok111 : ct111.Ok Tryz.prog tab gh := okU eq111 ⟨tabOk, trivial, mo, trivial, ghUp, trivial, trivial⟩
theorem ok85 : ct85.Ok Tryz.prog tab gh := okU eq85 ⟨tabOk, ⟨ok45, ok60, trivial⟩, mo, trivial, ghUp, trivial, trivial⟩
theorem ok84 : ct84.Ok Tryz.prog tab gh := okU eq84 ⟨tabOk, ⟨ok45, ok85, ok111, trivial⟩, mo, trivial, ghUp, trivial, trivial⟩
def Tryz.layS_ren : Go.Shelf.Ren := ⟨fun | 5 => 87 | 8 => 115 | 7 => 114 | 19 => 134 | 20 => 135 | 10 => 125 | 11 => 126 | 12 => 127 | 13 => 128 | 14 => 129 | 15 => 130 | 16 => 131 | 17 => 132 | 18 => 133 | 30 => 139 | 31 => 140 | 32 => 141 | 33 => 142 | 34 => 143 | 35 => 144 | 40 => 153 | n => n, fun | 23 => 23 | 25 => 3 | 3 => 3 | 32 => 68 | 22 => 23 | 0 => 0 | 44 => 157 | 46 => 160 | 4 => 4 | 36 => 193 | 35 => 192 | 41 => 91 | 5 => 5 | 9 => 9 | 53 => 202 | 57 => 206 | 63 => 213 | 64 => 214 | n => n, fun | n => n⟩
theorem Tryz.layS : Go.Proofs.SlLaysM.n5 Tryz.prog Tryz.layS_ren := {
  mixed := by kernel_rfl
  f5 := ⟨Tryz.f87.name, by decide, Tryz.func87.trans (congrArg some (by kernel_rfl))⟩
  f7 := ⟨Tryz.f114.name, by decide, Tryz.func114.trans (congrArg some (by kernel_rfl))⟩
  f8 := Tryz.func115.trans (congrArg some (by kernel_rfl))
  f10 := ⟨Tryz.f125.name, by decide, Tryz.func125.trans (congrArg some (by kernel_rfl))⟩
  f11 := ⟨Tryz.f126.name, by decide, Tryz.func126.trans (congrArg some (by kernel_rfl))⟩
  f12 := ⟨Tryz.f127.name, by decide, Tryz.func127.trans (congrArg some (by kernel_rfl))⟩
  f13 := ⟨Tryz.f128.name, by decide, Tryz.func128.trans (congrArg some (by kernel_rfl))⟩
  f14 := ⟨Tryz.f129.name, by decide, Tryz.func129.trans (congrArg some (by kernel_rfl))⟩
  f15 := ⟨Tryz.f130.name, by decide, Tryz.func130.trans (congrArg some (by kernel_rfl))⟩
  f16 := ⟨Tryz.f131.name, by decide, Tryz.func131.trans (congrArg some (by kernel_rfl))⟩
  f17 := ⟨Tryz.f132.name, by decide, Tryz.func132.trans (congrArg some (by kernel_rfl))⟩
  f18 := ⟨Tryz.f133.name, by decide, Tryz.func133.trans (congrArg some (by kernel_rfl))⟩
  f19 := Tryz.func134.trans (congrArg some (by kernel_rfl))
  f20 := Tryz.func135.trans (congrArg some (by kernel_rfl))
  f30 := ⟨Tryz.f139.name, by decide, Tryz.func139.trans (congrArg some (by kernel_rfl))⟩
  f31 := Tryz.func140.trans (congrArg some (by kernel_rfl))
  f32 := Tryz.func141.trans (congrArg some (by kernel_rfl))
  f33 := ⟨Tryz.f142.name, by decide, Tryz.func142.trans (congrArg some (by kernel_rfl))⟩
  f34 := ⟨Tryz.f143.name, by decide, Tryz.func143.trans (congrArg some (by kernel_rfl))⟩
  f35 := ⟨Tryz.f144.name, by decide, Tryz.func144.trans (congrArg some (by kernel_rfl))⟩
  f40 := ⟨Tryz.f153.name, by decide, Tryz.func153.trans (congrArg some (by kernel_rfl))⟩
  t0 := Tryz.underlying0
  a0 := Tryz.isAgg0
  z0 := Tryz.sizeOf0
  v0 := Tryz.zeroValue0
  t3 := Tryz.underlying3
  a3 := Tryz.isAgg3
  z3 := Tryz.sizeOf3
  v3 := Tryz.zeroValue3
  t4 := Tryz.underlying4
  a4 := Tryz.isAgg4
  z4 := Tryz.sizeOf4
  v4 := Tryz.zeroValue4
  t5 := Tryz.underlying5
  a5 := Tryz.isAgg5
  z5 := Tryz.sizeOf5
  v5 := Tryz.zeroValue5
  t9 := Tryz.underlying9
  a9 := Tryz.isAgg9
  z9 := Tryz.sizeOf9
  v9 := Tryz.zeroValue9
  t22 := Tryz.underlying23
  a22 := Tryz.isAgg23
  z22 := Tryz.sizeOf23
  v22 := Tryz.zeroValue23
  t23 := Tryz.underlying23
  a23 := Tryz.isAgg23
  z23 := Tryz.sizeOf23
  v23 := Tryz.zeroValue23
  t25 := Tryz.underlying3
  a25 := Tryz.isAgg3
  z25 := Tryz.sizeOf3
  v25 := Tryz.zeroValue3
  t32 := Tryz.underlying68
  a32 := Tryz.isAgg68
  z32 := Tryz.sizeOf68
  v32 := Tryz.zeroValue68
  t35 := Tryz.underlying192
  a35 := Tryz.isAgg192
  z35 := Tryz.sizeOf192
  v35 := Tryz.zeroValue192
  t36 := Tryz.underlying193
  a36 := Tryz.isAgg193
  z36 := Tryz.sizeOf193
  v36 := Tryz.zeroValue193
  t41 := Tryz.underlying91
  a41 := Tryz.isAgg91
  z41 := Tryz.sizeOf91
  v41 := Tryz.zeroValue91
  t44 := Tryz.underlying157
  a44 := Tryz.isAgg157
  z44 := Tryz.sizeOf157
  v44 := Tryz.zeroValue157
  t46 := Tryz.underlying160
  a46 := Tryz.isAgg160
  z46 := Tryz.sizeOf160
  v46 := Tryz.zeroValue160
  t53 := Tryz.underlying202
  a53 := Tryz.isAgg202
  z53 := Tryz.sizeOf202
  v53 := Tryz.zeroValue202
  t57 := Tryz.underlying206
  a57 := Tryz.isAgg206
  z57 := Tryz.sizeOf206
  v57 := Tryz.zeroValue206
  t63 := Tryz.underlying213
  a63 := Tryz.isAgg213
  z63 := Tryz.sizeOf213
  v63 := Tryz.zeroValue213
  t64 := Tryz.underlying214
  a64 := Tryz.isAgg214
  z64 := Tryz.sizeOf214
  v64 := Tryz.zeroValue214 }
theorem tnh87 {xs : List (Int)} {Φ : List (Int) → Prop} (hlen : xs.length ≤ 1099511627776) (hW : Φ (sortI xs)) {H : Hp} {w : World} {base : Nat} {v : Value} {n : Nat} {s : List Value} (_ : ∀ b o, H b = some o → w.heap[b]? = some o) (_ : ∀ b, v.ownBlock = some b → H b = none) (ho : w.ownsRow base 3 1 v n s) (hn : n = xs.length) (hd : DtL (α := Int) H s xs) : Calls Tryz.prog 87 (v :: fnVs []).toArray w fun e w' => e = .returned (.tuple #[]) ∧ ∃ (ys : List (Int)) (s' : List Value), Φ ys ∧ DtL (α := Int) H s' ys ∧ ys.length = xs.length ∧ w.grownBy w' v.ownBlock ∧ w.drawn ≤ w'.drawn ∧ w'.ownsRow base 3 1 v n s' := by
  obtain rfl := DtL.ints hd; obtain ⟨_, ⟨hv, h0⟩ | ⟨g, cap, cur, hv, _⟩⟩ := id ho
  · subst hv
    have hx : xs = [] := List.eq_nil_of_length_eq_zero (hn.symm.trans h0); have hc := AnyM.slices_Sort_int_none Tryz.layS none 0 w; change Calls Tryz.prog 87 _ _ _ at hc; refine hc.mono fun e w' ⟨h2, h3⟩ => ⟨h2, xs, _, ?_, hd, rfl, ?_, ?_, ?_⟩
    · rw [hx] at hW ⊢; exact hW
    · rw [h3]; exact ⟨rfl, rfl, rfl, Nat.le_refl _, fun _ _ _ => rfl⟩
    · rw [h3]; exact Nat.le_refl _
    · rw [h3]; exact ho
  · subst hv
    obtain ⟨hH, hb⟩ := q328 (enc := Value.int .i64) (d := xs.toArray) ho (by simp); have hc := AnyM.slices_Sort_int Tryz.layS g 0 cap xs w hH hb (by omega); change Calls Tryz.prog 87 _ _ _ at hc; rw [← hn] at hc; refine hc.mono fun e w' ⟨h2, m, os, h3⟩ => ⟨h2, sortI xs, _, hW, DtL.ofInts _, (q174 xs).length_eq, ?_, ?_, ?_⟩
    · rw [h3]; exact q245 _ _ _ _ _
    · rw [h3]; exact Nat.le_add_right _ _
    · rw [h3, q440]
      have := q288 (Value.int .i64) m (sortI xs).toArray os ho (by rw [List.size_toArray, (q174 xs).length_eq, hn]; exact (Nat.mul_one _).symm); exact this
theorem tnok87 : tn87.Ok Tryz.prog gh := fun _ _ hW _ _ _ _ _ _ _ hag hap ho hn hd => tnh87 hW.1 hW.2 hag hap ho hn hd
theorem ok49 : ct49.Ok Tryz.prog tab gh := Ct.lift (E := ⟨Tryz.prog, tab, [ct79, ct80, ct81, ct82, ct83, ct84, ct85], pl49, [], gh, [tn87], [], []⟩) ⟨tabOk, ⟨ok79, ok80, ok81, ok82, ok83, ok84, ok85, trivial⟩, mo, trivial, ghUp, ⟨tnok87, trivial⟩, trivial⟩ 9 ct49 fun x Φ => by rw [eq49]; exact id
theorem ok88 : ct88.Ok Tryz.prog tab gh := okU eq88 ⟨tabOk, ⟨ok79, trivial⟩, mo, trivial, ghUp, trivial, trivial⟩
theorem ok52 : ct52.Ok Tryz.prog tab gh := okU eq52 ⟨tabOk, ⟨ok85, ok88, trivial⟩, mo, trivial, ghUp, trivial, trivial⟩
theorem ok53 : ct53.Ok Tryz.prog tab gh := okU eq53 ⟨tabOk, ⟨ok13, ok33, ok81, trivial⟩, mo, trivial, ghUp, trivial, trivial⟩
theorem ok86 : ct86.Ok Tryz.prog tab gh := okU eq86 ⟨tabOk, ⟨ok80, trivial⟩, mo, trivial, ghUp, trivial, trivial⟩
theorem ok54 : ct54.Ok Tryz.prog tab gh := okU eq54 ⟨tabOk, ⟨ok84, ok86, ok88, ok90, trivial⟩, mo, trivial, ghUp, trivial, trivial⟩
theorem ok56 : ct56.Ok Tryz.prog tab gh := okU eq56 ⟨tabOk, trivial, mo, trivial, ghUp, trivial, trivial⟩
theorem ok28 : ct28.Ok Tryz.prog tab gh := okU eq28 ⟨tabOk, ⟨ok56, trivial⟩, mo, trivial, ghUp, trivial, trivial⟩
theorem ok57 : ct57.Ok Tryz.prog tab gh := okU eq57 ⟨tabOk, trivial, mo, trivial, ghUp, trivial, trivial⟩
theorem ok29 : ct29.Ok Tryz.prog tab gh := okU eq29 ⟨tabOk, ⟨ok6, ok57, trivial⟩, mo, trivial, ghUp, trivial, trivial⟩
theorem ok11 : ct11.Ok Tryz.prog tab gh := okU eq11 ⟨tabOk, ⟨ok29, ok30, trivial⟩, mo, trivial, ghUp, trivial, trivial⟩
theorem ok3 : ct3.Ok Tryz.prog tab gh := okU eq3 ⟨tabOk, ⟨ok5, ok6, ok7, ok11, ok13, ok16, ok21, ok22, ok23, ok28, ok47, ok48, ok49, ok52, ok53, ok54, trivial⟩, mo, trivial, ghUp, trivial, trivial⟩
section
theorem iI {x : Int} (h1 : -9223372036854775808 ≤ x) (h2 : x ≤ 9223372036854775807) : inI x := ⟨h1, h2⟩
theorem iX {i : Int} {n : Nat} (h1 : 0 ≤ i) (h2 : i < (n : Int)) : inX i n := ⟨h1, h2⟩
theorem iS {a b : Int} {n : Nat} (h1 : 0 ≤ a) (h2 : a ≤ b) (h3 : b ≤ (n : Int)) : inS a b n := ⟨h1, h2, h3⟩
theorem iL {n b : Nat} (h : n ≤ 1000000) (hb : b ≤ 1000000) : lenOk n b := by
  have := Nat.mul_le_mul h hb; refine ⟨by omega, ?_⟩; simp only [maxLen]; omega
section
variable {α : Type} [Dt α]
theorem q500 (xs : List α) (k : Nat) : ix xs (k : Int) = xs.getD k default := rfl
theorem q50 {xs : List α} {k : Nat} (h : k < xs.length) : ix xs (k : Int) = xs[k] := by
  show xs.getD k default = _; rw [List.getD_eq_getElem?_getD, List.getElem?_eq_getElem h]; rfl
theorem q88 {xs : List α} {k : Nat} (h : k < xs.length) : xs.take (k + 1) = xs.take k ++ [ix xs (k : Int)] := by
  rw [q50 h]; exact (List.take_append_getElem h).symm
theorem q92 {xs : List α} {i : Int} (h : inX i xs.length) : ix xs i ∈ xs := by
  have e := h.nat; have hl := h.lt; rw [e, q50 hl]; exact List.getElem_mem hl
theorem q220 {xs ys : List α} (hl : xs.length = ys.length) (h : ∀ k : Nat, k < xs.length → ix xs (k : Int) = ix ys (k : Int)) : xs = ys := by
  apply List.ext_getElem hl
  intro k h1 h2; have := h k h1; rwa [q50 h1, q50 h2] at this
end
section
variable {A : Type}
theorem LoopW.upS {S : Type} {step : S → (S → Prop) → Prop} (n : Nat) (idx : S → Int) (Inv : Nat → S → Prop) (h : ∀ (k : Nat) s rec, k ≤ n → idx s = (k : Int) → Inv k s → (∀ s', k < n → idx s' = (k : Int) + 1 → Inv (k + 1) s' → rec s') → step s rec) {s0 : S} (k0 : Nat) (hi : idx s0 = (k0 : Int)) (hk : k0 ≤ n) (h0 : Inv k0 s0) : LoopW step s0 := by
  refine LoopW.of_inv (fun s => ∃ k : Nat, idx s = (k : Int) ∧ k ≤ n ∧ Inv k s) (fun s => n - (idx s).toNat) ?_ ⟨k0, hi, hk, h0⟩
  rintro s rec ⟨k, he, hk, hI⟩ hrec
  refine h k s rec hk he hI fun s' hlt he' hI' => hrec s' ⟨k + 1, by rw [he']; rfl, hlt, hI'⟩ ?_; show n - (idx s').toNat < n - (idx s).toNat; rw [he, he']; omega
def q75 (f : Nat → Int) : Nat → Int
  | 0 => 0
  | n + 1 => if q75 f n ≠ 0 then q75 f n else f n
theorem q330 {f : Nat → Int} : ∀ {n k : Nat}, k < n → (∀ j, j < k → f j = 0) → f k ≠ 0 → q75 f n = f k
  | 0, _, hk, _, _ => by omega
  | n + 1, k, hk, h0, h1 => by
    unfold q75; rcases Nat.lt_or_ge k n with h | h
    · rw [q330 h h0 h1, if_pos h1]
    · have e : k = n := by omega
      subst e
      have : q75 f k = 0 := by
        clear h1 hk h
        induction k with
        | zero => rfl
        | succ k ih => unfold q75; rw [ih fun j hj => h0 j (by omega), if_neg (by simp), h0 k (by omega)]
      rw [this, if_neg (by simp)]
theorem q33 {f : Nat → Int} : ∀ {n : Nat}, q75 f n = 0 ↔ ∀ k, k < n → f k = 0
  | 0 => by simp [q75]
  | n + 1 => by
    unfold q75; constructor
    · intro h k hk
      by_cases h1 : q75 f n ≠ 0
      · rw [if_pos h1] at h; exact absurd h h1
      · rw [if_neg h1] at h
        rcases Nat.lt_or_ge k n with hlt | hge
        · exact (q33.1 (Classical.not_not.1 h1)) k hlt
        · have : k = n := by omega
          subst this; exact h
    · intro h
      rw [if_neg (by rw [q33.2 fun k hk => h k (by omega)]; simp), h n (by omega)]
end
end
theorem LoopW.upI {S : Type} {step : S → (S → Prop) → Prop} (n : Nat) (st : Nat → S) (I : Nat → Prop) {s : S} (hs : s = st 0) (h0 : I 0)
    (h : ∀ (k : Nat) rec, k < n → I k → (I (k + 1) → ∀ s, s = st (k + 1) → rec s) → step (st k) rec) (he : ∀ rec, I n → step (st n) rec) : LoopW step s := by
  have key : ∀ m k, k + m = n → I k → LoopN step (m + 1) (st k) := by
    intro m
    induction m with
    | zero => intro k hk hI; obtain rfl : k = n := hk; exact he _ hI
    | succ m ih => intro k hk hI; exact h k _ (by omega) hI fun hI' s hs => by rw [hs]; exact ih (k + 1) (by omega) hI'
  exact ⟨n + 1, by rw [hs]; exact key n 0 (by omega) h0⟩
theorem LoopW.upT {S : Type} {step : S → (S → Prop) → Prop} (n : Nat) (st : Nat → S) {s : S} (hs : s = st 0)
    (h : ∀ (k : Nat) rec, k < n → (∀ s, s = st (k + 1) → rec s) → step (st k) rec) (he : ∀ rec, step (st n) rec) : LoopW step s :=
  LoopW.upI n st (fun _ => True) hs trivial (fun k rec hk _ hr => h k rec hk (hr trivial)) fun rec _ => he rec
theorem LoopW.findI {step : Int → (Int → Prop) → Prop} (n : Nat) (p : Nat → Bool) (h : ∀ (k : Nat) rec, k < n → (∀ j, j < k → p j = false) → (p k = false → rec ((k : Int) + 1)) → step (k : Int) rec)
    (he : ∀ rec, (∀ j, j < n → p j = false) → step (n : Int) rec) : LoopW step 0 :=
  LoopW.upI n (fun k => (k : Int)) (fun k => ∀ j, j < k → p j = false) rfl (fun j hj => absurd hj (Nat.not_lt_zero j)) (fun k rec hk hI hr => h k rec hk hI fun hp => hr (fun j hj => by
    rcases Nat.lt_or_ge j k with h2 | h2
    · exact hI j h2
    · obtain rfl : j = k := by omega
      exact hp) _ rfl) he
theorem q17 {α : Type} (xs : List α) (x : α) : (xs ++ [x]).length = xs.length + 1 := by simp
theorem lenT {α : Type} {xs : List α} {k : Nat} (h : k ≤ xs.length) : (xs.take k).length = k := by rw [List.length_take]; omega
theorem q60 {α : Type} (xs : List α) : xs.take xs.length = xs := List.take_length
theorem q145 {α β : Type} [Dt α] {xs : List α} {k : Nat} (f : α → β) (h : k < xs.length) : (xs.take (k + 1)).map f = (xs.take k).map f ++ [f (ix xs (k : Int))] := by rw [q88 h, List.map_append]; rfl
theorem LoopW.errI {S : Type} {step : S → (S → Prop) → Prop} (n : Nat) (st : Nat → S) (f : Nat → Int) {Ψ : Int → Prop} {s : S} (hs : s = st 0) (hΨ : Ψ (q75 f n))
    (h : ∀ (k : Nat) rec, k < n → (∀ j, j < k → f j = 0) → (f k ≠ 0 → Ψ (f k)) → (f k = 0 → ∀ s, s = st (k + 1) → rec s) → step (st k) rec) (he : ∀ rec, (∀ j, j < n → f j = 0) → Ψ 0 → step (st n) rec) : LoopW step s :=
  LoopW.upI n st (fun k => ∀ j, j < k → f j = 0) hs (fun j hj => absurd hj (Nat.not_lt_zero j)) (fun k rec hk hI hr => h k rec hk hI (fun h1 => by rw [q330 hk hI h1] at hΨ; exact hΨ) fun h0 => hr fun j hj => by
    rcases Nat.lt_or_ge j k with h2 | h2
    · exact hI j h2
    · obtain rfl : j = k := by omega
      exact h0) fun rec hI => he rec hI (by rw [q33.2 hI] at hΨ; exact hΨ)
def wrM (m : List (q9 × Sec)) (v s : Int) : List Sec → List (q9 × Sec)
  | [] => m
  | d :: r => wrM (mput m ⟨v, s⟩ d) v (s + 1) r
theorem q501 {v : Int} {d : Sec} : ∀ (l : List Sec) (m : List (q9 × Sec)) (s : Int), wrM m v s (l ++ [d]) = mput (wrM m v s l) ⟨v, s + (l.length : Int)⟩ d
  | [], m, s => by
    show mput m ⟨v, s⟩ d = mput m ⟨v, s + 0⟩ d; rw [Int.add_zero]
  | x :: l, m, s => by
    rw [List.cons_append, wrM, wrM, q501 l, show s + 1 + (l.length : Int) = s + ((x :: l).length : Int) by rw [List.length_cons]; omega]
def effM (l : List q8) : List (q9 × Sec) := l.foldl (fun m w => wrM m w.Volume w.Start w.Data) []
theorem q85 (l : List q8) (w : q8) : effM (l ++ [w]) = wrM (effM l) w.Volume w.Start w.Data := by simp [effM]
theorem q502 {κ ν : Type} [DecidableEq κ] (k : κ) (v : ν) : ∀ m : List (κ × ν), (mput m k v).length ≤ m.length + 1
  | [] => by simp [mput]
  | p :: r => by
    unfold mput
    split
    · simp
    · have := q502 k v r
      simp only [List.length_cons]; omega
theorem q442 {v : Int} : ∀ (l : List Sec) (m : List (q9 × Sec)) (s : Int), (wrM m v s l).length ≤ m.length + l.length
  | [], m, s => Nat.le_refl _
  | d :: r, m, s => by
    have h1 := q442 (v := v) r (mput m ⟨v, s⟩ d) (s + 1); have h2 := q502 (⟨v, s⟩ : q9) d m; rw [wrM, List.length_cons]; omega
theorem q503 {c : Nat} : ∀ (l : List q8) (m : List (q9 × Sec)), (∀ w ∈ l, w.Data.length ≤ c) → (l.foldl (fun m w => wrM m w.Volume w.Start w.Data) m).length ≤ m.length + l.length * c
  | [], m, _ => by simp
  | w :: l, m, h => by
    have h1 := q503 l (wrM m w.Volume w.Start w.Data) fun x hx => h x (List.mem_cons_of_mem _ hx); have h2 := q442 (v := w.Volume) w.Data m w.Start; have h3 := h w (List.mem_cons_self ..); rw [List.foldl_cons, List.length_cons, Nat.succ_mul]; omega
theorem q374 {κ ν : Type} [DecidableEq κ] {p : κ → Prop} {k : κ} {v : ν} (hk : p k) : ∀ {m : List (κ × ν)}, (∀ q ∈ m, p q.1) → ∀ q ∈ mput m k v, p q.1
  | [], _, q, hq => by
    obtain rfl : q = (k, v) := by simpa [mput] using hq
    exact hk
  | a :: r, h, q, hq => by
    unfold mput at hq
    split at hq
    · rcases List.mem_cons.1 hq with rfl | hq
      · exact h a (List.mem_cons_self ..)
      · exact h q (List.mem_cons_of_mem _ hq)
    · rcases List.mem_cons.1 hq with rfl | hq
      · exact h _ (List.mem_cons_self ..)
      · exact q374 hk (fun q hq => h q (List.mem_cons_of_mem _ hq)) q hq
theorem q443 {p : q9 → Prop} {v : Int} : ∀ (l : List Sec) (m : List (q9 × Sec)) (s : Int), (∀ j : Nat, j < l.length → p ⟨v, s + (j : Int)⟩) → (∀ q ∈ m, p q.1) → ∀ q ∈ wrM m v s l, p q.1
  | [], m, s, _, h => h
  | d :: r, m, s, hp, h => by
    refine q443 r _ (s + 1) (fun j hj => ?_) (q374 ?_ h)
    · have := hp (j + 1) (by rw [List.length_cons]; omega)
      rwa [show s + ((j + 1 : Nat) : Int) = s + 1 + (j : Int) by omega] at this
    · have := hp 0 (by rw [List.length_cons]; omega)
      rwa [show s + ((0 : Nat) : Int) = s by omega] at this
def q89 (w : q8) : Int := if w.Volume < 0 ∨ 8 ≤ w.Volume then 7 else if w.Data.length = 0 then 1 else if w.Start < 0 ∨ 4096 - (w.Data.length : Int) < w.Start then 2 else 0
theorem q295 {w : q8} (h : q89 w = 0) : 0 ≤ w.Volume ∧ w.Volume < 8 ∧ 0 < w.Data.length ∧ 0 ≤ w.Start ∧ w.Start + (w.Data.length : Int) ≤ 4096 := by
  unfold q89 at h
  split at h
  · omega
  · split at h
    · omega
    · split at h
      · omega
      · omega
theorem q661 {w : q8} (hl : w.Data.length ≤ 1000000) {Φ : Int → Prop} (h : Φ (q89 w)) : Z56 w Φ := by
  unfold q89 at h
  have J : ∀ b : Bool, (b = true ↔ w.Volume < 0 ∨ 8 ≤ w.Volume) → Z55 w Φ b := fun b hb => by
    refine ⟨fun e => by rw [if_pos (hb.1 e)] at h; exact h, fun e => ?_⟩; rw [if_neg fun q => e (hb.2 q)] at h; refine ⟨fun q => by rw [if_pos (by omega)] at h; exact h, fun q => ?_⟩; rw [if_neg (by omega)] at h; refine ⟨fun r => by rw [if_pos (.inl r)] at h; exact h, fun r => ⟨iI (by omega) (by omega), fun s => by rw [if_pos (.inr s)] at h; exact h, fun s => by rw [if_neg (by omega)] at h; exact h⟩⟩
  exact ⟨fun q => J true ⟨fun _ => .inl q, fun _ => rfl⟩, fun q => J _ (by simp; omega)⟩
def PlL (l : List q8) : Prop := ∀ w ∈ l, q89 w = 0
theorem q525 {l : List q8} (h : PlL l) : ∀ q ∈ effM l, 0 ≤ q.1.volume ∧ q.1.volume < 8 ∧ 0 ≤ q.1.sector ∧ q.1.sector < 4096 := by
  have key : ∀ (l : List q8) (m : List (q9 × Sec)), PlL l → (∀ q ∈ m, 0 ≤ q.1.volume ∧ q.1.volume < 8 ∧ 0 ≤ q.1.sector ∧ q.1.sector < 4096) → ∀ q ∈ l.foldl (fun m w => wrM m w.Volume w.Start w.Data) m, 0 ≤ q.1.volume ∧ q.1.volume < 8 ∧ 0 ≤ q.1.sector ∧ q.1.sector < 4096 := by
    intro l
    induction l with
    | nil => intro m _ h; exact h
    | cons w l ih =>
      intro m h hm; have := q295 (h w (List.mem_cons_self ..)); exact ih _ (fun x hx => h x (List.mem_cons_of_mem _ hx)) (q443 (p := fun c => 0 ≤ c.volume ∧ c.volume < 8 ∧ 0 ≤ c.sector ∧ c.sector < 4096) _ _ _ (fun j hj => ⟨by show 0 ≤ w.Volume; omega, by show w.Volume < 8; omega, by show 0 ≤ w.Start + (j : Int); omega, by show w.Start + (j : Int) < 4096; omega⟩) hm)
  exact key l [] h fun q hq => by cases hq
def clsW (xs : List q8) (ys : List Sec) : List q8 := put xs ((xs.length : Int) - 1) ⟨(ix xs ((xs.length : Int) - 1)).Volume, (ix xs ((xs.length : Int) - 1)).Start, ys⟩
def grpS (m : List (q9 × Sec)) (st : q9 × List q8 × List Sec) (p : q9) : q9 × List q8 × List Sec :=
  if p ≠ st.1 then (⟨p.volume, p.sector + 1⟩, clsW st.2.1 st.2.2 ++ [⟨p.volume, p.sector, []⟩], [] ++ [mget m p sec0]) else (⟨p.volume, p.sector + 1⟩, st.2.1, st.2.2 ++ [mget m p sec0])
def grpL (m : List (q9 × Sec)) (l : List q9) : q9 × List q8 × List Sec := l.foldl (grpS m) (⟨-1, 0⟩, [], [])
theorem q296 (m : List (q9 × Sec)) (l : List q9) (p : q9) : grpL m (l ++ [p]) = grpS m (grpL m l) p := by simp [grpL]
def canL (m : List (q9 × Sec)) : List q8 := clsW (grpL m (sortG pleB (m.map (·.1)))).2.1 (grpL m (sortG pleB (m.map (·.1)))).2.2
theorem q375 (xs : List q8) (ys : List Sec) : (clsW xs ys).length = xs.length := q118 _ _ _
theorem q163 {α : Type} {P : List α → Prop} (h0 : P []) (h1 : ∀ l x, P l → P (l ++ [x])) (l : List α) : P l := by
  rw [← List.reverse_reverse l]
  induction l.reverse with
  | nil => exact h0
  | cons x r ih => rw [List.reverse_cons]; exact h1 _ _ ih
theorem q221 : ∀ (n : Nat) (l : List Nat), l.Nodup → (∀ i ∈ l, i < n) → l.length ≤ n
  | 0, [], _, _ => Nat.le_refl _
  | 0, i :: _, _, h => absurd (h i (List.mem_cons_self ..)) (Nat.not_lt_zero i)
  | n + 1, l, hd, h => by
    by_cases hn : n ∈ l
    · have h1 := q221 n (l.erase n) (hd.erase n) fun i hi => by
        have h2 := (List.Nodup.mem_erase_iff hd).1 hi; have h3 := h i h2.2; have := h2.1; omega
      rw [List.length_erase_of_mem hn] at h1; omega
    · have h1 := q221 n l hd fun i hi => by
        have h3 := h i hi; have : i ≠ n := by rintro rfl; exact hn hi
        omega
      omega
theorem q504 (m : List (q9 × Sec)) : ∀ l : List q9, (grpL m l).2.1.length ≤ l.length ∧ (grpL m l).2.2.length ≤ l.length ∧ (l ≠ [] → (∀ p ∈ l, p ≠ ⟨-1, 0⟩) → 0 < (grpL m l).2.1.length) := by
  refine q163 ⟨Nat.le_refl _, Nat.le_refl _, fun h => absurd rfl h⟩ fun l p ih => ?_; obtain ⟨h1, h2, h3⟩ := ih; rw [q296, q17]; unfold grpS
  split
  · refine ⟨?_, ?_, fun _ _ => ?_⟩
    · simp only [List.length_append, q375, List.length_singleton]; omega
    · simp only [List.length_append, List.length_nil, List.length_singleton]; omega
    · simp only [List.length_append, q375, List.length_singleton]; omega
  · rename_i hp
    refine ⟨by simp only; omega, by simp only [List.length_append, List.length_singleton]; omega, fun _ hall => ?_⟩; by_cases hl : l = []
    · subst hl
      exact absurd (Classical.not_not.1 hp) (hall p (by simp))
    · exact h3 hl fun q hq => hall q (List.mem_append_left _ hq)
theorem q505 {p : q9} {Φ : q9 → Prop} (h : inI (p.sector + 1)) (hΦ : Φ ⟨p.volume, p.sector + 1⟩) : Z57 p Φ := ⟨h, hΦ⟩
theorem group_W {m : List (q9 × Sec)} {ps : List q9} {Φ : List q8 × Int → Prop} (hb : ps.length ≤ 100000000) (hp : ∀ p ∈ ps, 0 ≤ p.volume ∧ p.volume < 8 ∧ 0 ≤ p.sector ∧ p.sector < 4096) (hΦ : Φ (clsW (grpL m ps).2.1 (grpL m ps).2.2, 0)) : LoopW (Z64 m ps Φ) (0, -1, 0, [], []) := by
  have lOk : ∀ {n : Nat}, n ≤ 100000001 → lenOk n 40 := fun h => ⟨by omega, by simp only [maxLen]; omega⟩
  have lOk8 : ∀ {n : Nat}, n ≤ 100000001 → lenOk n 8 := fun h => ⟨by omega, by simp only [maxLen]; omega⟩
  refine LoopW.upT ps.length (fun k => ((k : Int), (grpL m (ps.take k)).1.volume, (grpL m (ps.take k)).1.sector, (grpL m (ps.take k)).2.1, (grpL m (ps.take k)).2.2)) rfl (fun k rec hk hrec => ?_) fun rec => ?_
  · obtain ⟨l1, l2, l3⟩ := q504 m (ps.take k)
    rw [lenT (by omega)] at l1 l2; have hmem : ix ps (k : Int) ∈ ps := q92 ⟨by omega, by omega⟩; have hpl := hp _ hmem; have hst : grpL m (ps.take (k + 1)) = grpS m (grpL m (ps.take k)) (ix ps (k : Int)) := by rw [q88 hk, q296]
    obtain ⟨n1, n2, n3⟩ := q504 m (ps.take (k + 1))
    have n4 := n3 (by rw [q88 hk]; simp) (fun p hq => by
      have := hp p (List.mem_of_mem_take hq)
      rintro rfl
      simp at this)
    rw [lenT (by omega)] at n1 n2
    have J : ∀ xs ys, (⟨(ix ps (k : Int)).volume, (ix ps (k : Int)).sector + 1⟩, xs, ys ++ [mget m (ix ps (k : Int)) sec0]) = grpL m (ps.take (k + 1)) → Z63 m ps (k : Int) rec Φ (xs, ys) := fun xs ys e => by
      have e1 : xs = (grpL m (ps.take (k + 1))).2.1 := by rw [← e]
      have e2 : ys ++ [mget m (ix ps (k : Int)) sec0] = (grpL m (ps.take (k + 1))).2.2 := by rw [← e]
      refine ⟨iI (by omega) (by rw [e1]; omega), iX (by rw [e1]; omega) (by omega), by omega, lOk8 (by rw [e2]; omega), q505 (iI (by omega) (by omega)) ⟨iI (by omega) (by omega), hrec _ ?_⟩⟩; rw [← e]; rfl
    refine ⟨fun _ => ⟨iX (by omega) (by omega), ?_⟩, fun h => absurd (show (k : Int) < (ps.length : Int) by omega) h⟩; show (ix ps (k : Int) ≠ _ → _) ∧ (¬ (ix ps (k : Int) ≠ _) → _)
    refine ⟨fun h => ⟨lOk ?_, J _ _ ?_⟩, fun h => J _ _ ?_⟩
    · have := q375 (grpL m (ps.take k)).2.1 (grpL m (ps.take k)).2.2
      unfold clsW at this; rw [q17, this]; omega
    · rw [hst]; unfold grpS; rw [if_pos h]; rfl
    · rw [hst]; unfold grpS; rw [if_neg h]
  · refine ⟨fun h => absurd h (by simp), fun _ => ?_⟩
    rw [show ps.take ps.length = ps from q60 ps]; exact hΦ
theorem q662 {m : List (q9 × Sec)} {Φ : List q8 × Int → Prop} (hb : m.length ≤ 100000000) (hp : ∀ q ∈ m, 0 ≤ q.1.volume ∧ q.1.volume < 8 ∧ 0 ≤ q.1.sector ∧ q.1.sector < 4096) (hΦ : Φ (canL m, 0)) : LoopW (Z65 m Φ) ((m.length, []), []) := by
  have hent : ∀ i, i < m.length → ent m i ∈ m := fun i hi => by
    unfold ent; rw [List.getD_eq_getElem?_getD, List.getElem?_eq_getElem hi]; exact List.getElem_mem hi
  refine LoopW.of_inv (fun s => s.1.1 = m.length ∧ s.1.2.Nodup ∧ (∀ i ∈ s.1.2, i < m.length) ∧ s.2 = s.1.2.reverse.map fun i => (ent m i).1) (fun s => m.length - s.1.2.length) ?_ ⟨rfl, List.nodup_nil, (fun _ h => by cases h), rfl⟩
  rintro ⟨⟨n, seen⟩, ps⟩ rec ⟨h1, h2, h3, h4⟩ hrec
  simp only at h1 h2 h3 h4; subst h1 h4; have hle : seen.length ≤ m.length := q221 _ _ h2 h3; refine ⟨rfl, fun hall => ?_, fun i hi hni => ⟨rfl, hi, ?_, hrec _ ⟨rfl, List.nodup_cons.2 ⟨hni, h2⟩, fun j hj => ?_, ?_⟩ ?_⟩⟩
  · have hperm : seen.Perm (List.range m.length) := (List.perm_ext_iff_of_nodup h2 List.nodup_range).2 fun i => ⟨fun hi => List.mem_range.2 (h3 i hi), fun hi => hall i (List.mem_range.1 hi)⟩
    have hmap : (List.range m.length).map (fun i => (ent m i).1) = m.map (·.1) := by
      apply List.ext_getElem
      · simp
      · intro i hi1 hi2
        have hi : i < m.length := by simpa using hi2
        simp only [List.getElem_map, List.getElem_range]; unfold ent; rw [List.getD_eq_getElem?_getD, List.getElem?_eq_getElem hi]; rfl
    have hp2 : (seen.reverse.map fun i => (ent m i).1).Perm (m.map (·.1)) := by
      rw [← hmap]; exact ((List.reverse_perm seen).trans hperm).map _
    have hsort : sortG pleB (seen.reverse.map fun i => (ent m i).1) = sortG pleB (m.map (·.1)) := q498 q161 q162 q499 ((q40 pleB _).trans hp2) (q117 q161 q162 _); refine ⟨by rw [hp2.length_eq, List.length_map]; omega, ?_⟩; rw [hsort]; have hlen : (sortG pleB (m.map (·.1))).length = m.length := by rw [(q40 pleB _).length_eq, List.length_map]
    refine group_W (by rw [hlen]; exact hb) (fun p hp' => ?_) hΦ; obtain ⟨q, hq, rfl⟩ := List.mem_map.1 ((q40 pleB _).mem_iff.1 hp'); exact hp q hq
  · refine ⟨?_, ?_⟩
    · rw [q17, List.length_map, List.length_reverse]; omega
    · rw [q17, List.length_map, List.length_reverse]; simp only [maxLen]; omega
  · rcases List.mem_cons.1 hj with rfl | hj
    · exact hi
    · exact h3 j hj
  · simp
  · have h6 : (i :: seen).length ≤ m.length := q221 _ _ (List.nodup_cons.2 ⟨hni, h2⟩) fun j hj => by
      rcases List.mem_cons.1 hj with rfl | hj
      · exact hi
      · exact h3 j hj
    show m.length - (i :: seen).length < m.length - seen.length; rw [List.length_cons] at h6 ⊢; omega
theorem q663 {l : List q8} {Φ : List q8 × Int → Prop} (hl : l.length ≤ 20000) (hp : PlL l) (hΦ : Φ (canL (effM l), 0)) : LoopW (Z66 l Φ) (0, []) := by
  have hpl : ∀ k, k < l.length → q89 (ix l (k : Int)) = 0 := fun k hk => hp _ (q92 ⟨by omega, by omega⟩)
  have hlen : (effM l).length ≤ 100000000 := by
    have := q503 (c := 4096) l [] fun w hw => by have := q295 (hp w hw); omega
    have h2 := Nat.mul_le_mul_right 4096 hl; show (l.foldl _ []).length ≤ _; simp only [List.length_nil] at this; omega
  refine LoopW.upT l.length (fun k => ((k : Int), effM (l.take k))) rfl (fun k rec hk hrec => ?_) fun rec => ?_
  · refine ⟨fun _ => ⟨iX (by omega) (by omega), ?_⟩, fun h => absurd (show (k : Int) < (l.length : Int) by omega) h⟩
    obtain ⟨a1, a2, a3, a4, a5⟩ := q295 (hpl k hk); have hrec := hrec _ rfl; rw [q88 hk, q85] at hrec; refine LoopW.upT (ix l (k : Int)).Data.length (fun j => ((j : Int), (ix l (k : Int)).Volume, (ix l (k : Int)).Start + (j : Int), wrM (effM (l.take k)) (ix l (k : Int)).Volume (ix l (k : Int)).Start ((ix l (k : Int)).Data.take j))) (by simp [wrM]) (fun j rec3 hj h3 => ?_) fun rec3 => ?_
    · refine ⟨fun _ => ⟨iX (by omega) (by omega), q505 (iI (by show _ ≤ (ix l (k : Int)).Start + (j : Int) + 1; omega) (by show (ix l (k : Int)).Start + (j : Int) + 1 ≤ _; omega)) ⟨iI (by omega) (by omega), h3 _ ?_⟩⟩, fun h => absurd (show (j : Int) < ((ix l (k : Int)).Data.length : Int) by omega) h⟩
      rw [q88 hj, q501, lenT (by omega)]; rw [show (ix l (k : Int)).Start + ((j + 1 : Nat) : Int) = (ix l (k : Int)).Start + (j : Int) + 1 by omega]; rfl
    · refine ⟨fun h => absurd h (by simp), fun _ => ⟨iI (by omega) (by omega), ?_⟩⟩
      rw [show (ix l (k : Int)).Data.take (ix l (k : Int)).Data.length = (ix l (k : Int)).Data from q60 _]; exact hrec
  · refine ⟨fun h => absurd h (by simp), fun _ => ?_⟩
    rw [show l.take l.length = l from q60 l]; exact ⟨by omega, ⟨by rw [Int.toNat_natCast]; omega, by rw [Int.toNat_natCast]; simp only [maxLen]; omega⟩, q662 hlen (q525 hp) hΦ⟩
def foldR (l : List q8) : List q8 × Int := if q75 (fun k => q89 (ix l (k : Int))) l.length ≠ 0 then ([], q75 (fun k => q89 (ix l (k : Int))) l.length) else (canL (effM l), 0)
theorem q255 {l : List q8} {Φ : List q8 × Int → Prop} (hl : l.length ≤ 20000) (hd : ∀ w ∈ l, w.Data.length ≤ 1000000) (hΦ : Φ (foldR l)) : Z68 l Φ := by
  unfold foldR at hΦ; refine LoopW.errI l.length (fun k => (k : Int)) (fun k => q89 (ix l (k : Int))) (Ψ := fun e => Φ (if e ≠ 0 then ([], e) else (canL (effM l), 0))) rfl hΦ (fun k rec hk hI h1 h0 => ?_) fun rec hI h0 => ?_
  · refine ⟨fun _ => ⟨iX (by omega) (by omega), q661 (hd _ (q92 ⟨by omega, by omega⟩)) ⟨fun e => ?_, fun e => ⟨iI (by omega) (by omega), h0 (Classical.not_not.1 e) _ rfl⟩⟩⟩, fun h => absurd (show (k : Int) < (l.length : Int) by omega) h⟩
    have := h1 e; rwa [if_pos e] at this
  · refine ⟨fun h => absurd h (by simp), fun _ => ?_⟩
    rw [if_neg (by simp)] at h0; refine q663 hl (fun w hw => ?_) h0; obtain ⟨k, hk, rfl⟩ := List.getElem_of_mem hw; have := hI k hk; rwa [q50 hk] at this
def q21 (l : List Int) : Int := if (l.length : Int) < 1 ∨ 8 < (l.length : Int) then 6 else q75 (fun k => if ix l (k : Int) < 1 ∨ 4096 < ix l (k : Int) then 2 else 0) l.length
def szs (im : List (List Sec)) : List Int := im.map fun v => (v.length : Int)
def imgE (im : List (List Sec)) : Int := q21 (szs im)
theorem q48 (im : List (List Sec)) : (szs im).length = im.length := by unfold szs; rw [List.length_map]
theorem q164 {im : List (List Sec)} {k : Nat} (h : k < im.length) : ix (szs im) (k : Int) = ((ix im (k : Int)).length : Int) := by
  rw [q50 (by rw [q48]; exact h), q50 h]; unfold szs; rw [List.getElem_map]
theorem q41 {l : List Int} (h : q21 l = 0) : 1 ≤ l.length ∧ l.length ≤ 8 := by
  unfold q21 at h; by_cases hl : (l.length : Int) < 1 ∨ 8 < (l.length : Int)
  · rw [if_pos hl] at h; cases h
  · omega
theorem q297 {l : List Int} (h : q21 l = 0) {k : Nat} (hk : k < l.length) : 1 ≤ ix l (k : Int) ∧ ix l (k : Int) ≤ 4096 := by
  unfold q21 at h; by_cases hl : (l.length : Int) < 1 ∨ 8 < (l.length : Int)
  · rw [if_pos hl] at h; cases h
  · rw [if_neg hl] at h
    have := q33.1 h k hk; by_cases q : ix l (k : Int) < 1 ∨ 4096 < ix l (k : Int)
    · rw [if_pos q] at this; cases this
    · omega
theorem q105 {l : List Int} {Φ : Int → Prop} (hΦ : Φ (q21 l)) : Z33 l Φ := by
  unfold q21 at hΦ; by_cases h : (l.length : Int) < 1 ∨ 8 < (l.length : Int)
  · rw [if_pos h] at hΦ
    exact ⟨fun _ => hΦ, fun _ => ⟨fun _ => hΦ, fun _ => by omega⟩⟩
  · rw [if_neg h] at hΦ
    refine ⟨fun _ => by omega, fun _ => ⟨fun _ => by omega, fun _ => ?_⟩⟩; refine LoopW.errI l.length (fun k => (k : Int)) _ rfl hΦ (fun k rec hk _ h1 h2 => ?_) fun rec _ h0 => ⟨fun _ => by omega, fun _ => ⟨fun _ => by omega, fun _ => h0⟩⟩
    have go : ∀ q : ix l (k : Int) < 1 ∨ 4096 < ix l (k : Int), Φ 2 := fun q => by
      have := h1 (by rw [if_pos q]; omega); rw [if_pos q] at this; exact this
    refine ⟨fun _ => ⟨iX (by omega) (by omega), fun q => ⟨fun _ => ⟨fun _ => go (.inl q), fun _ => by omega⟩, fun r => absurd rfl r⟩, fun q => ⟨fun r => ⟨fun _ => go (.inr (of_decide_eq_true r)), fun _ => by omega⟩, fun r => ⟨iI (by omega) (by omega), h2 (if_neg (by have := of_decide_eq_false (Bool.eq_false_iff.2 r); omega)) _ rfl⟩⟩⟩, fun _ => by omega⟩
theorem q309 {im : List (List Sec)} {Φ : List Int → Prop} (hl : im.length ≤ 100000) (hΦ : Φ (szs im)) : q139 im Φ := by
  refine ⟨by omega, iL (by omega) (by omega), ?_⟩; refine LoopW.upT im.length (fun k => ((k : Int), (im.take k).map fun v => (v.length : Int))) rfl (fun k rec hk hr => ?_) fun rec => ⟨fun _ => by omega, fun _ => by rw [q60]; exact hΦ⟩
  refine ⟨fun _ => ⟨iX (by omega) (by omega), iL (by rw [q17, List.length_map, lenT (by omega)]; omega) (by omega), iI (by omega) (by omega), hr _ (by rw [q145 _ hk]; rfl)⟩, fun _ => by omega⟩
theorem q120 {im : List (List Sec)} {Φ : Int → Prop} (hl : im.length ≤ 100000) (hΦ : Φ (imgE im)) : q57 im Φ := q309 hl (q105 hΦ)
def zeroI (l : List Int) : List (List Sec) := l.map fun n => List.replicate n.toNat sec0
theorem q222 (l : List Int) : (zeroI l).length = l.length := by unfold zeroI; rw [List.length_map]
theorem q664 {l : List Int} {k : Nat} (h : k < l.length) : ix (zeroI l) (k : Int) = List.replicate (ix l (k : Int)).toNat sec0 := by
  rw [q50 (by rw [q222]; exact h), q50 h]; unfold zeroI; rw [List.getElem_map]
theorem q223 {l : List Int} (h : q21 l = 0) : szs (zeroI l) = l := by
  refine q220 (by rw [q48, q222]) fun k hk => ?_; rw [q48, q222] at hk; have := q297 h hk; rw [q164 (by rw [q222]; exact hk), q664 hk, List.length_replicate]; omega
theorem q67 {l : List Int} {Φ : List (List Sec) × Int → Prop} (h0 : q21 l = 0 → Φ (zeroI l, 0)) (h1 : q21 l ≠ 0 → Φ ([], q21 l)) : q53 l Φ := by
  refine q105 ⟨fun q => h1 q, fun q => ?_⟩; have q : q21 l = 0 := Classical.not_not.1 q; have hl := q41 q; refine ⟨by omega, iL (by omega) (by omega), ?_⟩; refine LoopW.upT l.length (fun k => ((k : Int), (l.take k).map fun n => List.replicate n.toNat sec0)) rfl (fun k rec hk hr => ?_) fun rec => ⟨fun _ => by omega, fun _ => by rw [q60]; exact h0 q⟩
  have := q297 q hk; refine ⟨fun _ => ⟨iX (by omega) (by omega), by omega, iL (by omega) (by omega), iL (by rw [q17, List.length_map, lenT (by omega)]; omega) (by omega), iI (by omega) (by omega), hr _ (by rw [q145 _ hk]; rfl)⟩, fun _ => by omega⟩
def fitW (l : List Int) (w : q8) : Int := if w.Volume < 0 ∨ (l.length : Int) ≤ w.Volume then 7 else if (w.Data.length : Int) = 0 then 1 else if w.Start < 0 ∨ ix l w.Volume - w.Start < (w.Data.length : Int) then 2 else 0
theorem q224 {im : List (List Sec)} {w : q8} {Φ : Int → Prop} (hd : w.Data.length ≤ 1000000) (hv : ∀ k : Nat, k < im.length → (ix im (k : Int)).length ≤ 1000000) (hΦ : Φ (fitW (szs im) w)) : q84 im w Φ := by
  unfold fitW at hΦ; rw [q48] at hΦ; show (_ → q140 _ _ _ _) ∧ _
  have tail : ¬ (w.Volume < 0 ∨ (im.length : Int) ≤ w.Volume) → q140 im w Φ false := fun q => by
    rw [if_neg q] at hΦ; refine ⟨fun r => (Bool.noConfusion r), fun _ => ⟨fun r => by rw [if_pos (by omega)] at hΦ; exact hΦ, fun r => ?_⟩⟩; rw [if_neg (by omega)] at hΦ; obtain ⟨v, hw⟩ := Int.eq_ofNat_of_zero_le (show 0 ≤ w.Volume by omega); have hvl : v < im.length := by omega
    rw [hw, q164 hvl] at hΦ; have := hv v hvl; refine ⟨fun s => by rw [if_pos (.inl s)] at hΦ; exact hΦ, fun s => ⟨iX (by omega) (by omega), ?_⟩⟩; rw [hw]; exact ⟨iI (by omega) (by omega), fun t => by rw [if_pos (by omega)] at hΦ; exact hΦ, fun t => by rw [if_neg (by omega)] at hΦ; exact hΦ⟩
  refine ⟨fun q => ⟨fun _ => by rw [if_pos (.inl q)] at hΦ; exact hΦ, fun r => absurd rfl r⟩, fun q => ?_⟩; by_cases r : (im.length : Int) ≤ w.Volume
  · rw [decide_eq_true r]
    exact ⟨fun _ => by rw [if_pos (.inr r)] at hΦ; exact hΦ, fun r => absurd rfl r⟩
  · rw [decide_eq_false r]; exact tail (by omega)
theorem q298 {im : List (List Sec)} (h : imgE im = 0) (k : Nat) (hk : k < im.length) : (ix im (k : Int)).length ≤ 4096 := by
  have := q297 h (k := k) (by rw [q48]; exact hk); rw [q164 hk] at this; omega
theorem q97 {im : List (List Sec)} {w : q8} {Φ : Int → Prop} (hd : w.Data.length ≤ 1000000) (h : imgE im = 0) (hΦ : Φ (fitW (szs im) w)) : q66 im w Φ := by
  have hl := q41 h; rw [q48] at hl; exact q120 (by omega) ⟨fun q => absurd h q, fun _ => q224 hd (fun k hk => Nat.le_trans (q298 h k hk) (by omega)) hΦ⟩
theorem q506 {l : List Int} (h : ¬ q21 l ≠ 0) : l.length ≤ 8 ∧ 1 ≤ l.length ∧ ∀ k : Nat, k < l.length → 1 ≤ ix l (k : Int) ∧ ix l (k : Int) ≤ 4096 := by
  have h0 := Classical.not_not.1 h; unfold q21 at h0
  split at h0
  · omega
  · refine ⟨by omega, by omega, fun k hk => ?_⟩
    have := q33.1 h0 k hk
    split at this <;> omega
theorem q299 {sizes : List Int} {w : q8} (hs : ¬ q21 sizes ≠ 0) (h : fitW sizes w = 0) : 0 ≤ w.Volume ∧ w.Volume < (sizes.length : Int) ∧ 1 ≤ w.Data.length ∧ 0 ≤ w.Start ∧ w.Start + (w.Data.length : Int) ≤ ix sizes w.Volume ∧ ix sizes w.Volume ≤ 4096 := by
  unfold fitW at h
  split at h
  · omega
  split at h
  · omega
  split at h
  · omega
  obtain ⟨v, hv⟩ := Int.eq_ofNat_of_zero_le (show 0 ≤ w.Volume by omega); have hz := (q506 hs).2.2 v (by omega); rw [← hv] at hz; omega
theorem q507 {α : Type} [Dt α] (xs : List α) {i j : Nat} (x : α) (hi : i < xs.length) : ix (put xs (i : Int) x) (j : Int) = if j = i then x else ix xs (j : Int) := by
  show (xs.set i x).getD j default = if j = i then x else xs.getD j default; rw [List.getD_eq_getElem?_getD, List.getD_eq_getElem?_getD]; by_cases h : j = i
  · subst h; rw [List.getElem?_set_self hi, if_pos rfl]; rfl
  · rw [List.getElem?_set_ne (by omega), if_neg h]
theorem q444 {α : Type} [Dt α] {xs : List α} {i : Int} (x : α) (hi : inX i xs.length) : ix (put xs i x) i = x := by
  obtain ⟨k, rfl⟩ := Int.eq_ofNat_of_zero_le hi.1; rw [q507 xs x (by have := hi.2; omega), if_pos rfl]
theorem q665 {α : Type} [Dt α] {xs ys : List α} {s i : Nat} (h : s + ys.length ≤ xs.length) : ix (paste xs (s : Int) ys) (i : Int) = if s ≤ i ∧ i < s + ys.length then ix ys ((i : Int) - (s : Int)) else ix xs (i : Int) := by
  show (paste xs (s : Int) ys).getD i default = if _ then ys.getD ((i : Int) - (s : Int)).toNat default else xs.getD i default; unfold paste; rw [Int.toNat_natCast, List.getD_eq_getElem?_getD, List.getD_eq_getElem?_getD, List.getD_eq_getElem?_getD]; have e1 : (xs.take s).length = s := by rw [List.length_take]; omega
  have e2 : ys.take (xs.length - s) = ys := List.take_of_length_le (by omega); have e3 : min ys.length (xs.length - s) = ys.length := by omega
  rw [e2, e3]; by_cases h1 : i < s
  · rw [if_neg (by omega), List.getElem?_append_left (by omega), List.getElem?_take_of_lt h1]
  · by_cases h2 : i < s + ys.length
    · rw [if_pos (by omega), List.getElem?_append_right (by omega), e1, List.getElem?_append_left (by omega), show ((i : Int) - (s : Int)).toNat = i - s by omega]
    · rw [if_neg (by omega), List.getElem?_append_right (by omega), e1, List.getElem?_append_right (by omega), List.getElem?_drop]
      congr 2
      omega
theorem paste_len' {α : Type} {xs ys : List α} {s : Nat} (h : s ≤ xs.length) : (paste xs (s : Int) ys).length = xs.length := q204 ⟨by omega, by omega, by omega⟩
def q183 (im : List (List Sec)) (w : q8) : List (List Sec) := put im w.Volume (paste (ix im w.Volume) w.Start w.Data)
def appL (im : List (List Sec)) (l : List q8) : List (List Sec) := l.foldl q183 im
theorem q225 (im : List (List Sec)) (l : List q8) (w : q8) : appL im (l ++ [w]) = q183 (appL im l) w := by unfold appL; rw [List.foldl_append]; rfl
structure FitW (sizes : List Int) (w : q8) (v s : Nat) : Prop where
  vol : w.Volume = (v : Int)
  start : w.Start = (s : Int)
  hv : v < sizes.length
  len : 1 ≤ w.Data.length
  le : ((s + w.Data.length : Nat) : Int) ≤ ix sizes (v : Int)
  top : ix sizes (v : Int) ≤ 4096
theorem q165 {sizes : List Int} {w : q8} (hs : ¬ q21 sizes ≠ 0) (h : fitW sizes w = 0) : ∃ v s : Nat, FitW sizes w v s := by
  have := q299 hs h; obtain ⟨v, hv⟩ := Int.eq_ofNat_of_zero_le this.1; obtain ⟨s, hst⟩ := Int.eq_ofNat_of_zero_le this.2.2.2.1; rw [hv, hst] at this; exact ⟨v, s, hv, hst, by omega, by omega, by omega, by omega⟩
theorem fitE_of {sizes : List Int} {w : q8} {v s : Nat} (h : FitW sizes w v s) : fitW sizes w = 0 := by
  have h1 := h.hv; have h2 := h.len; have h3 := h.le; unfold fitW; rw [h.vol, h.start, if_neg (by omega), if_neg (by omega), if_neg (by omega)]
theorem q331 {im : List (List Sec)} {w : q8} {v s : Nat} (h : FitW (szs im) w v s) : szs (q183 im w) = szs im := by
  have hv := h.hv; rw [q48] at hv; have hle := h.le; rw [q164 hv] at hle; unfold q183; rw [h.vol, h.start]; refine q220 (by rw [q48, q48, q118]) fun k hk => ?_; rw [q48, q118] at hk; rw [q164 (by rw [q118]; exact hk), q164 hk, q507 _ _ hv]; by_cases hkv : k = v
  · rw [if_pos hkv, paste_len' (by omega), hkv]
  · rw [if_neg hkv]
theorem q175 {im : List (List Sec)} (hs : ¬ q21 (szs im) ≠ 0) : ∀ {l : List q8}, (∀ w ∈ l, fitW (szs im) w = 0) → szs (appL im l) = szs im := by
  intro l
  induction l generalizing im with
  | nil => intro _; rfl
  | cons w l ih =>
    intro h; obtain ⟨v, s, hw⟩ := q165 hs (h w (List.mem_cons_self ..)); have e := q331 hw; show szs (appL (q183 im w) l) = _; rw [ih (by rw [e]; exact hs) fun x hx => by rw [e]; exact h x (List.mem_cons_of_mem _ hx), e]
def sec (im : List (List Sec)) (v i : Nat) : Sec := ix (ix im (v : Int)) (i : Int)
def covW (w : q8) (v i : Nat) : Prop := w.Volume = (v : Int) ∧ w.Start ≤ (i : Int) ∧ (i : Int) < w.Start + (w.Data.length : Int)
instance (w : q8) (v i : Nat) : Decidable (covW w v i) := by unfold covW; infer_instance
theorem q237 {im : List (List Sec)} {w : q8} {v0 s0 : Nat} (h : FitW (szs im) w v0 s0) (v i : Nat) : sec (q183 im w) v i = if covW w v i then ix w.Data ((i : Int) - w.Start) else sec im v i := by
  have hv := h.hv; rw [q48] at hv; have hle := h.le; rw [q164 hv] at hle; have h1 := h.vol; have h2 := h.start; have hc : covW w v i ↔ v = v0 ∧ s0 ≤ i ∧ i < s0 + w.Data.length := by unfold covW; omega
  have e : sec (q183 im w) v i = ix (if v = v0 then paste (ix im (v0 : Int)) (s0 : Int) w.Data else ix im (v : Int)) (i : Int) := by
    unfold sec q183; rw [h1, h2, q507 _ _ hv]
  rw [e]; by_cases hkv : v = v0
  · rw [if_pos hkv, q665 (by omega)]
    subst hkv; by_cases hq : s0 ≤ i ∧ i < s0 + w.Data.length
    · rw [if_pos hq, if_pos (hc.2 ⟨rfl, hq⟩), h2]
    · rw [if_neg hq, if_neg (fun q => hq (hc.1 q).2)]; rfl
  · rw [if_neg hkv, if_neg (fun q => hkv (hc.1 q).1)]; rfl
theorem q666 {v i : Nat} : ∀ {l : List q8} {im : List (List Sec)}, ¬ q21 (szs im) ≠ 0 → (∀ w ∈ l, fitW (szs im) w = 0) → (∀ w ∈ l, ¬ covW w v i) → sec (appL im l) v i = sec im v i := by
  intro l
  induction l with
  | nil => intro im _ _ _; rfl
  | cons w l ih =>
    intro im hs h hn; obtain ⟨v0, s0, hw⟩ := q165 hs (h w (List.mem_cons_self ..)); have e := q331 hw; show sec (appL (q183 im w) l) v i = _; rw [ih (by rw [e]; exact hs) (fun x hx => by rw [e]; exact h x (List.mem_cons_of_mem _ hx)) fun x hx => hn x (List.mem_cons_of_mem _ hx), q237 hw, if_neg (hn w (List.mem_cons_self ..))]
theorem im_ext {a b : List (List Sec)} (hs : szs a = szs b) (h : ∀ v i : Nat, v < a.length → i < (ix a (v : Int)).length → sec a v i = sec b v i) : a = b := by
  have hl : a.length = b.length := by rw [← q48 a, ← q48 b, hs]
  refine q220 hl fun v hv => q220 ?_ fun i hi => h v i hv hi; have : ix (szs a) (v : Int) = ix (szs b) (v : Int) := by rw [hs]
  rw [q164 hv, q164 (by omega)] at this; omega
theorem q596 {im : List (List Sec)} (hs : ¬ q21 (szs im) ≠ 0) : im.length ≤ 8 ∧ 1 ≤ im.length ∧ ∀ v : Nat, v < im.length → 1 ≤ (ix im (v : Int)).length ∧ (ix im (v : Int)).length ≤ 4096 := by
  obtain ⟨h1, h2, h3⟩ := q506 hs; rw [q48] at h1 h2 h3; refine ⟨h1, h2, fun v hv => ?_⟩; have := h3 v hv; rw [q164 hv] at this; omega
theorem q667 {l : List Int} {w : q8} (hs : q21 l = 0) (h : fitW l w = 0) : w.Data.length ≤ 4096 := by
  have := q299 (by omega) h; omega
theorem q63 {l : List Sec} {Φ : List Sec → Prop} (hl : l.length ≤ 1000000) (hΦ : Φ l) : Z42 l Φ :=
  ⟨fun h => (by subst h; exact hΦ), iL hl (by omega), hΦ⟩
theorem q256 {im : List (List Sec)} {Φ : List (List Sec) → Prop} (h : imgE im = 0) (hΦ : Φ im) : Z45 im Φ := by
  have hl := q41 h; rw [q48] at hl; refine ⟨by omega, iL (by omega) (by omega), ?_⟩; refine LoopW.upT im.length (fun k => (im.take k, (k : Int))) rfl (fun k rec hk hr => ?_) fun rec => ⟨fun _ => by omega, fun _ => by rw [q60]; exact hΦ⟩
  have := q298 h k hk; refine ⟨fun _ => ⟨iX (by omega) (by omega), q63 (by omega) ⟨iL (by rw [q17, lenT (by omega)]; omega) (by omega), iI (by omega) (by omega), hr _ (by rw [q88 hk]; rfl)⟩⟩, fun _ => by omega⟩
theorem q597 {im : List (List Sec)} {l : List q8} {k : Nat} (h : k < l.length) : appL im (l.take (k + 1)) = q183 (appL im (l.take k)) (ix l (k : Int)) := by rw [q88 h, q225]
theorem q598 {im : List (List Sec)} {l : List q8} (hs : imgE im = 0) (hf : ∀ w ∈ l, fitW (szs im) w = 0) (k : Nat) : szs (appL im (l.take k)) = szs im := q175 (by rw [show q21 (szs im) = 0 from hs]; simp) fun w hw => hf w (List.mem_of_mem_take hw)
theorem q184 {im : List (List Sec)} {l : List q8} {Φ : List (List Sec) × Int × Int → Prop} (hl : l.length ≤ 1000000) (hs : imgE im = 0) (hf : ∀ w ∈ l, fitW (szs im) w = 0) (hΦ : Φ (appL im l, 0, 0)) : q58 im l Φ := by
  have h8 := q41 hs; rw [q48] at h8; refine q120 (by omega) ⟨fun q => absurd hs q, fun _ => q256 hs ?_⟩; refine LoopW.upT l.length (fun k => (appL im (l.take k), (k : Int))) rfl (fun k rec hk hr => ?_) fun rec => ⟨fun _ => by omega, fun _ => by rw [q60]; exact hΦ⟩
  have hw := hf _ (q92 (iX (i := (k : Int)) (n := l.length) (by omega) (by omega))); have e := q598 hs hf k; have hs' : imgE (appL im (l.take k)) = 0 := by unfold imgE; rw [e]; exact hs
  obtain ⟨v, s, hfw⟩ := q165 (by rw [show q21 (szs im) = 0 from hs]; simp) hw; have hv := hfw.hv; have hle := hfw.le; rw [← e, q48] at hv; rw [← e, q164 hv] at hle; refine ⟨fun _ => ⟨iX (by omega) (by omega), q224 (by have := q667 (show q21 (szs im) = 0 from hs) hw; omega) (fun j hj => Nat.le_trans (q298 hs' j hj) (by omega)) ?_⟩, fun _ => by omega⟩; rw [e, hw]; refine ⟨fun q => absurd rfl q, fun _ => ?_⟩; refine ⟨by rw [hfw.vol]; exact iX (by omega) (by omega), by rw [hfw.vol, hfw.start]; exact iS (by omega) (by omega) (by omega), iI (by omega) (by omega), hr _ (by rw [q597 hk]; rfl)⟩
theorem q36 {x lo hi : Int} {Φ : Bool → Prop} (h : Φ (decide (lo ≤ x ∧ x ≤ hi))) : q34 x lo hi Φ := by
  refine ⟨fun q => ?_, fun q => ?_⟩
  · rw [show decide (lo ≤ x ∧ x ≤ hi) = decide (x ≤ hi) from by simp [q]] at h; exact h
  · rw [show decide (lo ≤ x ∧ x ≤ hi) = false from decide_eq_false fun r => q r.1] at h; exact h
def posE (l : List Int) : Int := q75 (fun k => if ix l (k : Int) < 0 ∨ 1073741824 < ix l (k : Int) then 2 else 0) l.length
def posR (least : Int) (l : List Int) : Int := if (l.length : Int) < least ∨ 8 < (l.length : Int) then 6 else posE l
theorem q76 {l : List Int} {least : Int} {Φ : Int → Prop} (hl : l.length ≤ 100000) (hΦ : Φ (posR least l)) : Z49 l least Φ := by
  refine q36 ⟨fun q => ?_, fun q => ?_⟩
  · have := of_decide_eq_false (Bool.eq_false_iff.2 q)
    unfold posR at hΦ; rw [if_pos (by omega)] at hΦ; exact hΦ
  · have := of_decide_eq_true (Classical.not_not.1 q)
    unfold posR at hΦ; rw [if_neg (by omega)] at hΦ; refine LoopW.errI l.length (fun k => (k : Int)) _ rfl hΦ (fun k rec hk _ h1 h2 => ?_) fun rec _ h0 => ⟨fun _ => by omega, fun _ => ⟨fun _ => by omega, fun _ => h0⟩⟩
    refine ⟨fun _ => ⟨iX (by omega) (by omega), q36 ⟨fun r => ?_, fun r => ?_⟩⟩, fun _ => by omega⟩
    · have r := of_decide_eq_true r
      have r : ¬ (0 ≤ ix l (k : Int) ∧ ix l (k : Int) ≤ 1073741824) := fun t => r (decide_eq_true t); have c : ix l (k : Int) < 0 ∨ 1073741824 < ix l (k : Int) := by omega
      have := h1 (by rw [if_pos c]; omega); rw [if_pos c] at this; exact ⟨fun _ => this, fun s => by omega⟩
    · have r : ¬ ¬ (decide (0 ≤ ix l (k : Int) ∧ ix l (k : Int) ≤ 1073741824) = true) := fun t => r (decide_eq_true t)
      have r := of_decide_eq_true (Classical.not_not.1 r); exact ⟨iI (by omega) (by omega), h2 (if_neg (by omega)) _ rfl⟩
def ordW (sizes : List Int) (l : List q8) (k : Nat) : Int :=
  if fitW sizes (ix l (k : Int)) ≠ 0 then fitW sizes (ix l (k : Int)) else if k = 0 then 0 else if (ix l (k : Int)).Volume < (ix l ((k : Int) - 1)).Volume ∨ ((ix l (k : Int)).Volume = (ix l ((k : Int) - 1)).Volume ∧ (ix l (k : Int)).Start ≤ (ix l ((k : Int) - 1)).Start + ((ix l ((k : Int) - 1)).Data.length : Int)) then 3 else 0
def wrsE (sizes : List Int) (l : List q8) : Int := q75 (ordW sizes l) l.length
theorem q508 {sizes : List Int} {l : List q8} {k : Nat} (h : ordW sizes l k = 0) : fitW sizes (ix l (k : Int)) = 0 := by
  unfold ordW at h
  split at h
  · next q => exact absurd h q
  · next q => exact Classical.not_not.1 q
theorem q238 {l : List q8} {sizes : List Int} {Φ : Int → Prop} (hl : l.length ≤ 100000) (hd : ∀ w ∈ l, w.Data.length ≤ 1000000) (h0 : q21 sizes ≠ 0 → Φ (q21 sizes)) (h1 : q21 sizes = 0 → Φ (wrsE sizes l)) : Z82 l sizes Φ := by
  refine q67 (fun hs => ⟨fun q => absurd rfl q, fun _ => ?_⟩) fun hs => ⟨fun _ => h0 hs, fun q => absurd hs q⟩
  have e := q223 hs; refine LoopW.errI l.length (fun k => (k : Int)) _ rfl (h1 hs) (fun k rec hk hj g1 g2 => ⟨fun _ => ⟨iX (by omega) (by omega), ?_⟩, fun _ => by omega⟩) fun rec _ h0 => ⟨fun _ => by omega, fun _ => h0⟩
  have hmem := hd _ (q92 (iX (i := (k : Int)) (n := l.length) (by omega) (by omega))); refine q97 hmem (by unfold imgE; rw [e]; exact hs) ?_; rw [e]; unfold ordW at g1 g2; refine ⟨fun q => ?_, fun q => ?_⟩
  · rw [if_pos q] at g1; exact g1 q
  · rw [if_neg q] at g1 g2
    refine ⟨fun r => ?_, fun r => ?_⟩
    · rw [if_pos (by omega)] at g2
      exact ⟨iI (by omega) (by omega), g2 rfl _ rfl⟩
    · rw [if_neg (by omega)] at g1 g2
      have hp := q508 (hj (k - 1) (by omega)); obtain ⟨v, s, hf⟩ := q165 (by omega) hp; have z1 := hf.le; have z2 := hf.top; have z3 := hf.start; have ek : ((k - 1 : Nat) : Int) = (k : Int) - 1 := by omega
      rw [ek] at z1 z3; refine ⟨iI (by omega) (by omega), iX (by omega) (by omega), fun t => ?_, fun t => ⟨fun u => ⟨iI (by omega) (by omega), fun x => ?_, fun x => ?_⟩, fun u => ?_⟩⟩
      · rw [if_pos (.inl t)] at g1; exact g1 (by omega)
      · rw [if_pos (.inr ⟨u, x⟩)] at g1; exact g1 (by omega)
      · rw [if_neg (by omega)] at g2; exact ⟨iI (by omega) (by omega), g2 rfl _ rfl⟩
      · rw [if_neg (by omega)] at g2; exact ⟨iI (by omega) (by omega), g2 rfl _ rfl⟩
def cycE (c : q11) (sizes : List Int) : Int :=
  if q21 sizes ≠ 0 then q21 sizes else if c.Base < 0 ∨ c.Number ≤ c.Base ∨ 1073741824 < c.Number then 2 else if c.Time < 0 ∨ 1073741824 < c.Time then 24 else if posR 0 c.Positions ≠ 0 then posR 0 c.Positions else wrsE sizes c.Writes
theorem q185 {c : q11} {sizes : List Int} {Φ : Int → Prop} (hp : c.Positions.length ≤ 100000) (hl : c.Writes.length ≤ 100000) (hd : ∀ w ∈ c.Writes, w.Data.length ≤ 1000000) (hΦ : Φ (cycE c sizes)) : q44 c sizes Φ := by
  unfold cycE at hΦ; refine q67 (fun hs => ⟨fun q => absurd rfl q, fun _ => ?_⟩) fun hs => ⟨fun _ => by rw [if_pos hs] at hΦ; exact hΦ, fun q => absurd hs q⟩
  rw [if_neg (by omega)] at hΦ
  have J : ∀ b : Bool, (b = true ↔ c.Base < 0 ∨ c.Number ≤ c.Base ∨ 1073741824 < c.Number) → Z83 c sizes Φ b := fun b hb => by
    refine ⟨fun q => by rw [if_pos (hb.1 q)] at hΦ; exact hΦ, fun q => ?_⟩; rw [if_neg fun r => q (hb.2 r)] at hΦ; refine q36 ⟨fun r => ?_, fun r => ?_⟩
    · have := of_decide_eq_false (Bool.eq_false_iff.2 r)
      rw [if_pos (by omega)] at hΦ; exact hΦ
    · have := of_decide_eq_true (Classical.not_not.1 r)
      rw [if_neg (by omega)] at hΦ; refine q76 hp ⟨fun t => by rw [if_pos t] at hΦ; exact hΦ, fun t => ?_⟩; rw [if_neg t] at hΦ; exact q238 hl hd (fun u => absurd hs u) fun _ => hΦ
  exact ⟨fun q => J true ⟨fun _ => .inl q, fun _ => rfl⟩, fun q => ⟨fun r => J true ⟨fun _ => .inr (.inl r), fun _ => rfl⟩, fun r => J _ (by simp; omega)⟩⟩
theorem q24 {l : List Int} {Φ : List Int → Prop} (hl : l.length ≤ 1000000) (hΦ : Φ l) : Z34 l Φ :=
  ⟨fun h => (by subst h; exact hΦ), iL hl (by omega), hΦ⟩
theorem q599 {κ ν : Type} [DecidableEq κ] (k : κ) (v : ν) (c : κ) : ∀ m : List (κ × ν), mfind (mput m k v) c = if c = k then some v else mfind m c
  | [] => by unfold mput mfind mfind; rfl
  | p :: m => by
    unfold mput; by_cases h : k = p.1
    · rw [if_pos h]
      unfold mfind; by_cases hc : c = k
      · rw [if_pos (by rw [hc, h]), if_pos hc]
      · rw [if_neg (fun t => hc (t.trans h.symm)), if_neg hc, if_neg (fun t => hc (t.trans h.symm))]
    · rw [if_neg h]
      unfold mfind; rw [q599 k v c m]; by_cases hc : c = k
      · rw [if_neg (fun t => h (hc.symm.trans t)), if_pos hc, if_pos hc]
      · rw [if_neg hc, if_neg hc]
theorem q166 {κ ν : Type} [DecidableEq κ] (c : κ) : ∀ m : List (κ × ν), c ∈ m.map (·.1) ↔ ∃ d, mfind m c = some d
  | [] => by simp [mfind]
  | p :: m => by
    unfold mfind; by_cases h : c = p.1
    · rw [if_pos h]; simp [h]
    · rw [if_neg h, ← q166 c m, List.map_cons, List.mem_cons]
      exact ⟨fun q => q.resolve_left h, .inr⟩
theorem q600 {κ ν : Type} [DecidableEq κ] (k : κ) (v : ν) {m : List (κ × ν)} (c : κ) : c ∈ (mput m k v).map (·.1) ↔ c = k ∨ c ∈ m.map (·.1) := by
  rw [q166, q166, q599]; by_cases h : c = k
  · rw [if_pos h]; exact ⟨fun _ => .inl h, fun _ => ⟨v, rfl⟩⟩
  · rw [if_neg h]; exact ⟨.inr, fun q => q.resolve_left h⟩
theorem q332 {κ ν : Type} [DecidableEq κ] (k : κ) (v : ν) : ∀ {m : List (κ × ν)}, (m.map (·.1)).Nodup → ((mput m k v).map (·.1)).Nodup
  | [], _ => by simp [mput]
  | p :: m, h => by
    have h1 := List.nodup_cons.1 (show (p.1 :: m.map (·.1)).Nodup from h); unfold mput; by_cases hk : k = p.1
    · rw [if_pos hk]; exact h
    · rw [if_neg hk]
      refine List.nodup_cons.2 ⟨fun q => ?_, q332 k v h1.2⟩; rcases (q600 k v p.1).1 q with q | q
      · exact hk q.symm
      · exact h1.1 q
theorem q413 {v : Int} : ∀ (l : List Sec) (m : List (q9 × Sec)) (s : Int), (m.map (·.1)).Nodup → ((wrM m v s l).map (·.1)).Nodup
  | [], _, _, h => h
  | _ :: l, _, _, h => q413 l _ _ (q332 _ _ h)
theorem q526 (l : List q8) : ((effM l).map (·.1)).Nodup := by
  refine q163 (P := fun l => ((effM l).map (·.1)).Nodup) List.nodup_nil (fun l w h => ?_) l; rw [q85]; exact q413 _ _ _ h
theorem ix_cons {α : Type} [Dt α] (x : α) (l : List α) (i : Int) (h : 0 ≤ i) : ix (x :: l) i = if i = 0 then x else ix l (i - 1) := by
  obtain ⟨k, rfl⟩ := Int.eq_ofNat_of_zero_le h; cases k with
  | zero => rfl
  | succ k => rw [if_neg (by omega), show ((k + 1 : Nat) : Int) - 1 = (k : Int) by omega]; rfl
theorem q266 {v : Int} (q : q9) : ∀ (l : List Sec) (m : List (q9 × Sec)) (s : Int), mfind (wrM m v s l) q = if q.volume = v ∧ s ≤ q.sector ∧ q.sector < s + (l.length : Int) then some (ix l (q.sector - s)) else mfind m q
  | [], m, s => by rw [if_neg (by rw [List.length_nil]; omega)]; rfl
  | d :: l, m, s => by
    have el : ((d :: l).length : Int) = (l.length : Int) + 1 := by rw [List.length_cons]; rfl
    rw [wrM, q266 q l, q599, el]; by_cases h : q.volume = v ∧ s ≤ q.sector ∧ q.sector < s + ((l.length : Int) + 1)
    · rw [if_pos h, ix_cons _ _ _ (by omega)]
      by_cases h0 : q.sector = s
      · rw [if_neg (by omega), if_pos (q74 h.1 h0), if_pos (by omega)]
      · rw [if_pos (by omega), if_neg (by omega), show q.sector - (s + 1) = q.sector - s - 1 by omega]
    · rw [if_neg h, if_neg (by omega), if_neg (fun t => h (by rw [t]; exact ⟨rfl, Int.le_refl _, by show s < _; omega⟩))]
theorem wrM_sum {v : Int} (l : List Sec) (m : List (q9 × Sec)) (s : Int) : (wrM m v s l).length ≤ m.length + l.length := q442 l m s
def secN (l : List q8) : Nat := (l.map (·.Data.length)).sum
theorem q106 (a b : List q8) : secN (a ++ b) = secN a + secN b := by unfold secN; rw [List.map_append, List.sum_append_nat]
theorem q376 (w : q8) : secN [w] = w.Data.length := by simp [secN]
theorem q267 (l : List q8) : (effM l).length ≤ secN l := by
  refine q163 (P := fun l => (effM l).length ≤ secN l) (Nat.le_refl _) (fun l w h => ?_) l; rw [q85, q106, q376]; have := wrM_sum (v := w.Volume) w.Data (effM l) w.Start; omega
theorem sec_eff {im : List (List Sec)} (hs : ¬ q21 (szs im) ≠ 0) {v i : Nat} (l : List q8) : (∀ w ∈ l, fitW (szs im) w = 0) → sec (appL im l) v i = mget (effM l) ⟨(v : Int), (i : Int)⟩ (sec im v i) := by
  refine q163 (P := fun l => (∀ w ∈ l, fitW (szs im) w = 0) → sec (appL im l) v i = mget (effM l) ⟨(v : Int), (i : Int)⟩ (sec im v i)) (fun _ => rfl) (fun l w ih h => ?_) l; have hl : ∀ x ∈ l, fitW (szs im) x = 0 := fun x hx => h x (List.mem_append_left _ hx); have e := q175 hs hl; obtain ⟨v0, s0, hw⟩ := q165 (sizes := szs (appL im l)) (w := w) (by rw [e]; exact hs) (by rw [e]; exact h w (by simp)); rw [q225, q85, q237 hw, ih hl]; unfold mget; rw [q266]; by_cases hc : covW w v i
  · rw [if_pos hc, if_pos (by unfold covW at hc; exact ⟨hc.1.symm, hc.2.1, hc.2.2⟩)]
  · rw [if_neg hc, if_neg (fun t => hc (by unfold covW; exact ⟨t.1.symm, t.2.1, t.2.2⟩))]
def behW (w : q8) : q9 := ⟨w.Volume, w.Start + (w.Data.length : Int)⟩
def stepR (m : List (q9 × Sec)) (R : List q8) (p : q9) : List q8 :=
  match R with
  | [] => [⟨p.volume, p.sector, [mget m p sec0]⟩]
  | w :: r => if p = behW w then ⟨w.Volume, w.Start, w.Data ++ [mget m p sec0]⟩ :: r else ⟨p.volume, p.sector, [mget m p sec0]⟩ :: w :: r
theorem q601 (xs : List q8) (w : q8) (ys : List Sec) : clsW (xs ++ [w]) ys = xs ++ [⟨w.Volume, w.Start, ys⟩] := by
  have e : (((xs ++ [w]).length : Nat) : Int) - 1 = (xs.length : Int) := by rw [q17]; omega
  have g : ix (xs ++ [w]) (xs.length : Int) = w := by rw [q50 (by rw [q17]; omega)]; simp
  unfold clsW; rw [e, g]; show (xs ++ [w]).set xs.length _ = _; rw [List.set_append_right _ _ (Nat.le_refl _), Nat.sub_self]; rfl
def InvG (st : q9 × List q8 × List Sec) : List q8 → Prop
  | [] => st = (⟨-1, 0⟩, [], [])
  | w :: r => st.1 = behW w ∧ st.2.2 = w.Data ∧ ∃ d, st.2.1 = r.reverse ++ [⟨w.Volume, w.Start, d⟩]
theorem InvG.cls {st : q9 × List q8 × List Sec} : ∀ {R : List q8}, InvG st R → clsW st.2.1 st.2.2 = R.reverse
  | [], h => by rw [show st = (⟨-1, 0⟩, [], []) from h]; rfl
  | w :: r, ⟨_, h2, d, h3⟩ => by rw [h3, q601, h2, List.reverse_cons]
theorem q668 (m : List (q9 × Sec)) (ps : List q9) : (∀ p ∈ ps, 0 ≤ p.volume) → InvG (grpL m ps) (ps.foldl (stepR m) []) := by
  refine q163 (P := fun ps => (∀ p ∈ ps, 0 ≤ p.volume) → InvG (grpL m ps) (ps.foldl (stepR m) [])) (fun _ => rfl) (fun ps p ih h => ?_) ps; have ih := ih fun q hq => h q (List.mem_append_left _ hq); have hp := h p (by simp); rw [q296, List.foldl_append]; show InvG (grpS m (grpL m ps) p) (stepR m (ps.foldl (stepR m) []) p); have hc := ih.cls; generalize ps.foldl (stepR m) [] = R at ih hc ⊢; generalize grpL m ps = st at ih hc ⊢; unfold grpS; cases R with
  | nil =>
    have e : st = (⟨-1, 0⟩, [], []) := ih; rw [if_pos (by rw [e]; rintro rfl; exact absurd hp (by show ¬ ((0 : Int) ≤ -1); omega)), hc]; exact ⟨rfl, rfl, [], rfl⟩
  | cons w r =>
    obtain ⟨h1, h2, d, h3⟩ := ih; unfold stepR; by_cases hb : p = behW w
    · simp only [if_pos hb]
      rw [if_neg (by rw [h1, hb]; exact fun t => t rfl)]; refine ⟨?_, by show st.2.2 ++ _ = _; rw [h2], d, h3⟩; show (⟨p.volume, p.sector + 1⟩ : q9) = behW ⟨w.Volume, w.Start, w.Data ++ [mget m p sec0]⟩; unfold behW; rw [hb, q17]; exact q74 rfl (by show w.Start + (w.Data.length : Int) + 1 = w.Start + ((w.Data.length + 1 : Nat) : Int); omega)
    · simp only [if_neg hb]
      rw [if_pos (by rw [h1]; exact hb), hc]; exact ⟨rfl, rfl, [], rfl⟩
def ltQ (a b : q9) : Prop := a.volume < b.volume ∨ a.volume = b.volume ∧ a.sector < b.sector
def gapW (y x : q8) : Prop := y.Volume < x.Volume ∨ y.Volume = x.Volume ∧ y.Start + (y.Data.length : Int) < x.Start
structure Grp (m : List (q9 × Sec)) (ps : List q9) (R : List q8) : Prop where
  ne : ∀ w ∈ R, 0 < w.Data.length
  gap : R.Pairwise fun x y => gapW y x
  mem : ∀ w ∈ R, ∀ j : Nat, j < w.Data.length → (⟨w.Volume, w.Start + (j : Int)⟩ : q9) ∈ ps ∧ ix w.Data (j : Int) = mget m ⟨w.Volume, w.Start + (j : Int)⟩ sec0
  cov : ∀ p ∈ ps, ∃ w ∈ R, w.Volume = p.volume ∧ w.Start ≤ p.sector ∧ p.sector < w.Start + (w.Data.length : Int)
  sum : secN R = ps.length
theorem ix_snoc {α : Type} [Dt α] (xs : List α) (x : α) (j : Nat) (h : j < (xs ++ [x]).length) : ix (xs ++ [x]) (j : Int) = if j = xs.length then x else ix xs (j : Int) := by
  rw [q17] at h; by_cases e : j = xs.length
  · rw [if_pos e, q50 (by rw [q17]; omega)]; simp [e]
  · rw [if_neg e, q50 (by rw [q17]; omega), q50 (by omega), List.getElem_append_left (by omega)]
theorem Grp.step {m : List (q9 × Sec)} {ps : List q9} {R : List q8} (g : Grp m ps R) {p : q9} (hp : ∀ q ∈ ps, ltQ q p) : Grp m (ps ++ [p]) (stepR m R p) := by
  have one : ∀ (w : q8), w ∈ R → w.Volume < p.volume ∨ w.Volume = p.volume ∧ w.Start + (w.Data.length : Int) ≤ p.sector := fun w hw => by
    have h0 := g.ne w hw; have h1 := hp _ (g.mem w hw (w.Data.length - 1) (by omega)).1; unfold ltQ at h1; simp only at h1; omega
  have nw : ∀ j : Nat, j < [mget m p sec0].length → (⟨p.volume, p.sector + (j : Int)⟩ : q9) ∈ ps ++ [p] ∧ ix [mget m p sec0] (j : Int) = mget m ⟨p.volume, p.sector + (j : Int)⟩ sec0 := fun j hj => by
    obtain rfl : j = 0 := by simpa using hj
    have e : (⟨p.volume, p.sector + ((0 : Nat) : Int)⟩ : q9) = p := q74 rfl (by show p.sector + ((0 : Nat) : Int) = p.sector; omega); rw [e]; exact ⟨by simp, rfl⟩
  have old : ∀ w ∈ R, ∀ j : Nat, j < w.Data.length → (⟨w.Volume, w.Start + (j : Int)⟩ : q9) ∈ ps ++ [p] ∧ ix w.Data (j : Int) = mget m ⟨w.Volume, w.Start + (j : Int)⟩ sec0 := fun w hw j hj => ⟨List.mem_append_left _ (g.mem w hw j hj).1, (g.mem w hw j hj).2⟩
  have push : (∀ w ∈ R, p ≠ behW w) → Grp m (ps ++ [p]) (⟨p.volume, p.sector, [mget m p sec0]⟩ :: R) := fun hb => by
    refine ⟨fun w hw => ?_, List.pairwise_cons.2 ⟨fun y hy => ?_, g.gap⟩, fun w hw => ?_, fun q hq => ?_, ?_⟩
    · rcases List.mem_cons.1 hw with rfl | hw
      · exact Nat.zero_lt_one
      · exact g.ne w hw
    · have h1 := one y hy
      have h2 := hb y hy; unfold gapW; rcases h1 with h1 | h1
      · exact .inl h1
      · refine .inr ⟨h1.1, ?_⟩
        show y.Start + (y.Data.length : Int) < p.sector; have : y.Start + (y.Data.length : Int) ≠ p.sector := fun t => h2 (q74 h1.1.symm t.symm); omega
    · rcases List.mem_cons.1 hw with rfl | hw
      · exact nw
      · exact old w hw
    · rcases List.mem_append.1 hq with hq | hq
      · obtain ⟨w, hw, h⟩ := g.cov q hq
        exact ⟨w, List.mem_cons_of_mem _ hw, h⟩
      · obtain rfl := List.mem_singleton.1 hq
        exact ⟨_, List.mem_cons_self .., rfl, Int.le_refl _, by show q.sector < q.sector + ((1 : Nat) : Int); omega⟩
    · have := g.sum
      unfold secN at *; rw [List.map_cons, List.sum_cons, this, q17]; show 1 + ps.length = _; omega
  cases R with
  | nil => exact push fun w hw => absurd hw List.not_mem_nil
  | cons w r =>
    have gp := List.pairwise_cons.1 g.gap; unfold stepR; by_cases hb : p = behW w
    · simp only [if_pos hb]
      have hv : w.Volume = p.volume := by rw [hb]; rfl
      have hsx : w.Start + (w.Data.length : Int) = p.sector := by rw [hb]; rfl
      refine ⟨fun x hx => ?_, List.pairwise_cons.2 ⟨fun y hy => gp.1 y hy, gp.2⟩, fun x hx => ?_, fun q hq => ?_, ?_⟩
      · rcases List.mem_cons.1 hx with rfl | hx
        · show 0 < (w.Data ++ _).length
          rw [q17]; omega
        · exact g.ne x (List.mem_cons_of_mem _ hx)
      · rcases List.mem_cons.1 hx with rfl | hx
        · intro j hj
          have hj : j < (w.Data ++ [mget m p sec0]).length := hj; show (⟨w.Volume, w.Start + (j : Int)⟩ : q9) ∈ ps ++ [p] ∧ ix (w.Data ++ [mget m p sec0]) (j : Int) = _; rw [ix_snoc _ _ _ hj]; rw [q17] at hj; by_cases e : j = w.Data.length
          · have ep : (⟨w.Volume, w.Start + (j : Int)⟩ : q9) = p := q74 hv (by show w.Start + (j : Int) = _; omega)
            rw [if_pos e]; exact ⟨by rw [ep]; simp, by show _ = mget m (⟨w.Volume, w.Start + (j : Int)⟩ : q9) sec0; rw [ep]⟩
          · rw [if_neg e]
            exact old w (List.mem_cons_self ..) j (by omega)
        · exact old x (List.mem_cons_of_mem _ hx)
      · rcases List.mem_append.1 hq with hq | hq
        · obtain ⟨x, hx, h1, h2, h3⟩ := g.cov q hq
          rcases List.mem_cons.1 hx with rfl | hx
          · exact ⟨_, List.mem_cons_self .., h1, h2, by show q.sector < x.Start + ((x.Data ++ [mget m p sec0]).length : Int); rw [q17]; omega⟩
          · exact ⟨x, List.mem_cons_of_mem _ hx, h1, h2, h3⟩
        · obtain rfl := List.mem_singleton.1 hq
          exact ⟨_, List.mem_cons_self .., hv, by show w.Start ≤ _; omega, by show q.sector < w.Start + ((w.Data ++ [mget m q sec0]).length : Int); rw [q17]; omega⟩
      · have := g.sum
        unfold secN at *; rw [List.map_cons, List.sum_cons] at *; rw [q17, q17]; omega
    · simp only [if_neg hb]
      refine push fun y hy => ?_; rcases List.mem_cons.1 hy with rfl | hy
      · exact hb
      · rintro rfl
        have h1 := gp.1 y hy; have h2 := one w (List.mem_cons_self ..); have h3 := g.ne w (List.mem_cons_self ..); unfold gapW at h1; unfold behW at h2; simp only at h2; omega
theorem grp_all (m : List (q9 × Sec)) (ps : List q9) : ps.Pairwise ltQ → Grp m ps (ps.foldl (stepR m) []) := by
  refine q163 (P := fun ps => ps.Pairwise ltQ → Grp m ps (ps.foldl (stepR m) [])) (fun _ => ⟨fun w hw => absurd hw List.not_mem_nil, List.Pairwise.nil, fun w hw => absurd hw List.not_mem_nil, fun p hp => absurd hp List.not_mem_nil, rfl⟩) (fun ps p ih h => ?_) ps; rw [List.foldl_append]; have h1 := List.pairwise_append.1 h; exact (ih h1.1).step fun q hq => h1.2.2 q hq p (by simp)
theorem q445 {m : List (q9 × Sec)} (hn : (m.map (·.1)).Nodup) : (sortG pleB (m.map (·.1))).Pairwise ltQ := by
  have h1 := q117 q161 q162 (m.map (·.1)); have h2 : (sortG pleB (m.map (·.1))).Nodup := (q40 pleB _).nodup_iff.2 hn; refine (List.Pairwise.and h1 h2).imp fun {a b} h => ?_; have := h.1; unfold pleB at this; simp only [decide_eq_true_eq] at this; unfold ltQ; have : ¬ (a.volume = b.volume ∧ a.sector = b.sector) := fun t => h.2 (q74 t.1 t.2); omega
theorem q669 {m : List (q9 × Sec)} (hn : (m.map (·.1)).Nodup) (hv : ∀ q ∈ m, 0 ≤ q.1.volume) : ∃ R, Grp m (sortG pleB (m.map (·.1))) R ∧ canL m = R.reverse := by
  refine ⟨_, grp_all m _ (q445 hn), (q668 m _ fun p hp => ?_).cls⟩; obtain ⟨q, hq, rfl⟩ := List.mem_map.1 ((q40 pleB _).mem_iff.1 hp); exact hv q hq
structure Can (m : List (q9 × Sec)) (ws : List q8) : Prop where
  ne : ∀ w ∈ ws, 0 < w.Data.length
  gap : ws.Pairwise gapW
  mem : ∀ w ∈ ws, ∀ j : Nat, j < w.Data.length → mfind m ⟨w.Volume, w.Start + (j : Int)⟩ = some (ix w.Data (j : Int))
  cov : ∀ p d, mfind m p = some d → ∃ w ∈ ws, w.Volume = p.volume ∧ w.Start ≤ p.sector ∧ p.sector < w.Start + (w.Data.length : Int)
  sum : secN ws = m.length
theorem q414 (l : List q8) : secN l.reverse = secN l := by
  unfold secN; rw [List.map_reverse, List.sum_reverse]
theorem q670 {m : List (q9 × Sec)} (hn : (m.map (·.1)).Nodup) (hv : ∀ q ∈ m, 0 ≤ q.1.volume) : Can m (canL m) := by
  obtain ⟨R, g, e⟩ := q669 hn hv; have pm : ∀ p, p ∈ sortG pleB (m.map (·.1)) ↔ ∃ d, mfind m p = some d := fun p => ((q40 pleB _).mem_iff).trans (q166 p m); rw [e]; refine ⟨fun w hw => g.ne w (List.mem_reverse.1 hw), List.pairwise_reverse.2 g.gap, fun w hw j hj => ?_, fun p d h => ?_, ?_⟩
  · obtain ⟨h1, h2⟩ := g.mem w (List.mem_reverse.1 hw) j hj
    obtain ⟨d, hd⟩ := (pm _).1 h1; unfold mget at h2; rw [hd] at h2; rw [hd, h2]
  · obtain ⟨w, hw, h⟩ := g.cov p ((pm p).2 ⟨d, h⟩)
    exact ⟨w, List.mem_reverse.2 hw, h⟩
  · rw [q414, g.sum, (q40 pleB _).length_eq, List.length_map]
theorem q509 {sizes : List Int} (hs : ¬ q21 sizes ≠ 0) {l : List q8} (hf : ∀ w ∈ l, fitW sizes w = 0) : ∀ q ∈ effM l, 0 ≤ q.1.volume ∧ q.1.volume < (sizes.length : Int) ∧ 0 ≤ q.1.sector ∧ q.1.sector < ix sizes q.1.volume := by
  revert hf
  refine q163 (P := fun l => (∀ w ∈ l, fitW sizes w = 0) → ∀ q ∈ effM l, 0 ≤ q.1.volume ∧ q.1.volume < (sizes.length : Int) ∧ 0 ≤ q.1.sector ∧ q.1.sector < ix sizes q.1.volume) (fun _ q hq => absurd hq List.not_mem_nil) (fun l w ih h => ?_) l; have ih := ih fun x hx => h x (List.mem_append_left _ hx); obtain ⟨v, s, hw⟩ := q165 hs (h w (by simp)); have e1 := hw.vol; have e2 := hw.start; have e3 := hw.hv; have e4 := hw.le; rw [q85]; refine q443 (p := fun c => 0 ≤ c.volume ∧ c.volume < (sizes.length : Int) ∧ 0 ≤ c.sector ∧ c.sector < ix sizes c.volume) _ _ _ (fun j hj => ?_) ih; rw [e1, e2]; exact ⟨by show (0 : Int) ≤ (v : Int); omega, by show (v : Int) < _; omega, by show (0 : Int) ≤ (s : Int) + (j : Int); omega, by show (s : Int) + (j : Int) < ix sizes (v : Int); omega⟩
theorem q602 {m : List (q9 × Sec)} {p : q9} {d : Sec} (h : mfind m p = some d) : ∃ q ∈ m, q.1 = p := by
  have := (q166 p m).2 ⟨d, h⟩; obtain ⟨q, hq, e⟩ := List.mem_map.1 this; exact ⟨q, hq, e⟩
theorem q446 {sizes : List Int} {m : List (q9 × Sec)} {ws : List q8} (c : Can m ws) (hm : ∀ q ∈ m, 0 ≤ q.1.volume ∧ q.1.volume < (sizes.length : Int) ∧ 0 ≤ q.1.sector ∧ q.1.sector < ix sizes q.1.volume) : ∀ w ∈ ws, fitW sizes w = 0 := fun w hw => by
  have h0 := c.ne w hw; obtain ⟨q1, hq1, e1⟩ := q602 (c.mem w hw 0 h0); obtain ⟨q2, hq2, e2⟩ := q602 (c.mem w hw (w.Data.length - 1) (by omega)); have b1 := hm q1 hq1; have b2 := hm q2 hq2; rw [e1] at b1; rw [e2] at b2; simp only at b1 b2; unfold fitW; rw [if_neg (by omega), if_neg (by omega), if_neg (by omega)]
theorem q603 {sizes : List Int} {m : List (q9 × Sec)} {ws : List q8} (c : Can m ws) (hf : ∀ w ∈ ws, fitW sizes w = 0) : wrsE sizes ws = 0 := by
  refine q33.2 fun k hk => ?_; unfold ordW; rw [if_neg (fun t => t (hf _ (q92 (iX (by omega) (by omega)))))]; by_cases h0 : k = 0
  · rw [if_pos h0]
  · rw [if_neg h0]
    have g := List.pairwise_iff_getElem.1 c.gap (k - 1) k (by omega) hk (by omega); rw [← q50 (by omega), ← q50 hk, show ((k - 1 : Nat) : Int) = (k : Int) - 1 by omega] at g; unfold gapW at g; rw [if_neg (by omega)]
theorem sec_can {im : List (List Sec)} (hs : ¬ q21 (szs im) ≠ 0) {m : List (q9 × Sec)} {ws : List q8} (c : Can m ws) (hf : ∀ w ∈ ws, fitW (szs im) w = 0) (v i : Nat) : sec (appL im ws) v i = mget m ⟨(v : Int), (i : Int)⟩ (sec im v i) := by
  have hcv : ∀ w ∈ ws, covW w v i → mfind m ⟨(v : Int), (i : Int)⟩ = some (ix w.Data ((i : Int) - w.Start)) := fun w hw hc => by
    unfold covW at hc; obtain ⟨j, hj⟩ := Int.eq_ofNat_of_zero_le (show 0 ≤ (i : Int) - w.Start by omega); have := c.mem w hw j (by omega); rw [hj, ← this]
    congr 1
    exact q74 hc.1.symm (by show (i : Int) = w.Start + (j : Int); omega)
  unfold mget; cases hm : mfind m ⟨(v : Int), (i : Int)⟩ with
  | none => exact q666 hs hf fun w hw hc => by rw [hcv w hw hc] at hm; cases hm
  | some d =>
    have key : ∀ (l : List q8), (∀ w ∈ l, fitW (szs im) w = 0) → (∀ w ∈ l, covW w v i → ix w.Data ((i : Int) - w.Start) = d) → (∃ w ∈ l, covW w v i) → sec (appL im l) v i = d := by
      intro l; refine q163 (P := fun l => (∀ w ∈ l, fitW (szs im) w = 0) → (∀ w ∈ l, covW w v i → ix w.Data ((i : Int) - w.Start) = d) → (∃ w ∈ l, covW w v i) → sec (appL im l) v i = d) (fun _ _ h => ?_) (fun l w ih h1 h2 h3 => ?_) l
      · obtain ⟨w, hw, _⟩ := h; exact absurd hw List.not_mem_nil
      · have hl : ∀ x ∈ l, fitW (szs im) x = 0 := fun x hx => h1 x (List.mem_append_left _ hx)
        have e := q175 hs hl; obtain ⟨v0, s0, hw⟩ := q165 (sizes := szs (appL im l)) (w := w) (by rw [e]; exact hs) (by rw [e]; exact h1 w (by simp)); rw [q225, q237 hw]; by_cases hc : covW w v i
        · rw [if_pos hc]; exact h2 w (by simp) hc
        · rw [if_neg hc]
          refine ih hl (fun x hx => h2 x (List.mem_append_left _ hx)) ?_; obtain ⟨x, hx, hcx⟩ := h3; rcases List.mem_append.1 hx with hx | hx
          · exact ⟨x, hx, hcx⟩
          · rw [List.mem_singleton.1 hx] at hcx; exact absurd hcx hc
    refine key ws hf (fun w hw hc => ?_) ?_
    · have := hcv w hw hc
      rw [hm] at this; exact (Option.some.inj this).symm
    · obtain ⟨w, hw, h1, h2, h3⟩ := c.cov _ _ hm
      exact ⟨w, hw, h1, h2, h3⟩
theorem q239 {sizes : List Int} (hs : ¬ q21 sizes ≠ 0) {l : List q8} (hf : ∀ w ∈ l, fitW sizes w = 0) : Can (effM l) (canL (effM l)) := q670 (q526 l) fun q hq => (q509 hs hf q hq).1
theorem q671 {im : List (List Sec)} (hs : ¬ q21 (szs im) ≠ 0) {l : List q8} (hf : ∀ w ∈ l, fitW (szs im) w = 0) : appL im (canL (effM l)) = appL im l := by
  have c := q239 hs hf; have cf := q446 c (q509 hs hf); refine im_ext (by rw [q175 hs cf, q175 hs hf]) fun v i _ _ => ?_; rw [sec_can hs c cf, sec_eff hs l hf]
theorem pairE {α β : Type} {a a' : α} {b b' : β} (h1 : a = a') (h2 : b = b') : (a, b) = (a', b') := by rw [h1, h2]
theorem q186 {β : Type} (f : Nat → β) (k : Nat) : (List.range (k + 1)).map f = (List.range k).map f ++ [f k] := by rw [List.range_succ, List.map_append]; rfl
def cyc0 : q11 := ⟨0, 0, 0, [], []⟩
def appR (im : List (List Sec)) (c : q11) : List (List Sec) × Int := if imgE im ≠ 0 then ([], imgE im) else if cycE c (szs im) ≠ 0 then ([], cycE c (szs im)) else (appL im c.Writes, 0)
theorem q672 {c : q11} {sizes : List Int} (h : cycE c sizes = 0) : wrsE sizes c.Writes = 0 := by
  unfold cycE at h
  split at h
  · next q => exact absurd h q
  split at h
  · omega
  split at h
  · omega
  split at h
  · next q => exact absurd h q
  exact h
theorem wrs_fit {sizes : List Int} {l : List q8} (h : wrsE sizes l = 0) : ∀ w ∈ l, fitW sizes w = 0 := fun w hw => by
  obtain ⟨k, hk, rfl⟩ := List.getElem_of_mem hw; have := q508 (q33.1 h k hk); rwa [q50 hk] at this
theorem q604 {l : List q8} {k : Nat} (h : k < l.length) : secN (l.take (k + 1)) = secN (l.take k) + (ix l (k : Int)).Data.length := by rw [q88 h, q106, q376]
theorem q415 (l : List q8) (k : Nat) : secN (l.take k) ≤ secN l := by
  have := q106 (l.take k) (l.drop k); rw [List.take_append_drop] at this; omega
theorem q176 {c : Nat} : ∀ l : List q8, (∀ w ∈ l, w.Data.length ≤ c) → secN l ≤ l.length * c
  | [], _ => Nat.zero_le _
  | w :: l, h => by
    have h1 := q176 l fun x hx => h x (List.mem_cons_of_mem _ hx); have h2 := h w (List.mem_cons_self ..); have : secN (w :: l) = w.Data.length + secN l := by simp [secN]
    rw [this, List.length_cons, Nat.succ_mul]; omega
theorem q605 {l : List q8} : ∀ w ∈ l, w.Data.length ≤ secN l := fun w hw => by
  obtain ⟨a, b, rfl⟩ := List.append_of_mem hw; rw [q106, show w :: b = [w] ++ b from rfl, q106, q376]; omega
theorem can_len {m : List (q9 × Sec)} {ws : List q8} (c : Can m ws) : ws.length ≤ m.length := by
  rw [← c.sum]
  have : ∀ l : List q8, (∀ w ∈ l, 0 < w.Data.length) → l.length ≤ secN l := by
    intro l
    induction l with
    | nil => intro _; exact Nat.zero_le _
    | cons w l ih =>
      intro h; have h1 := ih fun x hx => h x (List.mem_cons_of_mem _ hx); have h2 := h w (List.mem_cons_self ..); have : secN (w :: l) = w.Data.length + secN l := by simp [secN]
      rw [this, List.length_cons]; omega
  exact this ws c.ne
structure q714 (c : q10) : Prop where
  sizes : c.Sizes.length ≤ 20
  pos : c.Positions.length ≤ 20
  nodes : c.Nodes.length ≤ 300
  len : c.Writes.length ≤ 300
  data : ∀ w ∈ c.Writes, w.Data.length ≤ 24
def cap0 : q10 := ⟨0, [], [], [], []⟩
def openR (sizes : List Int) (nodes number : Int) : q10 × Int :=
  if q21 sizes ≠ 0 then (cap0, q21 sizes) else if nodes < 1 ∨ 8 < nodes then (cap0, 6) else if number < 0 ∨ 1073741823 < number then (cap0, 2) else (⟨number, sizes, List.replicate nodes.toNat 0, [], []⟩, 0)
theorem q377 {sizes : List Int} {nodes number : Int} {Φ : q10 × Int → Prop} (hΦ : Φ (openR sizes nodes number)) : q160 sizes nodes number Φ := by
  unfold openR at hΦ; refine q67 (fun hs => ⟨fun q => absurd rfl q, fun _ => ?_⟩) fun hs => ⟨fun _ => by rw [if_pos hs] at hΦ; exact hΦ, fun q => absurd hs q⟩
  rw [if_neg (by omega)] at hΦ; refine q36 ⟨fun r => ?_, fun r => ?_⟩
  · have := of_decide_eq_false (Bool.eq_false_iff.2 r)
    rw [if_pos (by omega)] at hΦ; exact hΦ
  · have g := of_decide_eq_true (Classical.not_not.1 r)
    rw [if_neg (by omega)] at hΦ; refine q36 ⟨fun r => ?_, fun r => ?_⟩
    · have := of_decide_eq_false (Bool.eq_false_iff.2 r)
      rw [if_pos (by omega)] at hΦ; exact hΦ
    · have := of_decide_eq_true (Classical.not_not.1 r)
      rw [if_neg (by omega)] at hΦ; have h8 := q41 hs; exact ⟨(sizes, ()), q24 (by omega) rfl, by omega, iL (by omega) (by omega), hΦ⟩
def nodW (c : q10) (k : Nat) : Int := if ix c.Nodes (k : Int) < 0 ∨ (c.Positions.length : Int) ≤ ix c.Nodes (k : Int) then 7 else fitW c.Sizes (ix c.Writes (k : Int))
def cptE (c : q10) : Int :=
  if q21 c.Sizes ≠ 0 then q21 c.Sizes else if c.Number < 0 ∨ 1073741823 < c.Number then 2 else if posR 1 c.Positions ≠ 0 then posR 1 c.Positions else if c.Nodes.length ≠ c.Writes.length ∨ 4096 < c.Writes.length then 6 else q75 (nodW c) c.Writes.length
def addE (c : q10) (n : Int) (w : q8) : Int :=
  if cptE c ≠ 0 then cptE c else if n < 0 ∨ (c.Positions.length : Int) ≤ n then 7 else if fitW c.Sizes w ≠ 0 then fitW c.Sizes w else if 4096 ≤ c.Writes.length then 11 else 0
def addR (c : q10) (n : Int) (w : q8) : q10 × Int :=
  if addE c n w ≠ 0 then (cap0, addE c n w) else (⟨c.Number, c.Sizes, c.Positions, c.Nodes ++ [n], c.Writes ++ [w]⟩, 0)
theorem q107 {w : q8} {Φ : q8 → Prop} (hw : w.Data.length ≤ 1000000) (hΦ : Φ w) : Z50 w Φ := q63 hw hΦ
theorem q300 {c : q10} {Φ : q10 → Prop} (hs : c.Sizes.length ≤ 100000) (hp : c.Positions.length ≤ 100000) (hn : c.Nodes.length ≤ 100000) (hl : c.Writes.length ≤ 100000) (hd : ∀ w ∈ c.Writes, w.Data.length ≤ 1000000) (hΦ : Φ c) : Z52 c Φ := by
  refine ⟨(c.Sizes, ()), q24 (by omega) rfl, (c.Positions, ()), q24 (by omega) rfl, (c.Nodes, ()), q24 (by omega) rfl, ?_⟩; refine LoopW.upT c.Writes.length (fun k => ((k : Int), c.Writes.take k)) rfl (fun k rec hk hr => ⟨fun _ => ⟨iX (by omega) (by omega), ?_⟩, fun _ => by omega⟩) fun rec => ⟨fun _ => by omega, fun _ => by rw [q60]; exact hΦ⟩
  have hm := hd _ (q92 (iX (i := (k : Int)) (n := c.Writes.length) (by omega) (by omega))); exact q107 hm ⟨iL (by rw [q17, lenT (by omega)]; omega) (by omega), iI (by omega) (by omega), hr _ (by rw [q88 hk]; rfl)⟩
theorem q416 {c : q10} {n : Int} {w : q8} {Φ : q10 × Int → Prop} (hp : c.Positions.length ≤ 100000) (hn : c.Nodes.length ≤ 100000) (hl : c.Writes.length ≤ 100000) (hd : ∀ w ∈ c.Writes, w.Data.length ≤ 1000000) (hw : w.Data.length ≤ 1000000) (hΦ : Φ (addR c n w)) : q195 c n w Φ := by
  have er : ∀ e, addE c n w = e → e ≠ 0 → Φ (cap0, e) := fun e h1 h2 => by
    unfold addR at hΦ; rw [h1, if_pos h2] at hΦ; exact hΦ
  have cr : ∀ e, cptE c = e → e ≠ 0 → Φ (cap0, e) := fun e h1 h2 => er e (by unfold addE; rw [h1, if_pos h2]) h2; refine q67 (fun hs => ⟨fun q => absurd rfl q, fun _ => ?_⟩) fun hs => ⟨fun _ => cr _ (by unfold cptE; rw [if_pos hs]) hs, fun q => absurd (show q21 c.Sizes = 0 from Classical.not_not.1 q) hs⟩
  have h8 := q41 hs; have e := q223 hs; have hs' : imgE (zeroI c.Sizes) = 0 := by unfold imgE; rw [e]; exact hs
  refine q36 ⟨fun r => ?_, fun r => ?_⟩
  · have := of_decide_eq_false (Bool.eq_false_iff.2 r)
    exact cr 2 (by unfold cptE; rw [if_neg (by omega), if_pos (by omega)]) (by omega)
  have a1 := of_decide_eq_true (Classical.not_not.1 r); refine q76 hp ⟨fun t => cr _ (by unfold cptE; rw [if_neg (by omega), if_neg (by omega), if_pos t]) t, fun t => ?_⟩; have t := Classical.not_not.1 t; refine ⟨fun u => ⟨fun x => cr 6 (by unfold cptE; rw [if_neg (by omega), if_neg (by omega), if_neg (by omega), if_pos (by omega)]) (by omega), fun x => ?_⟩, fun u => cr 6 (by unfold cptE; rw [if_neg (by omega), if_neg (by omega), if_neg (by omega), if_pos (by omega)]) (by omega)⟩; have ce : cptE c = q75 (nodW c) c.Writes.length := by unfold cptE; rw [if_neg (by omega), if_neg (by omega), if_neg (by omega), if_neg (by omega)]
  refine LoopW.errI c.Writes.length (fun k => (k : Int)) (nodW c) (Ψ := fun o => o = cptE c) rfl ce.symm (fun k rec hk hj g1 g2 => ⟨fun _ => ⟨iX (by omega) (by omega), iX (by omega) (by omega), iI (by omega) (by omega), q36 ⟨fun y => ?_, fun y => ?_⟩⟩, fun _ => by omega⟩) fun rec _ c0 => ⟨fun _ => by omega, fun _ => ⟨iI (by omega) (by omega), q36 ⟨fun y => ?_, fun y => ?_⟩⟩⟩
  · have := of_decide_eq_false (Bool.eq_false_iff.2 y)
    unfold nodW at g1; rw [if_pos (by omega)] at g1; exact cr 7 (g1 (by omega)).symm (by omega)
  · have := of_decide_eq_true (Classical.not_not.1 y)
    unfold nodW at g1 g2; rw [if_neg (by omega)] at g1 g2; refine q97 (hd _ (q92 (iX (i := (k : Int)) (n := c.Writes.length) (by omega) (by omega)))) hs' ?_; rw [e]; exact ⟨fun z => cr _ (g1 z).symm z, fun z => ⟨iI (by omega) (by omega), g2 (Classical.not_not.1 z) _ rfl⟩⟩
  · have := of_decide_eq_false (Bool.eq_false_iff.2 y)
    exact er 7 (by unfold addE; rw [if_neg (by omega), if_pos (by omega)]) (by omega)
  · have a2 := of_decide_eq_true (Classical.not_not.1 y)
    refine q97 hw hs' ?_; rw [e]; refine ⟨fun z => er _ (by unfold addE; rw [if_neg (by omega), if_neg (by omega), if_pos z]) z, fun z => ⟨fun v => er 11 (by unfold addE; rw [if_neg (by omega), if_neg (by omega), if_neg z, if_pos (by omega)]) (by omega), fun v => ?_⟩⟩; refine q300 (by omega) hp hn hl hd ⟨iL (by rw [q17]; omega) (by omega), (w, ()), q107 hw rfl, iL (by rw [q17]; omega) (by omega), ?_⟩; have e0 : addE c n w = 0 := by unfold addE; rw [if_neg (by omega), if_neg (by omega), if_neg z, if_neg (by omega)]
    unfold addR at hΦ; rw [if_neg (fun t => t e0)] at hΦ; exact hΦ
def tabL {α : Type} (n : Nat) (f : Nat → α) : List α := (List.range n).map f
theorem q14 {α : Type} (n : Nat) (f : Nat → α) : (tabL n f).length = n := by unfold tabL; rw [List.length_map, List.length_range]
theorem q38 {α : Type} [Dt α] {n i : Nat} {f : Nat → α} (h : i < n) : ix (tabL n f) (i : Int) = f i := by
  rw [q50 (by rw [q14]; exact h)]; unfold tabL; simp
theorem q62 {α : Type} {n : Nat} {f g : Nat → α} (h : ∀ i, i < n → f i = g i) : tabL n f = tabL n g := by
  unfold tabL; exact List.map_congr_left fun i hi => h i (List.mem_range.1 hi)
theorem q447 {α : Type} [Dt α] {n a : Nat} {f g : Nat → α} {x : α} (ha : a < n) (h0 : g a = x) (h : ∀ i, i < n → i ≠ a → g i = f i) : put (tabL n f) (a : Int) x = tabL n g := by
  refine q220 (by rw [q118, q14, q14]) fun i hi => ?_; rw [q118, q14] at hi; rw [q507 _ _ (by rw [q14]; exact ha), q38 hi, q38 hi]; by_cases e : i = a
  · rw [if_pos e, e, h0]
  · rw [if_neg e, h i hi e]
theorem q61 {α : Type} (k : Nat) (f : Nat → α) : tabL (k + 1) f = tabL k f ++ [f k] := q186 f k
theorem q510 {α : Type} [Dt α] (l : List α) : tabL l.length (fun i => ix l (i : Int)) = l := q220 (q14 _ _) fun i hi => by rw [q14] at hi; rw [q38 hi]
theorem LoopW.split {α S : Type} {step : List α × S → (List α × S → Prop) → Prop} (xs : List α) (f : List α → S) {s0 : S} (hs : s0 = f []) (h : ∀ pre x r rec, xs = pre ++ x :: r → (∀ s, s = (r, f (pre ++ [x])) → rec s) → step (x :: r, f pre) rec) (he : ∀ rec, step ([], f xs) rec) : LoopW step (xs, s0) := by
  have key : ∀ r pre, xs = pre ++ r → LoopN step (r.length + 1) (r, f pre) := by
    intro r
    induction r with
    | nil => intro pre e; rw [List.append_nil] at e; subst e; exact he _
    | cons x r ih => intro pre e; exact h pre x r _ e fun s hs => by rw [hs]; exact ih (pre ++ [x]) (by rw [e, List.append_assoc]; rfl)
  rw [hs]; exact ⟨_, key xs [] rfl⟩
def cnt (N : List Int) (n : Int) : Nat → Nat
  | 0 => 0
  | k + 1 => cnt N n k + if ix N (k : Int) = n then 1 else 0
theorem q715 (N : List Int) (n : Int) : ∀ k, cnt N n k ≤ k
  | 0 => Nat.le_refl _
  | k + 1 => by
    have := q715 N n k; unfold cnt; split <;> omega
theorem q378 (N : List Int) (n : Int) (k : Nat) : cnt N n (k + 1) = cnt N n k + if ix N (k : Int) = n then 1 else 0 := rfl
def pos0 (x : Int) : Int := if x < 0 then 0 else x
theorem q606 (x : Int) : pos0 (pos0 x - 1) = pos0 (x - 1) := by unfold pos0; split <;> split <;> (try split) <;> omega
def leftF (d : Nat → Int) (N : List Int) (m k : Nat) : List Int := tabL m fun i => pos0 (d i - (cnt N (i : Int) k : Int))
def partF (d : Nat → Int) (N : List Int) (k : Nat) : Bool := decide (0 < pos0 (d (ix N (k : Int)).toNat - (cnt N (ix N (k : Int)) k : Int)))
theorem q607 {d : Nat → Int} {N : List Int} {m k : Nat} {x : Int} (h0 : 0 ≤ ix N (k : Int)) (h1 : ix N (k : Int) < (m : Int)) (hx : x = pos0 (pos0 (d (ix N (k : Int)).toNat - (cnt N (ix N (k : Int)) k : Int)) - 1)) : put (leftF d N m k) (ix N (k : Int)) x = leftF d N m (k + 1) := by
  obtain ⟨a, ha⟩ := Int.eq_ofNat_of_zero_le h0; rw [ha] at hx ⊢; unfold leftF; refine q447 (by omega) ?_ fun i hi hne => ?_
  · rw [hx]
    show pos0 (d a - (cnt N (a : Int) (k + 1) : Int)) = _; rw [q378, if_pos ha, Int.toNat_natCast, q606, show d a - ((cnt N (a : Int) k + 1 : Nat) : Int) = d a - (cnt N (a : Int) k : Int) - 1 by omega]
  · show pos0 (d i - (cnt N (i : Int) (k + 1) : Int)) = _
    rw [q378, if_neg (by rw [ha]; omega)]; rfl
theorem q379 {d : Nat → Int} {N : List Int} {m k : Nat} {n : Int} (h0 : 0 ≤ n) (h1 : n < (m : Int)) : ix (leftF d N m k) n = pos0 (d n.toNat - (cnt N n k : Int)) := by
  obtain ⟨a, rfl⟩ := Int.eq_ofNat_of_zero_le h0; unfold leftF; rw [q38 (by omega), Int.toNat_natCast]
def dT (c : q10) (to : List Int) (i : Nat) : Int := ix to (i : Int) - ix c.Positions (i : Int)
def dW (c : q10) (to : List Int) (i : Nat) : Int := Go.IntKind.wrap Go.IntKind.i64 (ix to (i : Int) - ix c.Positions (i : Int))
def inB (c : q10) (to : List Int) (k : Nat) : Bool := partF (dT c to) c.Nodes k
def badI (c : q10) (to : List Int) (i : Nat) : Prop := ix to (i : Int) < ix c.Positions (i : Int) ∨ ix c.Positions (i : Int) + (cnt c.Nodes (i : Int) c.Nodes.length : Int) < ix to (i : Int)
instance (c : q10) (to : List Int) (i : Nat) : Decidable (badI c to i) := by unfold badI; infer_instance
def badB (c : q10) (to : List Int) : Bool := (List.range to.length).any fun i => decide (badI c to i)
theorem q417 {c : q10} {to : List Int} {i : Nat} (hi : i < to.length) (h : badI c to i) : badB c to = true := List.any_eq_true.2 ⟨i, List.mem_range.2 hi, decide_eq_true h⟩
theorem q333 {c : q10} {to : List Int} (h : ∀ i, i < to.length → ¬ badI c to i) : badB c to = false := by
  rw [Bool.eq_false_iff]; intro q; obtain ⟨i, hi, hb⟩ := List.any_eq_true.1 q; exact h i (List.mem_range.1 hi) (of_decide_eq_true hb)
theorem q608 {a b : Int} (ha : inI a) (hb : 0 ≤ b ∧ b ≤ 1073741824) : Go.IntKind.wrap Go.IntKind.i64 (a - b) = a - b ∨ (4611686018427387904 ≤ Go.IntKind.wrap Go.IntKind.i64 (a - b) ∧ Go.IntKind.wrap Go.IntKind.i64 (a - b) ≤ 9223372036854775807 ∧ a < b) := by
  have h1 := ha.1; have h2 := ha.2; by_cases h : -9223372036854775808 ≤ a - b
  · exact .inl (q78 h (by omega))
  · refine .inr ?_
    have e : Go.IntKind.wrap Go.IntKind.i64 (a - b) = a - b + 18446744073709551616 := by
      have w : Go.IntKind.wrap Go.IntKind.i64 (a - b) = if 9223372036854775808 ≤ (a - b) % 18446744073709551616 then (a - b) % 18446744073709551616 - 18446744073709551616 else (a - b) % 18446744073709551616 := by
        simp [IntKind.wrap, IntKind.bits, IntKind.signed]
      rw [w]
      split <;> omega
    rw [e]; omega
def selW (c : q10) (q : Nat → Bool) (n : Nat) : List q8 := ((List.range n).filter q).map fun j : Nat => ix c.Writes (j : Int)
def latL (c : q10) (p : Nat → Bool) (k : Nat) : List q8 := selW c (fun j => decide (k < j) && p j) c.Writes.length
def hidW (w : q8) (l : List q8) : q8 := ⟨w.Volume, w.Start, tabL w.Data.length fun j => mget (effM l) ⟨w.Volume, w.Start + (j : Int)⟩ (ix w.Data (j : Int))⟩
def outN (c : q10) (p : Nat → Bool) (n : Nat) : List Int := ((List.range n).filter fun j => !p j).map fun j : Nat => ix c.Nodes (j : Int)
def outW (c : q10) (p : Nat → Bool) (n : Nat) : List q8 := ((List.range n).filter fun j => !p j).map fun j : Nat => hidW (ix c.Writes (j : Int)) (latL c p j)
def cloE (c : q10) (time : Int) (to : List Int) : Int :=
  if cptE c ≠ 0 then cptE c else if time < 0 ∨ 1073741824 < time then 24 else if to.length ≠ c.Positions.length then 6 else if badB c to = true then 2 else 0
def cloR (c : q10) (time : Int) (to : List Int) : q10 × q11 × Int :=
  if cloE c time to ≠ 0 then (cap0, cyc0, cloE c time to) else (⟨c.Number + 1, c.Sizes, to, outN c (inB c to) c.Writes.length, outW c (inB c to) c.Writes.length⟩, ⟨c.Number, c.Number + 1, time, to, canL (effM (selW c (inB c to) c.Writes.length))⟩, 0)
theorem sel_len {c : q10} {q : Nat → Bool} {n : Nat} : (selW c q n).length ≤ n := by
  unfold selW; rw [List.length_map]; have := List.length_filter_le q (List.range n); rw [List.length_range] at this; exact this
theorem q609 {c : q10} {q : Nat → Bool} {n : Nat} (hn : n ≤ c.Writes.length) : ∀ w ∈ selW c q n, w ∈ c.Writes := fun w hw => by
  obtain ⟨j, hj, rfl⟩ := List.mem_map.1 hw; have := List.mem_range.1 (List.mem_filter.1 hj).1; exact q92 (iX (by omega) (by omega))
structure CapOk (c : q10) : Prop where
  sz : q21 c.Sizes = 0
  num : 0 ≤ c.Number ∧ c.Number ≤ 1073741823
  pos : ∀ k : Nat, k < c.Positions.length → 0 ≤ ix c.Positions (k : Int) ∧ ix c.Positions (k : Int) ≤ 1073741824
  len : c.Nodes.length = c.Writes.length
  node : ∀ k : Nat, k < c.Writes.length → 0 ≤ ix c.Nodes (k : Int) ∧ ix c.Nodes (k : Int) < (c.Positions.length : Int)
  fit : ∀ w ∈ c.Writes, fitW c.Sizes w = 0
theorem posR_ix {least : Int} {l : List Int} (h : posR least l = 0) : ∀ k : Nat, k < l.length → 0 ≤ ix l (k : Int) ∧ ix l (k : Int) ≤ 1073741824 := fun k hk => by
  unfold posR at h
  split at h
  · omega
  · have := q33.1 h k hk
    split at this <;> omega
theorem q673 {c : q10} (h : cptE c = 0) : CapOk c := by
  unfold cptE at h
  split at h
  · next q => exact absurd h q
  split at h
  · omega
  split at h
  · next q => exact absurd h q
  split at h
  · omega
  next q1 q2 q3 q4 =>
    have nd : ∀ k : Nat, k < c.Writes.length → (0 ≤ ix c.Nodes (k : Int) ∧ ix c.Nodes (k : Int) < (c.Positions.length : Int)) ∧ fitW c.Sizes (ix c.Writes (k : Int)) = 0 := fun k hk => by
      have := q33.1 h k hk; unfold nodW at this
      split at this
      · omega
      · exact ⟨by omega, this⟩
    refine ⟨Classical.not_not.1 q1, by omega, posR_ix (Classical.not_not.1 q3), by omega, fun k hk => (nd k hk).1, fun w hw => ?_⟩; obtain ⟨k, hk, rfl⟩ := List.getElem_of_mem hw; have := (nd k hk).2; rwa [q50 hk] at this
theorem fit_pl {sizes : List Int} (hs : q21 sizes = 0) {w : q8} (h : fitW sizes w = 0) : q89 w = 0 := by
  obtain ⟨v, s, hf⟩ := q165 (by omega) h; have h1 := hf.vol; have h2 := hf.start; have h3 := hf.hv; have h4 := hf.len; have h5 := hf.le; have h6 := hf.top; have h8 := q41 hs; unfold q89; rw [if_neg (by omega), if_neg (by omega), if_neg (by omega)]
theorem CapOk.pl {c : q10} (h : CapOk c) : PlL c.Writes := fun w hw => fit_pl h.sz (h.fit w hw)
theorem CapOk.sel {c : q10} (h : CapOk c) (q : Nat → Bool) {n : Nat} (hn : n ≤ c.Writes.length) : PlL (selW c q n) := fun w hw => h.pl w (q609 hn w hw)
def itL (c : q10) (q : Nat → Bool) : List (Int × q8 × Unit) := ((List.range c.Writes.length).filter q).map fun j : Nat => ((j : Int), ix c.Writes (j : Int), ())
theorem it_ok {c : q10} {part : List Bool} {b : Bool} {q : Nat → Bool} (hn : c.Writes.length ≤ 1000000) (hl : part.length = c.Writes.length) (hq : ∀ j : Nat, j < c.Writes.length → (ix part (j : Int) = b ↔ q j = true)) : q28 ⟨c, part⟩ b (itL c q) := by
  unfold itL; rw [List.range_eq_range']; refine LoopW.upT c.Writes.length (fun k => (((List.range' k (c.Writes.length - k)).filter q).map fun j : Nat => ((j : Int), ix c.Writes (j : Int), ()), (k : Int))) rfl (fun k rec hk hr => ⟨fun _ => ⟨iX (by omega) (by show (k : Int) < (c.Writes.length : Int); omega), iX (by omega) (by show (k : Int) < (part.length : Int); omega), fun e => ?_, fun e => ?_⟩, fun r => absurd (show (k : Int) < (c.Writes.length : Int) by omega) r⟩) fun rec => ⟨fun r => absurd r (by show ¬ (c.Writes.length : Int) < (c.Writes.length : Int); omega), fun _ => by rw [Nat.sub_self]; rfl⟩
  · have es : c.Writes.length - k = (c.Writes.length - (k + 1)) + 1 := by omega
    rw [es, List.range'_succ, List.filter_cons_of_pos ((hq k hk).1 e), List.map_cons]; exact ⟨rfl, ⟨iI (by omega) (by omega), hr _ rfl⟩, trivial⟩
  · have es : c.Writes.length - k = (c.Writes.length - (k + 1)) + 1 := by omega
    rw [es, List.range'_succ, List.filter_cons_of_neg (fun t => e ((hq k hk).2 t))]; exact ⟨iI (by omega) (by omega), hr _ rfl⟩
theorem q716 {c : q10} {q : Nat → Bool} {pre : List (Int × q8 × Unit)} {x : Int × q8 × Unit} {r : List (Int × q8 × Unit)} (h : itL c q = pre ++ x :: r) : ∃ j : Nat, j < c.Writes.length ∧ q j = true ∧ x = ((j : Int), ix c.Writes (j : Int), ()) := by
  have : x ∈ itL c q := by rw [h]; simp
  unfold itL at this; obtain ⟨j, hj, rfl⟩ := List.mem_map.1 this; have := List.mem_filter.1 hj; exact ⟨j, List.mem_range.1 this.1, this.2, rfl⟩
theorem q717 {c : q10} {q : Nat → Bool} {pre : List (Int × q8 × Unit)} {x : Int × q8 × Unit} {r : List (Int × q8 × Unit)} (h : itL c q = pre ++ x :: r) : pre.length + 1 ≤ c.Writes.length := by
  have h1 : (itL c q).length ≤ c.Writes.length := by
    unfold itL; rw [List.length_map]; have := List.length_filter_le q (List.range c.Writes.length); rw [List.length_range] at this; exact this
  rw [h, List.length_append, List.length_cons] at h1; omega
def geL (k : Nat) (pre : List (Int × q8 × Unit)) : List q8 := (pre.filter fun x => decide ((k : Int) ≤ x.1)).map (·.2.1)
theorem q511 (k : Nat) (pre : List (Int × q8 × Unit)) (x : Int × q8 × Unit) : geL k (pre ++ [x]) = if (k : Int) ≤ x.1 then geL k pre ++ [x.2.1] else geL k pre := by
  unfold geL; rw [List.filter_append]; by_cases h : (k : Int) ≤ x.1
  · rw [if_pos h]; simp [h]
  · rw [if_neg h]; simp [h]
theorem q674 {c : q10} {part : List Bool} {q : Nat → Bool} {k : Nat} {w : q8} {Φ : q8 → Prop} (hc : CapOk c) (hn : c.Writes.length ≤ 1000000) (hl : part.length = c.Writes.length) (hq : ∀ j : Nat, j < c.Writes.length → (ix part (j : Int) = true ↔ q j = true)) (hw : q89 w = 0) (hΦ : Φ (hidW w (geL k (itL c q)))) : Z72 ⟨c, part⟩ (k : Int) w Φ := by
  have w0 := q295 hw; refine q107 (by omega) ⟨itL c q, it_ok hn hl hq, ?_⟩; refine LoopW.split (itL c q) (fun pre => tabL w.Data.length fun j => mget (effM (geL k pre)) ⟨w.Volume, w.Start + (j : Int)⟩ (ix w.Data (j : Int))) ?_ (fun pre x r rec hx hr => ?_) fun rec => hΦ
  · show w.Data = _
    conv => lhs; rw [← q510 w.Data]
    rfl
  · obtain ⟨j, hj, hqj, rfl⟩ := q716 hx
    have x0 := q295 (hc.pl _ (q92 (iX (i := (j : Int)) (n := c.Writes.length) (by omega) (by omega))))
    have J2 : ∀ b : Bool, (b = true ↔ (j : Int) < (k : Int) ∨ (ix c.Writes (j : Int)).Volume ≠ w.Volume) → Z70 w (tabL w.Data.length fun j => mget (effM (geL k pre)) ⟨w.Volume, w.Start + (j : Int)⟩ (ix w.Data (j : Int))) rec ((j : Int), ix c.Writes (j : Int), ()) r Φ b := fun b hb => by
      refine ⟨fun t => hr _ (pairE rfl ?_), fun t => ?_⟩
      · rw [q511]
        by_cases h : (k : Int) ≤ (j : Int)
        · rw [if_pos h]
          refine q62 fun i hi => ?_; unfold mget; rw [q85, q266, if_neg]
          rintro ⟨h1, _⟩
          have h1 : w.Volume = (ix c.Writes (j : Int)).Volume := h1; rcases hb.1 t with h2 | h2
          · omega
          · exact h2 h1.symm
        · rw [if_neg h]
      · have hjk : (k : Int) ≤ (j : Int) := by
          by_cases h : (j : Int) < (k : Int)
          · exact absurd (hb.2 (.inl h)) t
          · omega
        have hvv : (ix c.Writes (j : Int)).Volume = w.Volume := Classical.byContradiction fun h => t (hb.2 (.inr h)); refine LoopW.upT w.Data.length (fun a => ((a : Int), tabL w.Data.length fun i => if i < a then mget (effM (geL k pre ++ [ix c.Writes (j : Int)])) ⟨w.Volume, w.Start + (i : Int)⟩ (ix w.Data (i : Int)) else mget (effM (geL k pre)) ⟨w.Volume, w.Start + (i : Int)⟩ (ix w.Data (i : Int)))) ?_ (fun a rec2 ha hr2 => ⟨fun _ => ⟨iI (by omega) (by omega), iI (by show _ ≤ w.Start + (a : Int) - (ix c.Writes (j : Int)).Start; omega) (by show w.Start + (a : Int) - (ix c.Writes (j : Int)).Start ≤ _; omega), iI (by show _ ≤ ((ix c.Writes (j : Int)).Data.length : Int) - 1; omega) (by show ((ix c.Writes (j : Int)).Data.length : Int) - 1 ≤ _; omega), q36 ?_⟩, fun u => absurd (show (a : Int) < ((tabL w.Data.length _).length : Int) by rw [q14]; omega) u⟩) fun rec2 => ⟨fun u => absurd u (by rw [q14]; omega), fun _ => hr _ (pairE rfl ?_)⟩
        · refine pairE rfl (q62 fun i _ => by rw [if_neg (Nat.not_lt_zero i)])
        · have ef : mfind (effM (geL k pre ++ [ix c.Writes (j : Int)])) ⟨w.Volume, w.Start + (a : Int)⟩ = if 0 ≤ w.Start + (a : Int) - (ix c.Writes (j : Int)).Start ∧ w.Start + (a : Int) - (ix c.Writes (j : Int)).Start ≤ ((ix c.Writes (j : Int)).Data.length : Int) - 1 then some (ix (ix c.Writes (j : Int)).Data (w.Start + (a : Int) - (ix c.Writes (j : Int)).Start)) else mfind (effM (geL k pre)) ⟨w.Volume, w.Start + (a : Int)⟩ := by
            rw [q85, q266]; by_cases h : 0 ≤ w.Start + (a : Int) - (ix c.Writes (j : Int)).Start ∧ w.Start + (a : Int) - (ix c.Writes (j : Int)).Start ≤ ((ix c.Writes (j : Int)).Data.length : Int) - 1
            · rw [if_pos h, if_pos ⟨hvv.symm, by show _ ≤ w.Start + (a : Int); omega, by show w.Start + (a : Int) < _; omega⟩]
            · rw [if_neg h, if_neg (fun u => h ⟨by have : (ix c.Writes (j : Int)).Start ≤ w.Start + (a : Int) := u.2.1; omega, by have : w.Start + (a : Int) < (ix c.Writes (j : Int)).Start + ((ix c.Writes (j : Int)).Data.length : Int) := u.2.2; omega⟩)]
          refine ⟨fun u => ?_, fun u => ?_⟩
          · have u := of_decide_eq_true u
            have u : 0 ≤ w.Start + (a : Int) - (ix c.Writes (j : Int)).Start ∧ w.Start + (a : Int) - (ix c.Writes (j : Int)).Start ≤ ((ix c.Writes (j : Int)).Data.length : Int) - 1 := u; refine ⟨iX u.1 (by show w.Start + (a : Int) - (ix c.Writes (j : Int)).Start < ((ix c.Writes (j : Int)).Data.length : Int); omega), iX (by omega) (by rw [q14]; omega), iI (by omega) (by omega), hr2 _ (pairE rfl ?_)⟩; refine q447 ha ?_ fun i hi hne => ?_
            · rw [if_pos (by omega)]
              unfold mget; rw [ef, if_pos u]
            · by_cases h : i < a
              · rw [if_pos h, if_pos (by omega)]
              · rw [if_neg h, if_neg (by omega)]
          · have u : ¬ (0 ≤ w.Start + (a : Int) - (ix c.Writes (j : Int)).Start ∧ w.Start + (a : Int) - (ix c.Writes (j : Int)).Start ≤ ((ix c.Writes (j : Int)).Data.length : Int) - 1) := fun v => u (decide_eq_true v)
            refine ⟨iI (by omega) (by omega), hr2 _ (pairE rfl ?_)⟩; refine q62 fun i hi => ?_; by_cases h : i < a
            · rw [if_pos h, if_pos (by omega)]
            · rw [if_neg h]
              by_cases h2 : i = a
              · subst h2
                rw [if_pos (by omega)]; unfold mget; rw [ef, if_neg u]
              · rw [if_neg (by omega)]
        · rw [q511, if_pos hjk]
          exact q62 fun i hi => if_pos hi
    exact ⟨fun u => J2 true ⟨fun _ => .inl u, fun _ => rfl⟩, fun u => J2 _ (by
      rw [decide_eq_true_eq]
      exact ⟨.inr, fun h => h.resolve_left u⟩)⟩
theorem ge_lat {c : q10} {p : Nat → Bool} {k : Nat} (hp : p k = false) : geL k (itL c p) = latL c p k := by
  unfold geL latL selW itL; rw [List.filter_map, List.map_map]
  have e : (List.filter ((fun x : Int × q8 × Unit => decide ((k : Int) ≤ x.1)) ∘ fun j : Nat => ((j : Int), ix c.Writes (j : Int), ())) ((List.range c.Writes.length).filter p)) = (List.range c.Writes.length).filter fun j => decide (k < j) && p j := by
    rw [List.filter_filter]; refine List.filter_congr fun j _ => ?_; show (decide ((k : Int) ≤ (j : Int)) && p j) = _; by_cases hj : p j = true
    · rw [hj, Bool.and_true, Bool.and_true]
      refine decide_eq_decide.2 ?_; have : j ≠ k := by rintro rfl; rw [hp] at hj; exact Bool.noConfusion hj
      omega
    · rw [Bool.of_not_eq_true hj, Bool.and_false, Bool.and_false]
  rw [e]; rfl
theorem q675 {α : Type} {n : Nat} {x : α} {f : Nat → α} (h : ∀ i, i < n → f i = x) : List.replicate n x = tabL n f := by
  unfold tabL
  induction n with
  | zero => rfl
  | succ n ih => rw [List.replicate_succ', q186, ih fun i hi => h i (by omega), h n (by omega)]
theorem it_sel (c : q10) (q : Nat → Bool) : (itL c q).map (fun x => x.2.1) = selW c q c.Writes.length := by
  unfold itL selW; rw [List.map_map]; rfl
theorem q676 {c : q10} (hc : CapOk c) (q : Nat → Bool) : foldR (selW c q c.Writes.length) = (canL (effM (selW c q c.Writes.length)), 0) := by
  unfold foldR; rw [if_neg fun t => t (q33.2 fun k hk => hc.sel q (Nat.le_refl _) _ (q92 (iX (by omega) (by omega))))]
theorem q677 (d : Nat → Int) (N : List Int) {m k : Nat} (h0 : 0 ≤ ix N (k : Int)) (h1 : ix N (k : Int) < (m : Int)) : decide (0 < ix (leftF d N m k) (ix N (k : Int))) = partF d N k := by
  rw [q379 h0 h1]; rfl
theorem q310 {c : q10} {t : Int} {to : List Int} {Φ : q10 × q11 × Int → Prop} (hs : q714 c) (hto : to.length ≤ 20) (hr : ∀ i : Nat, i < to.length → inI (ix to (i : Int))) (hΦ : Φ (cloR c t to)) : q141 c t to Φ := by
  have er : ∀ e, cloE c t to = e → e ≠ 0 → Φ (cap0, cyc0, e) := fun e h1 h2 => by
    unfold cloR at hΦ; rw [h1, if_pos h2] at hΦ; exact hΦ
  have cr : ∀ e, cptE c = e → e ≠ 0 → Φ (cap0, cyc0, e) := fun e h1 h2 => er e (by unfold cloE; rw [h1, if_pos h2]) h2; have s1 := hs.pos; have s2 := hs.nodes; have s3 := hs.len; have s5 := hs.sizes; have s4 : ∀ w ∈ c.Writes, w.Data.length ≤ 1000000 := fun w hw => by have := hs.data w hw; omega
  refine q67 (fun hz => ⟨fun q => absurd rfl q, fun _ => ?_⟩) fun hz => ⟨fun _ => cr _ (by unfold cptE; rw [if_pos hz]) hz, fun q => absurd (show q21 c.Sizes = 0 from Classical.not_not.1 q) hz⟩
  have h8 := q41 hz; have e := q223 hz; have hz' : imgE (zeroI c.Sizes) = 0 := by unfold imgE; rw [e]; exact hz
  refine q36 ⟨fun r => ?_, fun r => ?_⟩
  · have := of_decide_eq_false (Bool.eq_false_iff.2 r)
    exact cr 2 (by unfold cptE; rw [if_neg (by omega), if_pos (by omega)]) (by omega)
  have a1 := of_decide_eq_true (Classical.not_not.1 r); refine q76 (by omega) ⟨fun u => cr _ (by unfold cptE; rw [if_neg (by omega), if_neg (by omega), if_pos u]) u, fun u => ?_⟩; have u := Classical.not_not.1 u; refine ⟨fun v => ⟨fun x => cr 6 (by unfold cptE; rw [if_neg (by omega), if_neg (by omega), if_neg (by omega), if_pos (by omega)]) (by omega), fun x => ?_⟩, fun v => cr 6 (by unfold cptE; rw [if_neg (by omega), if_neg (by omega), if_neg (by omega), if_pos (by omega)]) (by omega)⟩; have ce : cptE c = q75 (nodW c) c.Writes.length := by unfold cptE; rw [if_neg (by omega), if_neg (by omega), if_neg (by omega), if_neg (by omega)]
  refine LoopW.errI c.Writes.length (fun k => (k : Int)) (nodW c) (Ψ := fun o => o = cptE c) rfl ce.symm (fun k rec hk hj g1 g2 => ⟨fun _ => ⟨iX (by omega) (by omega), iX (by omega) (by omega), iI (by omega) (by omega), q36 ⟨fun y => ?_, fun y => ?_⟩⟩, fun _ => by omega⟩) fun rec _ c0 => ⟨fun _ => by omega, fun _ => q36 ⟨fun y => ?_, fun y => ?_⟩⟩
  · have := of_decide_eq_false (Bool.eq_false_iff.2 y)
    unfold nodW at g1; rw [if_pos (by omega)] at g1; exact cr 7 (g1 (by omega)).symm (by omega)
  · have := of_decide_eq_true (Classical.not_not.1 y)
    unfold nodW at g1 g2; rw [if_neg (by omega)] at g1 g2; refine q97 (s4 _ (q92 (iX (i := (k : Int)) (n := c.Writes.length) (by omega) (by omega)))) hz' ?_; rw [e]; exact ⟨fun z => cr _ (g1 z).symm z, fun z => ⟨iI (by omega) (by omega), g2 (Classical.not_not.1 z) _ rfl⟩⟩
  · have := of_decide_eq_false (Bool.eq_false_iff.2 y)
    exact er 24 (by unfold cloE; rw [if_neg (by omega), if_pos (by omega)]) (by omega)
  have a2 := of_decide_eq_true (Classical.not_not.1 y); have hk := q673 c0.symm; refine ⟨fun z => er 6 (by unfold cloE; rw [if_neg (by omega), if_neg (by omega), if_pos (by omega)]) (by omega), fun z => ?_⟩; have hm : to.length = c.Positions.length := by omega
  have bad2 : badB c to = true → Φ (cap0, cyc0, 2) := fun hb => er 2 (by unfold cloE; rw [if_neg (by omega), if_neg (by omega), if_neg (by omega), if_pos hb]) (by omega); have wc : ∀ i : Nat, i < to.length → dW c to i = dT c to i ∨ (4611686018427387904 ≤ dW c to i ∧ dW c to i ≤ 9223372036854775807 ∧ ix to (i : Int) < ix c.Positions (i : Int)) := fun i hi => q608 (hr i hi) (hk.pos i (by omega))
  have wT : ∀ i : Nat, i < to.length → dT c to i ≤ 9223372036854775807 := fun i hi => by
    have h1 := (hr i hi).2; have h2 := hk.pos i (by omega); unfold dT; omega
  have wU : ∀ i : Nat, i < to.length → dW c to i ≤ 9223372036854775807 := fun i hi => by
    rcases wc i hi with h | h
    · rw [h]; exact wT i hi
    · exact h.2.1
  refine ⟨by omega, iL (by omega) (by omega), ?_⟩; refine LoopW.upI to.length (fun k => ((k : Int), tabL to.length fun i => if i < k then dW c to i else 0)) (fun k => ∀ j, j < k → 0 ≤ dW c to j) (pairE rfl (q675 fun i _ => if_neg (Nat.not_lt_zero i))) (fun j hj => absurd hj (Nat.not_lt_zero j)) (fun k rec hk' hI hrec => ⟨fun _ => ⟨iX (by omega) (by omega), iX (by omega) (by omega), iX (by omega) (by rw [q14]; omega), iX (by omega) (by rw [q118, q14]; omega), ?_⟩, fun q => by omega⟩) fun rec hI => ⟨fun q => by omega, fun _ => ?_⟩
  · rw [q444 _ (iX (by omega) (by rw [q14]; omega))]
    show (¬ (0 ≤ dW c to k) → _) ∧ (¬ ¬ (0 ≤ dW c to k) → _)
    refine ⟨fun q => bad2 (q417 hk' ?_), fun q => ⟨iI (by omega) (by omega), hrec (fun j hj => ?_) _ (pairE rfl ?_)⟩⟩
    · rcases wc k hk' with h | h
      · rw [h] at q; unfold dT at q; exact .inl (by omega)
      · exact .inl h.2.2
    · rcases Nat.lt_or_ge j k with h2 | h2
      · exact hI j h2
      · obtain rfl : j = k := by omega
        exact Classical.not_not.1 q
    · refine q447 hk' ?_ fun i hi hne => ?_
      · rw [if_pos (by omega)]; rfl
      · by_cases h : i < k
        · rw [if_pos h, if_pos (by omega)]
        · rw [if_neg h, if_neg (by omega)]
  have e0 : (tabL to.length fun i => if i < to.length then dW c to i else 0) = leftF (dW c to) c.Nodes to.length 0 := q62 fun i hi => by
    have := hI i hi; rw [if_pos hi]; show _ = pos0 (dW c to i - ((0 : Nat) : Int)); unfold pos0
    split <;> omega
  rw [e0]; refine LoopW.upT c.Nodes.length (fun k => ((k : Int), leftF (dW c to) c.Nodes to.length k, tabL k (partF (dW c to) c.Nodes))) rfl (fun k rec hk' hrec => ⟨fun _ => ?_, fun q => by omega⟩) fun rec => ⟨fun q => by omega, fun _ => ?_⟩
  · have hn := hk.node k (by omega)
    have ll : (leftF (dW c to) c.Nodes to.length k).length = to.length := q14 _ _; have hx := q379 (d := dW c to) (N := c.Nodes) (m := to.length) (k := k) hn.1 (by omega); obtain ⟨a, ha⟩ := Int.eq_ofNat_of_zero_le hn.1; have hu := wU a (by omega)
    have hb : 0 ≤ pos0 (dW c to (ix c.Nodes (k : Int)).toNat - (cnt c.Nodes (ix c.Nodes (k : Int)) k : Int)) ∧ pos0 (dW c to (ix c.Nodes (k : Int)).toNat - (cnt c.Nodes (ix c.Nodes (k : Int)) k : Int)) ≤ 9223372036854775807 := by
      rw [ha, Int.toNat_natCast]; unfold pos0
      split <;> omega
    refine ⟨iX (by omega) (by omega), iX (by omega) (by rw [ll]; omega), iL (by rw [q17, q14]; omega) (by omega), iX (by omega) (by rw [ll]; omega), by rw [hx]; exact iI (by omega) (by omega), iX (by omega) (by rw [ll]; omega), iI (by omega) (by omega), hrec _ (pairE rfl (pairE ?_ ?_))⟩
    · exact q607 hn.1 (by omega) (by rw [hx]; rfl)
    · rw [q61, q677 (m := to.length) _ _ hn.1 (by omega)]
  have ll : (leftF (dW c to) c.Nodes to.length c.Nodes.length).length = to.length := q14 _ _; have ne1 : ¬ ((0 : Int) ≤ -1) := by omega
  refine LoopW.upI to.length (fun k => (k : Int)) (fun k => ∀ j : Nat, j < k → ¬ 0 < ix (leftF (dW c to) c.Nodes to.length c.Nodes.length) (j : Int)) rfl (fun j hj => absurd hj (Nat.not_lt_zero j)) (fun k rec hk' hI2 hrec => ⟨fun _ => ⟨iX (by omega) (by rw [ll]; omega), fun q => ⟨fun _ => ?_, fun q2 => absurd (fun q3 => q3 (show (0 : Int) ≤ (k : Int) by omega)) q2⟩, fun q => ⟨iI (by omega) (by omega), hrec (fun j hj => ?_) _ rfl⟩⟩, fun q => absurd (show (k : Int) < ((leftF (dW c to) c.Nodes to.length c.Nodes.length).length : Int) by rw [ll]; omega) q⟩) fun rec hI2 => ⟨fun q => absurd q (by rw [ll]; omega), fun _ => ⟨fun q => absurd (Classical.not_not.1 q) ne1, fun _ => ?_⟩⟩
  · have q := of_decide_eq_true q
    have q : 0 < ix (leftF (dW c to) c.Nodes to.length c.Nodes.length) (k : Int) := q; rw [q379 (by omega) (by omega), Int.toNat_natCast] at q
    have q : 0 < dW c to k - (cnt c.Nodes (k : Int) c.Nodes.length : Int) := by
      unfold pos0 at q; split at q <;> omega
    refine bad2 (q417 hk' ?_); rcases wc k hk' with h | h
    · rw [h] at q; unfold dT at q; exact .inr (by omega)
    · exact .inl h.2.2
  · rcases Nat.lt_or_ge j k with h2 | h2
    · exact hI2 j h2
    · obtain rfl : j = k := by omega
      exact fun r => q (decide_eq_true r)
  have dd : ∀ i, i < to.length → dW c to i = dT c to i ∧ dW c to i ≤ (cnt c.Nodes (i : Int) c.Nodes.length : Int) := fun i hi => by
    have q := hI2 i hi; rw [q379 (by omega) (by omega), Int.toNat_natCast] at q
    have q : dW c to i - (cnt c.Nodes (i : Int) c.Nodes.length : Int) ≤ 0 := by
      unfold pos0 at q; split at q <;> omega
    have := q715 c.Nodes (i : Int) c.Nodes.length; rcases wc i hi with h | h
    · exact ⟨h, by omega⟩
    · omega
  have nb : badB c to = false := q333 fun i hi hb => by
    obtain ⟨d1, d2⟩ := dd i hi; have d3 := hI i hi; rw [d1] at d2 d3; unfold dT at d2 d3; unfold badI at hb; omega
  have c00 : cloE c t to = 0 := by unfold cloE; rw [if_neg (by omega), if_neg (by omega), if_neg (by omega), if_neg (by rw [nb]; simp)]
  unfold cloR at hΦ; rw [if_neg (fun q => q c00)] at hΦ; have pl : (tabL c.Nodes.length (partF (dW c to) c.Nodes)).length = c.Writes.length := by rw [q14]; omega
  have pq : ∀ j : Nat, j < c.Writes.length → ix (tabL c.Nodes.length (partF (dW c to) c.Nodes)) (j : Int) = inB c to j := fun j hj => by
    rw [q38 (by omega)]; have hn := hk.node j hj; obtain ⟨a, ha⟩ := Int.eq_ofNat_of_zero_le hn.1; unfold inB partF; rw [ha, Int.toNat_natCast, (dd a (by omega)).1]
  generalize tabL c.Nodes.length (partF (dW c to) c.Nodes) = part at pl pq; have q1 : ∀ j : Nat, j < c.Writes.length → (ix part (j : Int) = true ↔ inB c to j = true) := fun j hj => by rw [pq j hj]
  have q2 : ∀ j : Nat, j < c.Writes.length → (ix part (j : Int) = false ↔ (!inB c to j) = true) := fun j hj => by rw [pq j hj]; simp
  generalize inB c to = p at hΦ q1 q2; refine ⟨itL c p, it_ok (c := c) (by omega) pl q1, ?_⟩; refine LoopW.split (itL c p) (fun pre => pre.map fun x => x.2.1) rfl (fun pre x r rec hx hrec => ⟨iL (by have := q717 hx; rw [q17, List.length_map]; omega) (by omega), hrec _ (pairE rfl (by rw [List.map_append]; rfl))⟩) fun rec => ?_; show Z68 ((itL c p).map fun x => x.2.1) _; rw [it_sel]; refine q255 (by have := sel_len (c := c) (q := p) (n := c.Writes.length); omega) (fun w hw => s4 w (q609 (Nat.le_refl _) w hw)) ?_; rw [q676 hk]; refine ⟨fun q => absurd rfl q, fun _ => ⟨iI (by omega) (by omega), (to, ()), q24 (by omega) rfl, iI (by omega) (by omega), (c.Sizes, ()), q24 (by omega) rfl, (to, ()), q24 (by omega) rfl, itL c (fun j => !p j), it_ok (c := c) (by omega) pl q2, ?_⟩⟩; refine LoopW.split (itL c fun j => !p j) (fun pre => (pre.map fun x => ix c.Nodes x.1, pre.map fun x => hidW x.2.1 (latL c p x.1.toNat))) rfl (fun pre x r rec hx hrec => ?_) fun rec => ?_
  · have hlen := q717 hx
    obtain ⟨j, hj, hq, rfl⟩ := q716 hx
    have hq : p j = false := by cases h : p j with
      | false => rfl
      | true => rw [h] at hq; exact Bool.noConfusion hq
    have lt : geL j (itL c p) = latL c p j := ge_lat hq; refine ⟨iX (by show (0 : Int) ≤ (j : Int); omega) (by show (j : Int) < _; omega), iL (by rw [q17, List.length_map]; omega) (by omega), (hidW (ix c.Writes (j : Int)) (latL c p j), ()), q674 (c := c) hk (by omega) pl q1 (hk.pl _ (q92 (iX (by omega) (by omega)))) (by rw [lt]), iL (by rw [q17, List.length_map]; omega) (by omega), hrec _ (pairE rfl (pairE ?_ ?_))⟩
    · rw [List.map_append]; rfl
    · rw [List.map_append]; rfl
  · have e1 : ((itL c fun j => !p j).map fun x => ix c.Nodes x.1) = outN c p c.Writes.length := by unfold itL outN; rw [List.map_map]; rfl
    have e2 : ((itL c fun j => !p j).map fun x => hidW x.2.1 (latL c p x.1.toNat)) = outW c p c.Writes.length := by unfold itL outW; rw [List.map_map]; rfl
    show Φ (⟨c.Number + 1, c.Sizes, to, (itL c fun j => !p j).map fun x => ix c.Nodes x.1, (itL c fun j => !p j).map fun x => hidW x.2.1 (latL c p x.1.toNat)⟩, ⟨c.Number, c.Number + 1, t, to, canL (effM (selW c p c.Writes.length))⟩, 0); rw [e1, e2]; exact hΦ
section
theorem q610 {a b : Nat} (ha : a ≤ 1000000) (hb : b ≤ 1000000) : (((BitVec.ofInt 64 ((a : Int) + (b : Int))) >>> ((1#64).toNat : Int).toNat).toInt) = (((a + b) / 2 : Nat) : Int) := by
  have e : BitVec.ofInt 64 ((a : Int) + (b : Int)) = BitVec.ofNat 64 (a + b) := by
    rw [show (a : Int) + (b : Int) = ((a + b : Nat) : Int) by omega, BitVec.ofInt_natCast]
  rw [e, show ((1#64).toNat : Int).toNat = 1 from rfl, BitVec.toInt_eq_toNat_cond, BitVec.toNat_ushiftRight, BitVec.toNat_ofNat, Nat.mod_eq_of_lt (by omega), Nat.shiftRight_eq_div_pow, if_pos (by omega)]
def capC (C : List Int) (t : Nat) : Int := ix C ((if t < C.length then t else C.length - 1 : Nat) : Int)
def sumC (C : List Int) : Nat → Int
  | 0 => 0
  | t + 1 => sumC C t + capC C t
def lastC (C : List Int) : Int := ix C ((C.length - 1 : Nat) : Int)
structure LnkOk (C : List Int) : Prop where
  one : 1 ≤ C.length
  len : C.length ≤ 30
  rng : ∀ t : Nat, t < C.length → 0 ≤ ix C (t : Int) ∧ ix C (t : Int) ≤ 7
section
variable {C : List Int}
theorem LnkOk.cap (h : LnkOk C) (t : Nat) : 0 ≤ capC C t ∧ capC C t ≤ 7 := by
  have := h.one; unfold capC
  split
  · exact h.rng t ‹_›
  · exact h.rng _ (by omega)
theorem LnkOk.last (h : LnkOk C) : 0 ≤ lastC C ∧ lastC C ≤ 7 := by
  have := h.one; exact h.rng _ (by omega)
theorem LnkOk.mono (h : LnkOk C) {s : Nat} : ∀ d : Nat, sumC C s ≤ sumC C (s + d)
  | 0 => Int.le_refl _
  | d + 1 => by
    have h1 := h.mono (s := s) d; have h2 := (h.cap (s + d)).1; show sumC C s ≤ sumC C (s + d) + capC C (s + d); omega
theorem LnkOk.le (h : LnkOk C) {s t : Nat} (hst : s ≤ t) : sumC C s ≤ sumC C t := by
  have := h.mono (s := s) (t - s); rwa [show s + (t - s) = t by omega] at this
theorem LnkOk.bnd (h : LnkOk C) : ∀ t : Nat, 0 ≤ sumC C t ∧ sumC C t ≤ 7 * (t : Int)
  | 0 => ⟨Int.le_refl _, by show (0 : Int) ≤ 7 * ((0 : Nat) : Int); omega⟩
  | t + 1 => by
    have h1 := h.bnd t; have h2 := h.cap t; show 0 ≤ sumC C t + capC C t ∧ sumC C t + capC C t ≤ 7 * ((t + 1 : Nat) : Int); omega
theorem q418 (C : List Int) : ∀ d : Nat, sumC C (C.length + d) = sumC C C.length + (d : Int) * lastC C
  | 0 => by show sumC C C.length = sumC C C.length + ((0 : Nat) : Int) * lastC C; simp
  | d + 1 => by
    show sumC C (C.length + d) + capC C (C.length + d) = _; rw [q418 C d]
    have e : capC C (C.length + d) = lastC C := by
      unfold capC lastC; rw [if_neg (by omega)]
    rw [e, show ((d + 1 : Nat) : Int) = (d : Int) + 1 by omega, Int.add_mul, Int.one_mul]; omega
theorem sumC_tail' {t : Nat} (ht : C.length ≤ t) : sumC C t = sumC C C.length + ((t : Int) - (C.length : Int)) * lastC C := by
  have := q418 C (t - C.length); rw [show C.length + (t - C.length) = t by omega] at this; rw [this, show ((t - C.length : Nat) : Int) = (t : Int) - (C.length : Int) by omega]
def carC (C : List Int) : Ptr q23 := ⟨⟨tabL (C.length + 1) (sumC C), lastC C⟩⟩
theorem q512 (h : LnkOk C) {t : Nat} (ht : t ≤ 1000000) {Φ : Int → Prop} (hΦ : Φ (sumC C t)) : Z18 (carC C) (t : Int) Φ := by
  have hl := h.len
  have el : ((carC C).val.sums.length : Int) - 1 = (C.length : Int) := by
    show (((tabL (C.length + 1) (sumC C)).length : Int)) - 1 = _; rw [q14]; omega
  have el2 : (carC C).val.sums.length = C.length + 1 := q14 _ _; have hb := h.bnd C.length; have hla := h.last; unfold Z18; rw [el]; refine ⟨iI (by omega) (by omega), fun q => ⟨iX (by omega) (by omega), ?_⟩, fun q => ?_⟩
  · have e : ix (carC C).val.sums (t : Int) = sumC C t := q38 (by omega)
    rw [e]; exact hΦ
  · have e : ix (carC C).val.sums (C.length : Int) = sumC C C.length := q38 (by omega)
    have e2 : (carC C).val.last = lastC C := rfl; have hm : 0 ≤ ((t : Int) - (C.length : Int)) * lastC C ∧ ((t : Int) - (C.length : Int)) * lastC C ≤ ((t : Int) - (C.length : Int)) * 7 := ⟨Int.mul_nonneg (by omega) hla.1, Int.mul_le_mul_of_nonneg_left hla.2 (by omega)⟩
    rw [e, e2]; refine ⟨iX (by omega) (by omega), iI (by omega) (by omega), iI (by omega) (by omega), iI (by omega) (by omega), ?_⟩; rw [← sumC_tail' (by omega)]; exact hΦ
structure EndC (C : List Int) (s : Nat) (z : Nat) (e : Nat) : Prop where
  le : s ≤ e
  done : sumC C s + (z : Int) ≤ sumC C e
  least : ∀ t, s ≤ t → t < e → sumC C t < sumC C s + (z : Int)
theorem EndC.zero (s : Nat) : EndC C s 0 s := ⟨Nat.le_refl _, by simp, fun t h1 h2 => by omega⟩
theorem EndC.uniq {s z e e' : Nat} (h : EndC C s z e) (h' : EndC C s z e') : e = e' := by
  rcases Nat.lt_trichotomy e e' with q | q | q
  · have := h'.least e h.le q; have := h.done; omega
  · exact q
  · have := h.least e' h'.le q; have := h'.done; omega
end
end
section
def sumN (w : Nat → Nat) (a : Nat) : Nat → Nat
  | 0 => 0
  | j + 1 => sumN w a j + w (a + j)
theorem q226 (w : Nat → Nat) (a i : Nat) : ∀ j, sumN w a (i + j) = sumN w a i + sumN w (a + i) j
  | 0 => rfl
  | j + 1 => by
    show sumN w a (i + j) + w (a + (i + j)) = sumN w a i + (sumN w (a + i) j + w (a + i + j))
    rw [q226 w a i j, Nat.add_assoc a i j]; omega
theorem q380 (w : Nat → Nat) (a : Nat) {i j : Nat} (h : i ≤ j) : sumN w a i ≤ sumN w a j := by
  have := q226 w a i (j - i); rw [show i + (j - i) = j by omega] at this; omega
def cycN (n P : Nat) : Nat := (n + P - 1) / P
theorem q121 {n P k : Nat} (hP : 0 < P) : k < cycN n P ↔ k * P < n := by
  unfold cycN; have h := Nat.le_div_iff_mul_le (x := k + 1) (y := n + P - 1) hP; have e := Nat.succ_mul k P; have e : (k + 1) * P = k * P + P := e; omega
def lenK (n P k : Nat) : Nat := if n - k * P < P then n - k * P else P
def sizK (w : Nat → Nat) (n P k : Nat) : Nat := sumN w (k * P) (lenK n P k)
def chkW (w : Nat → Nat) (n P k : Nat) : List Int := tabL (lenK n P k) fun j => (w (k * P + j) : Int)
theorem q381 (w : Nat → Nat) {n P : Nat} (hP : 0 < P) : ∀ k, k ≤ cycN n P → sumN (sizK w n P) 0 k = sumN w 0 (if k * P < n then k * P else n)
  | 0, _ => by
    rw [Nat.zero_mul]
    split
    · rfl
    · rw [show n = 0 by omega]; rfl
  | k + 1, hk => by
    have h1 := (q121 hP).1 (show k < cycN n P by omega); show sumN (sizK w n P) 0 k + sizK w n P (0 + k) = _; rw [q381 w hP k (by omega), if_pos h1, Nat.zero_add]; have e : (k + 1) * P = k * P + P := Nat.succ_mul k P; unfold sizK lenK; have h2 := q226 w 0 (k * P); simp only [Nat.zero_add] at h2; rw [e]
    split
    · rw [if_neg (by omega), ← h2, show k * P + (n - k * P) = n by omega]
    · split
      · rw [← h2]
      · rw [← h2, show k * P + P = n by omega]
theorem q611 {α : Type} {d : Nat} {f : Nat → α} : tabL (d + 1) f = f 0 :: tabL d fun i => f (i + 1) := by
  unfold tabL; rw [List.range_succ_eq_map, List.map_cons, List.map_map]; rfl
theorem q513 {α : Type} [Dt α] {f : Nat → α} {n a b : Nat} (h1 : a ≤ b) (h2 : b ≤ n) : sub (tabL n f) (a : Int) (b : Int) = tabL (b - a) fun j => f (a + j) := by
  have hl : (sub (tabL n f) (a : Int) (b : Int)).length = b - a := by
    unfold sub; rw [List.length_take, List.length_drop, q14]; omega
  refine q220 (by rw [hl, q14]) fun i hi => ?_; rw [hl] at hi; rw [q38 hi, q500]; unfold sub; have e1 : ((a : Int)).toNat = a := by omega
  have e2 : ((b : Int) - (a : Int)).toNat = b - a := by omega
  rw [e1, e2, List.getD_eq_getElem?_getD, List.getElem?_take_of_lt hi, List.getElem?_drop, ← List.getD_eq_getElem?_getD, ← q500, q38 (by omega)]
def chs (w : Nat → Nat) (n P k : Nat) : List (List Int × Unit) := tabL (cycN n P - k) fun i => (chkW w n P (k + i), ())
theorem q514 {w : Nat → Nat} {n P k : Nat} (h : k < cycN n P) : chs w n P k = (chkW w n P k, ()) :: chs w n P (k + 1) := by
  unfold chs; rw [show cycN n P - k = (cycN n P - (k + 1)) + 1 by omega, q611]; rw [Nat.add_zero]; exact congrArg _ (q62 fun i _ => by rw [show k + (i + 1) = k + 1 + i by omega])
theorem q612 {w : Nat → Nat} {n P : Nat} : chs w n P (cycN n P) = [] := by
  unfold chs; rw [Nat.sub_self]; rfl
section
variable {w : Nat → Nat} {n P : Nat}
theorem q678 (hP : 0 < P) (hP2 : P ≤ 100) (hn : n ≤ 1000) : q39 (tabL n fun i => (w i : Int)) (P : Int) (chs w n P 0) := by
  have el : (tabL n fun i => (w i : Int)).length = n := q14 _ _; refine LoopW.upT (cycN n P) (fun k => (chs w n P k, ((k * P : Nat) : Int))) (pairE rfl (by rw [Nat.zero_mul]; rfl)) (fun k rec hk hr => ?_) fun rec => ?_
  · have h1 := (q121 hP).1 hk
    have e : (k + 1) * P = k * P + P := Nat.succ_mul k P; refine ⟨fun _ => ?_, fun q => absurd (show ((k * P : Nat) : Int) < ((tabL n fun i => (w i : Int)).length : Int) by omega) q⟩
    have e1 : (sub (tabL n fun i => (w i : Int)) ((k * P : Nat) : Int) ((tabL n fun i => (w i : Int)).length : Int)).length = n - k * P := by
      rw [el, q513 (by omega) (Nat.le_refl _), q14]
    have e2 : (if ((sub (tabL n fun i => (w i : Int)) ((k * P : Nat) : Int) ((tabL n fun i => (w i : Int)).length : Int)).length : Int) < (P : Int) then ((sub (tabL n fun i => (w i : Int)) ((k * P : Nat) : Int) ((tabL n fun i => (w i : Int)).length : Int)).length : Int) else (P : Int)) = (lenK n P k : Int) := by
      rw [e1]; unfold lenK
      split <;> split <;> omega
    have e3 : lenK n P k ≤ n - k * P ∧ lenK n P k ≤ P := by unfold lenK; split <;> omega
    rw [e2, q514 hk]; have e4 : ((k * P : Nat) : Int) + (lenK n P k : Int) = ((k * P + lenK n P k : Nat) : Int) := by omega
    rw [e4]; refine ⟨iS (by omega) (by omega) (by omega), iI (by omega) (by omega), iI (by omega) (by omega), iS (by omega) (by omega) (by omega), iS (by omega) (by omega) (by omega), ?_⟩; rw [q513 (by omega) (by omega)]; refine ⟨?_, ⟨iI (by omega) (by omega), hr _ (pairE rfl (by omega))⟩, trivial⟩; unfold chkW; rw [show k * P + lenK n P k - k * P = lenK n P k by omega]
  · have h1 : ¬ cycN n P * P < n := fun q => by
      have := (q121 hP).2 q; omega
    exact ⟨fun q => absurd (show ((cycN n P * P : Nat) : Int) < ((tabL n fun i => (w i : Int)).length : Int) from q) (by omega), fun _ => q612⟩
theorem q613 {t : q15} (hW : t.Writes = tabL n fun i => (w i : Int)) (hPe : t.Period = (P : Int)) (hP : 0 < P) (hP2 : P ≤ 100) (hn : n ≤ 1000) (hw : ∀ i, i < n → w i ≤ 100000) {Φ : List Int → Prop} (hΦ : Φ (tabL (cycN n P) fun k => (sizK w n P k : Int))) : Z17 t Φ := by
  refine ⟨fun q => absurd q (by rw [hPe]; omega), fun _ => ⟨chs w n P 0, by rw [hW, hPe]; exact q678 hP hP2 hn, ?_⟩⟩; refine LoopW.upT (cycN n P) (fun k => (chs w n P k, tabL k fun k => (sizK w n P k : Int))) rfl (fun k rec hk hr => ?_) fun rec => ?_
  · have h1 := (q121 hP).1 hk
    have e3 : lenK n P k ≤ n - k * P ∧ lenK n P k ≤ P := by unfold lenK; split <;> omega
    have hb : ∀ j, j ≤ lenK n P k → sumN w (k * P) j ≤ 100000 * j := fun j => by
      induction j with
      | zero => intro _; exact Nat.le_refl _
      | succ j ih =>
        intro hj; have := ih (by omega); have := hw (k * P + j) (by omega); show sumN w (k * P) j + w (k * P + j) ≤ _; omega
    have hkn : k < n := by
      have : k * 1 ≤ k * P := Nat.mul_le_mul_left k hP; omega
    show Z16 Φ (chs w n P k, tabL k fun k => (sizK w n P k : Int)) rec; rw [q514 hk]; refine LoopW.upT (lenK n P k) (fun j => ((sumN w (k * P) j : Int), (j : Int))) rfl (fun j rec2 hj hr2 => ?_) fun rec2 => ?_
    · have el : (chkW w n P k).length = lenK n P k := q14 _ _
      have ei : ix (chkW w n P k) (j : Int) = (w (k * P + j) : Int) := q38 hj; have h2 := hb (j + 1) (by omega); have h2 : sumN w (k * P) j + w (k * P + j) ≤ 100000 * (j + 1) := h2; refine ⟨fun q => ⟨iX (by omega) q, ?_⟩, fun q => absurd (show (j : Int) < ((chkW w n P k).length : Int) by omega) q⟩; show inI ((sumN w (k * P) j : Int) + ix (chkW w n P k) (j : Int)) ∧ _ ∧ rec2 ((sumN w (k * P) j : Int) + ix (chkW w n P k) (j : Int), _); rw [ei]; exact ⟨iI (by omega) (by omega), iI (by omega) (by omega), hr2 _ (pairE (by show (sumN w (k * P) j : Int) + (w (k * P + j) : Int) = ((sumN w (k * P) j + w (k * P + j) : Nat) : Int); omega) rfl)⟩
    · have el : (chkW w n P k).length = lenK n P k := q14 _ _
      refine ⟨fun q => absurd (show (lenK n P k : Int) < ((chkW w n P k).length : Int) from q) (by omega), fun _ => ⟨iL (by rw [q17, q14]; omega) (by omega), hr _ (pairE rfl ?_)⟩⟩; exact (q61 k fun k => (sizK w n P k : Int)).symm
  · show Z16 Φ (chs w n P (cycN n P), tabL (cycN n P) fun k => (sizK w n P k : Int)) rec
    rw [q612]; exact hΦ
end
end
section
theorem q718 {x lo hi : Int} {Φ : Bool → Prop} (hΦ : Φ (decide (lo ≤ x ∧ x ≤ hi))) : Z8 x lo hi Φ := by
  refine ⟨fun q => ?_, fun q => ?_⟩
  · by_cases c : x ≤ hi
    · rw [decide_eq_true c]; rwa [decide_eq_true ⟨q, c⟩] at hΦ
    · rw [decide_eq_false c]; rwa [decide_eq_false fun t => c t.2] at hΦ
  · rwa [decide_eq_false fun t => q t.1] at hΦ
theorem q334 {x lo hi : Int} {Φ : Bool → Prop} (h : lo ≤ x ∧ x ≤ hi) (hΦ : Φ true) : Z8 x lo hi Φ := q718 (by rw [decide_eq_true h]; exact hΦ)
theorem q614 {l : List Int} (hl : l.length ≤ 100000) (h : ∀ i : Nat, i < l.length → 0 ≤ ix l (i : Int) ∧ ix l (i : Int) ≤ 4096) {Φ : Bool → Prop} (hΦ : Φ true) : Z11 l Φ := by
  refine LoopW.upT l.length (fun k => (k : Int)) rfl (fun k rec hk hr => ⟨fun q => ⟨iX (by omega) q, q334 (h k hk) ⟨fun t => absurd t (by simp), fun _ => ⟨iI (by omega) (by omega), hr _ rfl⟩⟩⟩, fun q => absurd (show (k : Int) < (l.length : Int) by omega) q⟩) fun rec => ⟨fun q => absurd (show (l.length : Int) < (l.length : Int) from q) (by omega), fun _ => hΦ⟩
structure TrOk (t : q15) (C : List Int) (w : Nat → Nat) (n P la ap : Nat) : Prop where
  wri : t.Writes = tabL n fun i => (w i : Int)
  cpt : t.Capacity = C
  per : t.Period = (P : Int)
  lat : t.Latency = (la : Int)
  app : t.Apply = (ap : Int)
  lnk : LnkOk C
  n24 : n ≤ 24
  w4 : ∀ i, i < n → w i ≤ 4096
  P0 : 0 < P
  P6 : P ≤ 6
  l4 : la ≤ 4
  a3 : ap ≤ 3
section
variable {t : q15} {C : List Int} {w : Nat → Nat} {n P la ap : Nat}
theorem TrOk.check (h : TrOk t C w n P la ap) {Φ : Int → Prop} (hΦ : Φ 0) : Z13 t Φ := by
  have hn := h.n24; have h1 := h.lnk.one; have h2 := h.lnk.len; have eW : t.Writes.length = n := by rw [h.wri, q14]
  have eC : t.Capacity.length = C.length := by rw [h.cpt]
  have hP := h.P0; have hP6 := h.P6; have hl := h.l4; have ha := h.a3; unfold Z13 Join; refine ⟨fun q => absurd q (by omega), fun _ => q334 (by omega) ⟨fun q => absurd q (by simp), fun _ => q614 (by omega) (fun i hi => ?_) ⟨fun q => absurd rfl q, fun _ => q614 (by omega) (fun i hi => ?_) ⟨fun q => absurd rfl q, fun _ => ?_⟩⟩⟩⟩
  · rw [h.wri, q38 (by omega)]
    have := h.w4 i (by omega); omega
  · rw [h.cpt]
    have := h.lnk.rng i (by omega); omega
  · rw [h.per, h.lat, h.app]
    exact q334 (by omega) ⟨fun q => absurd rfl q, fun _ => q334 (by omega) ⟨fun q => absurd rfl q, fun _ => q334 (by omega) ⟨fun q => absurd rfl q, fun _ => hΦ⟩⟩⟩
end
def mxI (a b : Int) : Int := if a < b then b else a
def bndE (P : Nat) (A : Nat → Nat) : Nat → Int
  | 0 => 0
  | k + 1 => mxI (if k = 0 ∨ A (k - 1) < A k then mxI (bndE P A k) ((A k : Int) - 1 - ((k * P : Nat) : Int)) else bndE P A k) ((A k : Int) - (((k + 1) * P : Nat) : Int))
theorem q515 {a b c : Int} (h1 : a ≤ c) (h2 : b ≤ c) : mxI a b ≤ c := by unfold mxI; split <;> omega
theorem q240 {a b : Int} : a ≤ mxI a b := by unfold mxI; split <;> omega
theorem q448 {a b : Int} : b ≤ mxI a b := by unfold mxI; split <;> omega
theorem q449 {P : Nat} {A : Nat → Nat} {M : Int} (hM : 0 ≤ M) : ∀ k, (∀ i, i < k → (A i : Int) ≤ M) → 0 ≤ bndE P A k ∧ bndE P A k ≤ M
  | 0, _ => ⟨Int.le_refl _, hM⟩
  | k + 1, h => by
    have ih := q449 (P := P) hM k fun i hi => h i (by omega); have hk := h k (by omega); show 0 ≤ mxI _ _ ∧ mxI _ _ ≤ M; refine ⟨Int.le_trans ?_ q240, q515 ?_ (by omega)⟩
    · split
      · exact Int.le_trans ih.1 q240
      · exact ih.1
    · split
      · exact q515 ih.2 (by omega)
      · exact ih.2
theorem q679 {p : q18} {m P : Nat} {A : Nat → Nat} (hA : p.Applied = tabL m fun k => (A k : Int)) (hCl : p.Close = tabL m fun k => (((k + 1) * P : Nat) : Int)) (hm : m ≤ 1000) (hb : ∀ k, k < m → A k ≤ 1000000 ∧ (k + 1) * P ≤ 1000000) {Φ : Int → Prop} (hΦ : Φ (bndE P A m)) : Z22 p Φ := by
  have el : p.Applied.length = m := by rw [hA, q14]
  have el2 : p.Close.length = m := by rw [hCl, q14]
  refine LoopW.upT m (fun k => (bndE P A k, ((k * P : Nat) : Int), (k : Int))) (pairE rfl (pairE (by rw [Nat.zero_mul]; rfl) rfl)) (fun k rec hk hr => ?_) fun rec => ⟨fun q => absurd (show (m : Int) < (p.Applied.length : Int) from q) (by omega), fun _ => hΦ⟩
  have iA : ∀ i : Nat, i < m → ix p.Applied (i : Int) = (A i : Int) := fun i hi => by rw [hA, q38 hi]
  have iC : ix p.Close (k : Int) = (((k + 1) * P : Nat) : Int) := by rw [hCl, q38 hk]
  have hbk := hb k hk; have hlow : k * P ≤ (k + 1) * P := Nat.mul_le_mul_right P (by omega); have hbd := q449 (P := P) (A := A) (M := 1000000) (by omega) k fun i hi => by have := (hb i (by omega)).1; omega
  have J2 : ∀ x : Int, rec (mxI x ((A k : Int) - (((k + 1) * P : Nat) : Int)), (((k + 1) * P : Nat) : Int), (k : Int) + 1) → Z19 p (k : Int) rec Φ x := fun x hx => by
    show inX (k : Int) p.Close.length ∧ inI ((ix p.Applied (k : Int)) - (ix p.Close (k : Int))) ∧ inI ((k : Int) + 1) ∧ rec ((if x < ((ix p.Applied (k : Int)) - (ix p.Close (k : Int))) then ((ix p.Applied (k : Int)) - (ix p.Close (k : Int))) else x), (ix p.Close (k : Int)), ((k : Int) + 1)); rw [iA k hk, iC]; exact ⟨iX (by omega) (by omega), iI (by omega) (by omega), iI (by omega) (by omega), hx⟩
  have J3 : ∀ c : Bool, (c = true ↔ k = 0 ∨ A (k - 1) < A k) → Z20 p (bndE P A k) ((k * P : Nat) : Int) (k : Int) rec Φ c := fun c hc => by
    refine ⟨fun q => ?_, fun q => J2 _ (hr _ (pairE ?_ (pairE rfl rfl)))⟩
    · show inI ((ix p.Applied (k : Int)) - 1) ∧ inI (((ix p.Applied (k : Int)) - 1) - ((k * P : Nat) : Int)) ∧ Z19 p (k : Int) rec Φ (if bndE P A k < (((ix p.Applied (k : Int)) - 1) - ((k * P : Nat) : Int)) then (((ix p.Applied (k : Int)) - 1) - ((k * P : Nat) : Int)) else bndE P A k)
      rw [iA k hk]; refine ⟨iI (by omega) (by omega), iI (by omega) (by omega), J2 _ (hr _ (pairE ?_ (pairE rfl rfl)))⟩; show _ = mxI (if k = 0 ∨ A (k - 1) < A k then _ else _) _; rw [if_pos (hc.1 q)]; rfl
    · show _ = mxI (if k = 0 ∨ A (k - 1) < A k then _ else _) _
      rw [if_neg fun t => q (hc.2 t)]
  refine ⟨fun q => ⟨iX (by omega) q, fun t => J3 _ ⟨fun _ => .inl (by omega), fun _ => rfl⟩, fun t => ⟨iI (by omega) (by omega), iX (by omega) (by omega), ?_⟩⟩, fun q => absurd (show (k : Int) < (p.Applied.length : Int) by omega) q⟩; have e : (k : Int) - 1 = ((k - 1 : Nat) : Int) := by omega
  rw [e, iA _ (by omega), iA k hk]; refine J3 _ ⟨fun q => .inr (by have := of_decide_eq_true q; omega), fun q => decide_eq_true ?_⟩; rcases q with q | q <;> omega
end
theorem q301 {C : List Int} {a : Nat} (h : C.length ≤ a) : ∀ r : Nat, sumC C (a + r) = sumC C a + (r : Int) * lastC C
  | 0 => by show sumC C a = sumC C a + ((0 : Nat) : Int) * lastC C; simp
  | r + 1 => by
    show sumC C (a + r) + capC C (a + r) = _; rw [q301 h r]
    have e : capC C (a + r) = lastC C := by
      unfold capC lastC; rw [if_neg (by omega)]
    rw [e, show ((r + 1 : Nat) : Int) = (r : Int) + 1 by omega, Int.add_mul, Int.one_mul]; omega
theorem ceil_q {D L : Int} (hD : 1 ≤ D) (hL : 1 ≤ L ∧ L ≤ 7) : ∃ q : Nat, (D + L - 1) / L = (q : Int) ∧ D ≤ (q : Int) * L ∧ (∀ r : Nat, r < q → (r : Int) * L < D) ∧ (q : Int) ≤ D := by
  have h7 : L = 1 ∨ L = 2 ∨ L = 3 ∨ L = 4 ∨ L = 5 ∨ L = 6 ∨ L = 7 := by omega
  refine ⟨((D + L - 1) / L).toNat, ?_⟩; rcases h7 with rfl | rfl | rfl | rfl | rfl | rfl | rfl <;> exact ⟨by omega, by omega, fun r hr => by omega, by omega⟩
theorem fin_ok {C : List Int} (hC : LnkOk C) {s z : Nat} (hs : s ≤ 200000) (hz : z ≤ 200000) {x0 : q15} {v5 : List Int} {v6 v7 : Int} {J3 : Int × Bool → Prop} {Φ : q18 × Int → Prop} (hS : (if ((v7 + 1) * x0.Period) < v6 then v6 else ((v7 + 1) * x0.Period)) = (s : Int)) (hZ : ix v5 v7 = (z : Int))
    (h1 : ∀ e, EndC C s z e → e ≤ (if s < 30 then 30 else s) + z → J3 ((e : Int), true)) (h2 : (∀ e, ¬ EndC C s z e) → J3 (0, false)) :
    Z18 (carC C) (s : Int) fun v14 => inI (v14 + (z : Int)) ∧ inI (((tabL (C.length + 1) (sumC C)).length : Int) - 1) ∧ ((z : Int) = 0 → J3 ((s : Int), true)) ∧
      (¬ ((z : Int) = 0) → Z18 (carC C) (if (s : Int) < (((tabL (C.length + 1) (sumC C)).length : Int) - 1) then (((tabL (C.length + 1) (sumC C)).length : Int) - 1) else (s : Int)) fun v15 =>
        ((v14 + (z : Int)) ≤ v15 → inI ((((tabL (C.length + 1) (sumC C)).length : Int) - 1) - (s : Int)) ∧ LoopW (Z24 x0 (lastC C) (tabL (C.length + 1) (sumC C)) v5 v6 v7 J3 v14 Φ) (0, ((((tabL (C.length + 1) (sumC C)).length : Int) - 1) - (s : Int)))) ∧
        (¬ ((v14 + (z : Int)) ≤ v15) → (lastC C = 0 → J3 (0, false)) ∧ (¬ (lastC C = 0) → Z18 (carC C) (if (s : Int) < (((tabL (C.length + 1) (sumC C)).length : Int) - 1) then (((tabL (C.length + 1) (sumC C)).length : Int) - 1) else (s : Int)) fun v19 =>
          inI ((v14 + (z : Int)) - v19) ∧ inI (((v14 + (z : Int)) - v19) + lastC C) ∧ inI ((((v14 + (z : Int)) - v19) + lastC C) - 1) ∧ (0 ≤ ((((v14 + (z : Int)) - v19) + lastC C) - 1) ∧ inI ((((v14 + (z : Int)) - v19) + lastC C) - 1) ∧ (0 : Int) < lastC C) ∧
          inI ((if (s : Int) < (((tabL (C.length + 1) (sumC C)).length : Int) - 1) then (((tabL (C.length + 1) (sumC C)).length : Int) - 1) else (s : Int)) + (((((v14 + (z : Int)) - v19) + lastC C) - 1) / lastC C)) ∧
          J3 (((if (s : Int) < (((tabL (C.length + 1) (sumC C)).length : Int) - 1) then (((tabL (C.length + 1) (sumC C)).length : Int) - 1) else (s : Int)) + (((((v14 + (z : Int)) - v19) + lastC C) - 1) / lastC C)), true)))) := by
  have hl := hC.len; have el : ((tabL (C.length + 1) (sumC C)).length : Int) - 1 = (C.length : Int) := by rw [q14]; omega
  rw [el]
  obtain ⟨at_, hat, hat1, hat2, hat3⟩ : ∃ a : Nat, (if (s : Int) < (C.length : Int) then (C.length : Int) else (s : Int)) = (a : Int) ∧ C.length ≤ a ∧ s ≤ a ∧ a ≤ (if s < 30 then 30 else s) := by
    by_cases c : s < C.length
    · exact ⟨C.length, by rw [if_pos (by omega)], Nat.le_refl _, by omega, by split <;> omega⟩
    · exact ⟨s, by rw [if_neg (by omega)], by omega, Nat.le_refl _, by split <;> omega⟩
  have hatb : at_ ≤ 200000 := by revert hat3; split <;> omega
  rw [hat]; have b1 := hC.bnd s; have b2 := hC.bnd at_
  refine q512 hC (by omega) ⟨iI (by omega) (by omega), iI (by omega) (by omega), fun q => ?_, fun q => q512 hC (by omega) ⟨fun r => ⟨iI (by omega) (by omega), ?_⟩, fun r => ⟨fun g => h2 fun e he => ?_, fun g => q512 hC (by omega) ?_⟩⟩⟩
  · obtain rfl : z = 0 := by omega
    exact h1 s (EndC.zero s) (by split <;> omega)
  · -- the search
    have hsl : s ≤ C.length := by
      rcases Nat.lt_or_ge C.length s with c | c
      · rw [if_neg (by omega)] at hat
        obtain rfl : s = at_ := by omega
        omega
      · exact c
    have hat' : at_ = C.length := by
      by_cases c : (s : Int) < (C.length : Int)
      · rw [if_pos c] at hat; omega
      · rw [if_neg c] at hat; omega
    rw [hat'] at r; have e0 : (C.length : Int) - (s : Int) = ((C.length - s : Nat) : Int) := by omega
    rw [e0]; refine LoopW.of_inv (fun x => ∃ a b : Nat, x = ((a : Int), (b : Int)) ∧ a ≤ b ∧ b ≤ C.length - s ∧ (∀ m : Nat, m < a → sumC C (s + m) < sumC C s + (z : Int)) ∧ sumC C s + (z : Int) ≤ sumC C (s + b)) (fun x => (x.2 - x.1).toNat) ?_ ⟨0, C.length - s, rfl, Nat.zero_le _, Nat.le_refl _, fun m hm => absurd hm (Nat.not_lt_zero m), by rw [show s + (C.length - s) = C.length by omega]; exact r⟩
    rintro _ rec ⟨a, b, rfl, hab, hb, g1, g2⟩ hrec
    refine ⟨fun t => ?_, fun t => ?_⟩
    · rw [q610 (by omega) (by omega), hS, hZ]
      have e1 : (s : Int) + (((a + b) / 2 : Nat) : Int) = ((s + (a + b) / 2 : Nat) : Int) := by omega
      rw [e1]; refine ⟨iI (by omega) (by omega), iI (by omega) (by omega), q512 hC (by omega) ⟨fun u => ⟨iI (by omega) (by omega), hrec _ ⟨(a + b) / 2 + 1, b, rfl, by omega, hb, fun m hm => ?_, g2⟩ (by show ((b : Int) - ((((a + b) / 2 : Nat) : Int) + 1)).toNat < ((b : Int) - (a : Int)).toNat; omega)⟩, fun u => hrec _ ⟨a, (a + b) / 2, rfl, by omega, by omega, g1, by omega⟩ (by show ((((a + b) / 2 : Nat) : Int) - (a : Int)).toNat < ((b : Int) - (a : Int)).toNat; omega)⟩⟩; have := hC.le (s := s + m) (t := s + (a + b) / 2) (by omega); omega
    · obtain rfl : a = b := by omega
      rw [hS]; have e1 : (s : Int) + (a : Int) = ((s + a : Nat) : Int) := by omega
      rw [e1]; refine ⟨iI (by omega) (by omega), h1 (s + a) ⟨by omega, g2, fun t h3 h4 => ?_⟩ (by split <;> omega)⟩; have := g1 (t - s) (by omega); rwa [show s + (t - s) = t by omega] at this
  · have h3 := he.done
    rcases Nat.lt_or_ge at_ e with c | c
    · have h4 := q301 hat1 (e - at_)
      rw [show at_ + (e - at_) = e by omega, g, Int.mul_zero] at h4; omega
    · have := hC.le c; omega
  · -- behind what is told of the link
    have hla := hC.last; have hf := q301 hat1; have hm : sumC C s ≤ sumC C at_ := hC.le hat2
    have hz0 : 1 ≤ sumC C s + (z : Int) - sumC C at_ := by omega
    have hD : sumC C s + (z : Int) - sumC C at_ ≤ (z : Int) := by omega
    generalize hDe : sumC C s + (z : Int) - sumC C at_ = Dd at *
    obtain ⟨q, hq, hq1, hq2, hq3⟩ := ceil_q hz0 (L := lastC C) ⟨by omega, hla.2⟩; rw [hq]; have e1 : (at_ : Int) + (q : Int) = ((at_ + q : Nat) : Int) := by omega
    rw [e1]; refine ⟨iI (by omega) (by omega), iI (by omega) (by omega), iI (by omega) (by omega), ⟨by omega, iI (by omega) (by omega), by omega⟩, iI (by omega) (by omega), h1 (at_ + q) ⟨by omega, ?_, fun t h3 h4 => ?_⟩ (by omega)⟩
    · have := hf q; omega
    · rcases Nat.lt_or_ge t at_ with c | c
      · have := hC.le (s := t) (t := at_) (by omega); omega
      · have h5 := hf (t - at_)
        have h6 := hq2 (t - at_) (by omega); rw [show at_ + (t - at_) = t by omega] at h5; omega
section
def fr0 (e : Nat → Nat) : Nat → Nat
  | 0 => 0
  | k + 1 => e k
def stK (P : Nat) (e : Nat → Nat) (k : Nat) : Nat := if (k + 1) * P < fr0 e k then fr0 e k else (k + 1) * P
structure PlanE (C : List Int) (Z : Nat → Nat) (P m : Nat) (e : Nat → Nat) : Prop where
  fin : ∀ k, k < m → EndC C (stK P e k) (Z k) (e k)
  bnd : ∀ k, k < m → e k ≤ 30 + (k + 1) * P + sumN Z 0 (k + 1)
def planV (P la ap m : Nat) (e : Nat → Nat) : q18 := ⟨tabL m fun k => (((k + 1) * P : Nat) : Int), tabL m fun k => (stK P e k : Int), tabL m fun k => (e k : Int), tabL m fun k => ((e k + la + ap : Nat) : Int), bndE P (fun k => e k + la + ap) m⟩
def plan0 : q18 := ⟨[], [], [], [], 0⟩
def setK (e : Nat → Nat) (k x : Nat) : Nat → Nat := fun i => if i = k then x else e i
theorem q302 {e : Nat → Nat} {k x i : Nat} (h : i < k) : setK e k x i = e i := if_neg (by omega)
theorem q303 {e : Nat → Nat} {k x : Nat} : setK e k x k = x := if_pos rfl
theorem fr0_set {e : Nat → Nat} {k x i : Nat} (h : i ≤ k) : fr0 (setK e k x) i = fr0 e i := by
  cases i with
  | zero => rfl
  | succ i => exact q302 (by omega)
theorem q450 {P : Nat} {e : Nat → Nat} {k x i : Nat} (h : i ≤ k) : stK P (setK e k x) i = stK P e i := by unfold stK; rw [fr0_set h]
theorem PlanE.uniq {C : List Int} {Z : Nat → Nat} {P m m' : Nat} {e e' : Nat → Nat} (h : PlanE C Z P m e) (h' : PlanE C Z P m' e') (hm : m ≤ m') : ∀ i, i < m → e i = e' i := fun i => by
  induction i with
  | zero => intro hi; exact (h.fin 0 hi).uniq (by have := h'.fin 0 (by omega); exact this)
  | succ i ih =>
    intro hi; have h1 := ih (by omega); have h2 := h'.fin (i + 1) (by omega)
    have e1 : stK P e' (i + 1) = stK P e (i + 1) := by
      unfold stK; show (if _ < e' i then e' i else _) = (if _ < e i then e i else _)
      rw [h1]
    rw [e1] at h2; exact (h.fin (i + 1) hi).uniq h2
theorem q335 {P : Nat} {A B : Nat → Nat} : ∀ m, (∀ i, i < m → A i = B i) → bndE P A m = bndE P B m
  | 0, _ => rfl
  | m + 1, h => by
    have h1 := q335 (P := P) m fun i hi => h i (by omega); have h2 := h m (by omega); have h3 : A (m - 1) = B (m - 1) := h (m - 1) (by omega); unfold bndE; rw [h1, h2, h3]
theorem q451 {P la ap m : Nat} {e e' : Nat → Nat} (h : ∀ i, i < m → e i = e' i) : planV P la ap m e = planV P la ap m e' := by
  have hs : ∀ i, i < m → stK P e i = stK P e' i := fun i hi => by
    cases i with
    | zero => rfl
    | succ i =>
      unfold stK; show (if _ < e i then e i else _) = (if _ < e' i then e' i else _)
      rw [h i (by omega)]
  unfold planV; rw [q62 (f := fun k => (stK P e k : Int)) (g := fun k => (stK P e' k : Int)) fun i hi => by rw [hs i hi], q62 (f := fun k => (e k : Int)) (g := fun k => (e' k : Int)) fun i hi => by rw [h i hi], q62 (f := fun k => ((e k + la + ap : Nat) : Int)) (g := fun k => ((e' k + la + ap : Nat) : Int)) fun i hi => by rw [h i hi], q335 (A := fun k => e k + la + ap) (B := fun k => e' k + la + ap) m fun i hi => by show e i + la + ap = e' i + la + ap; rw [h i hi]]
section
variable {t : q15} {C : List Int} {w : Nat → Nat} {n P la ap : Nat}
theorem TrOk.sum (h : TrOk t C w n P la ap) (k : Nat) (hk : k ≤ cycN n P) : sumN (sizK w n P) 0 k ≤ 100000 := by
  rw [q381 w h.P0 k hk]
  have hb : ∀ j, j ≤ n → sumN w 0 j ≤ 4096 * j := fun j => by
    induction j with
    | zero => intro _; exact Nat.le_refl _
    | succ j ih =>
      intro hj; have := ih (by omega); have := h.w4 j (by omega); show sumN w 0 j + w (0 + j) ≤ _; rw [Nat.zero_add]; omega
  have hn := h.n24
  split
  · have := hb (k * P) (by omega); omega
  · have := hb n (Nat.le_refl _); omega
theorem TrOk.kP (h : TrOk t C w n P la ap) {k : Nat} (hk : k < cycN n P) : k * P < n ∧ (k + 1) * P ≤ 29 ∧ (k + 1) * P = k * P + P := by
  have h1 := (q121 h.P0).1 hk; have e : (k + 1) * P = k * P + P := Nat.succ_mul k P; have := h.n24; have := h.P6; exact ⟨h1, by omega, e⟩
theorem TrOk.fr (h : TrOk t C w n P la ap) {e : Nat → Nat} {k : Nat} (hk : k < cycN n P) (he : PlanE C (sizK w n P) P k e) : fr0 e k ≤ 30 + (k + 1) * P + sumN (sizK w n P) 0 k := by
  cases k with
  | zero => exact Nat.zero_le _
  | succ k =>
    have h1 := he.bnd k (by omega); have h2 := (h.kP (k := k) (by omega)).2.2; have h3 := (h.kP hk).2.2; show e k ≤ _; omega
theorem q452 (h : TrOk t C w n P la ap) {Φ : q18 × Int → Prop} (h1 : ∀ e, PlanE C (sizK w n P) P (cycN n P) e → Φ (planV P la ap (cycN n P) e, 0)) (h2 : (∀ e, ¬ PlanE C (sizK w n P) P (cycN n P) e) → Φ (plan0, 21)) : Z27 t Φ := by
  have hl := h.lnk.len; have h1l := h.lnk.one; have hP6 := h.P6; have hP0 := h.P0; refine h.check ⟨fun q => absurd rfl q, fun _ => ?_⟩
  -- the sums of the link
  refine LoopW.upT C.length (fun k => ((k : Int), (if k = 0 then 0 else ix C ((k - 1 : Nat) : Int)), tabL (k + 1) (sumC C))) rfl (fun k rec hk hr => ?_) fun rec => ?_
  · have el : (tabL (k + 1) (sumC C)).length = k + 1 := q14 _ _
    have e1 : ((tabL (k + 1) (sumC C)).length : Int) - 1 = (k : Int) := by omega
    have ei : ix (tabL (k + 1) (sumC C)) (k : Int) = sumC C k := q38 (by omega); have ec : ix t.Capacity (k : Int) = ix C (k : Int) := by rw [h.cpt]
    have es : sumC C (k + 1) = sumC C k + ix C (k : Int) := by
      show sumC C k + capC C k = _; unfold capC; rw [if_pos hk]
    have b1 := h.lnk.bnd k; have b2 := h.lnk.rng k hk; refine ⟨fun _ => ?_, fun q => absurd (show (k : Int) < (t.Capacity.length : Int) by rw [h.cpt]; omega) q⟩; show inX (k : Int) t.Capacity.length ∧ inI (((tabL (k + 1) (sumC C)).length : Int) - 1) ∧ inX (((tabL (k + 1) (sumC C)).length : Int) - 1) (tabL (k + 1) (sumC C)).length ∧ inI (ix (tabL (k + 1) (sumC C)) (((tabL (k + 1) (sumC C)).length : Int) - 1) + ix t.Capacity (k : Int)) ∧ lenOk (tabL (k + 1) (sumC C) ++ [ix (tabL (k + 1) (sumC C)) (((tabL (k + 1) (sumC C)).length : Int) - 1) + ix t.Capacity (k : Int)]).length 8 ∧ inI ((k : Int) + 1) ∧ rec ((k : Int) + 1, ix t.Capacity (k : Int), tabL (k + 1) (sumC C) ++ [ix (tabL (k + 1) (sumC C)) (((tabL (k + 1) (sumC C)).length : Int) - 1) + ix t.Capacity (k : Int)]); rw [e1, ei, ec, ← es]; refine ⟨iX (by omega) (by rw [h.cpt]; omega), iI (by omega) (by omega), iX (by omega) (by omega), iI (by omega) (by omega), iL (by rw [q17]; omega) (by omega), iI (by omega) (by omega), hr _ (pairE rfl (pairE ?_ (q61 (k + 1) (sumC C)).symm))⟩; rw [if_neg (by omega)]; rfl
  refine ⟨fun q => absurd (show (C.length : Int) < (t.Capacity.length : Int) from q) (by rw [h.cpt]; omega), fun _ => ?_⟩; rw [if_neg (by omega)]; refine q613 h.wri h.per hP0 (by omega) (by have := h.n24; omega) (fun i hi => by have := h.w4 i hi; omega) ?_
  -- the cycles
  have hm24 : cycN n P ≤ 24 := by
    rcases Nat.lt_or_ge 24 (cycN n P) with c | c
    · have := (q121 hP0).1 c
      have : 24 * 1 ≤ 24 * P := Nat.mul_le_mul_left 24 hP0; have := h.n24; omega
    · exact c
  refine LoopW.upS (cycN n P) (fun s : Y5 => s.2.1) (fun k s => ∃ e, s = ((fr0 e k : Int), (k : Int), tabL k (fun k => (((k + 1) * P : Nat) : Int)), tabL k (fun k => (stK P e k : Int)), tabL k (fun k => (e k : Int)), tabL k (fun k => ((e k + la + ap : Nat) : Int))) ∧ PlanE C (sizK w n P) P k e) (fun k s rec hk _ hI hrec => ?_) 0 rfl (Nat.zero_le _) ⟨fun _ => 0, rfl, ⟨fun k hk => absurd hk (Nat.not_lt_zero k), fun k hk => absurd hk (Nat.not_lt_zero k)⟩⟩; obtain ⟨e, rfl, he⟩ := hI; have el : (tabL (cycN n P) fun k => (sizK w n P k : Int)).length = cycN n P := q14 _ _; refine ⟨fun q => ?_, fun q => ?_⟩
  · have hk : k < cycN n P := by
      have q : (k : Int) < ((tabL (cycN n P) fun k => (sizK w n P k : Int)).length : Int) := q; omega
    obtain ⟨p1, p2, p3⟩ := h.kP hk; have f1 := h.fr hk he; have s1 := h.sum (k + 1) hk
    have s2 : sumN (sizK w n P) 0 (k + 1) = sumN (sizK w n P) 0 k + sizK w n P k := by
      show sumN (sizK w n P) 0 k + sizK w n P (0 + k) = _; rw [Nat.zero_add]
    have hq : ((k : Int) + 1) * t.Period = (((k + 1) * P : Nat) : Int) := by
      rw [h.per, Int.natCast_mul]; rfl
    have hS : (if (((k : Int) + 1) * t.Period) < (fr0 e k : Int) then (fr0 e k : Int) else (((k : Int) + 1) * t.Period)) = (stK P e k : Int) := by
      rw [hq]; unfold stK
      split <;> split <;> omega
    have hst : stK P e k ≤ 30 + (k + 1) * P + sumN (sizK w n P) 0 k ∧ (k + 1) * P ≤ stK P e k := by
      unfold stK
      split <;> omega
    have hZ : ix (tabL (cycN n P) fun k => (sizK w n P k : Int)) (k : Int) = (sizK w n P k : Int) := q38 hk; have hl8 : ∀ {f : Nat → Int} {x : Int}, lenOk (tabL k f ++ [x]).length 8 := iL (by rw [q17, q14]; omega) (by omega)
    have J3 : ∀ x : Nat, EndC C (stK P e k) (sizK w n P k) x → x ≤ (if stK P e k < 30 then 30 else stK P e k) + sizK w n P k → Z23 t (fr0 e k : Int) (k : Int) (tabL k (fun k => (((k + 1) * P : Nat) : Int))) (tabL k (fun k => (stK P e k : Int))) (tabL k (fun k => (e k : Int))) (tabL k (fun k => ((e k + la + ap : Nat) : Int))) rec Φ ((x : Int), true) := fun x hx hxb => by
      have hxb2 : x ≤ 30 + (k + 1) * P + sumN (sizK w n P) 0 (k + 1) := by revert hxb; split <;> omega
      have hla := h.l4; have hap := h.a3
      have hE : PlanE C (sizK w n P) P (k + 1) (setK e k x) := by
        refine ⟨fun i hi => ?_, fun i hi => ?_⟩
        · rw [q450 (by omega)]
          by_cases c : i = k
          · subst c; rw [q303]; exact hx
          · rw [q302 (by omega)]; exact he.fin i (by omega)
        · by_cases c : i = k
          · subst c; rw [q303]; exact hxb2
          · rw [q302 (by omega)]; exact he.bnd i (by omega)
      have tc : ∀ {f g : Nat → Int} {y : Int}, (∀ i, i < k → f i = g i) → y = g k → tabL k f ++ [y] = tabL (k + 1) g := fun hfg hy => by rw [q61, q62 hfg, hy]
      refine ⟨fun q => absurd rfl q, fun _ => ⟨hl8, hl8, hl8, ?_, ?_, hl8, iI (by omega) (by omega), hrec _ hk rfl ⟨setK e k x, ?_, hE⟩⟩⟩
      · rw [h.lat]; exact iI (by omega) (by omega)
      · rw [h.lat, h.app]; exact iI (by omega) (by omega)
      · refine pairE (by show (x : Int) = ((setK e k x k : Nat) : Int); rw [q303]) (pairE rfl (pairE (tc (fun _ _ => rfl) hq) (pairE (tc (fun i hi => by rw [q450 (by omega)]) (by rw [q450 (Nat.le_refl _)]; exact hS)) (pairE (tc (fun i hi => by rw [q302 hi]) (by rw [q303])) (tc (fun i hi => by rw [q302 hi]) ?_)))))
        rw [q303, h.lat, h.app]; omega
    refine ⟨iX (by omega) q, iI (by omega) (by omega), by rw [hq]; exact iI (by omega) (by omega), ?_⟩; unfold Join; rw [hS, hZ]; refine fin_ok h.lnk (s := stK P e k) (z := sizK w n P k) (by omega) (by omega) hS hZ (fun x hx hxb => J3 x hx hxb) fun hno => ?_
    have hn2 : ∀ e, ¬ PlanE C (sizK w n P) P (cycN n P) e := fun e' he' => by
      have hu := he.uniq he' (by omega); have h4 := he'.fin k hk
      have e1 : stK P e' k = stK P e k := by
        cases k with
        | zero => rfl
        | succ k =>
          unfold stK; show (if _ < e' k then e' k else _) = (if _ < e k then e k else _)
          rw [hu k (by omega)]
      rw [e1] at h4; exact hno _ h4
    exact ⟨fun _ => ⟨h2 hn2, h2 hn2⟩, fun q => absurd (by simp) q⟩
  · have hk : k = cycN n P := by
      have q : ¬ (k : Int) < ((tabL (cycN n P) fun k => (sizK w n P k : Int)).length : Int) := q; omega
    subst hk; have hla := h.l4; have hap := h.a3; refine q679 (P := P) (A := fun k => e k + la + ap) rfl rfl (by omega) (fun k hk => ?_) ⟨h1 e he, h1 e he⟩; have b1 := he.bnd k hk; have b2 := h.sum (k + 1) hk; have b3 := (h.kP hk).2.1; show e k + la + ap ≤ _ ∧ _; omega
end
end
section
theorem q268 {l : List Int} {Φ : Bool → Prop} (hl : l.length ≤ 1000000) (hΦ : Φ true) : Z125 l l Φ :=
  ⟨fun h => absurd rfl h, fun _ => LoopW.upT l.length (fun k => (k : Int)) rfl (fun k rec hk hr => ⟨fun hlt => ⟨iX (by omega) hlt, iX (by omega) hlt, fun q => absurd rfl q, fun _ => ⟨iI (by omega) (by omega), hr _ rfl⟩⟩, fun r => absurd (show (k : Int) < (l.length : Int) by omega) r⟩) fun rec => ⟨fun r => absurd r (by omega), fun _ => hΦ⟩⟩
section
variable {t : q15} {C : List Int} {w : Nat → Nat} {n P la ap : Nat} {e : Nat → Nat}
theorem TrOk.m24 (h : TrOk t C w n P la ap) : cycN n P ≤ 24 := by
  rcases Nat.lt_or_ge 24 (cycN n P) with c | c
  · have := (q121 h.P0).1 c
    have : 24 * 1 ≤ 24 * P := Nat.mul_le_mul_left 24 h.P0; have := h.n24; omega
  · exact c
theorem q615 (h : TrOk t C w n P la ap) (he : PlanE C (sizK w n P) P (cycN n P) e) {Φ : Int → Prop} (hΦ : Φ 0) : Z127 t (planV P la ap (cycN n P) e) Φ := by
  have hm := h.m24; refine q452 h (fun e' he' => ?_) fun hno => absurd he (hno e); rw [q451 (he'.uniq he (Nat.le_refl _))]; generalize hp : planV P la ap (cycN n P) e = p; have l1 : p.Close.length ≤ 1000000 := by rw [← hp]; show (tabL _ _).length ≤ _; rw [q14]; omega
  have l2 : p.Start.length ≤ 1000000 := by rw [← hp]; show (tabL _ _).length ≤ _; rw [q14]; omega
  have l3 : p.End.length ≤ 1000000 := by rw [← hp]; show (tabL _ _).length ≤ _; rw [q14]; omega
  have l4 : p.Applied.length ≤ 1000000 := by rw [← hp]; show (tabL _ _).length ≤ _; rw [q14]; omega
  refine ⟨fun q => absurd rfl q, fun _ => ?_⟩; refine LoopW.upT 4 (fun k => (true, (k : Int))) (pairE (decide_eq_true rfl) rfl) (fun k rec hk hr => ⟨fun q => ⟨iX (by omega) q, by omega, by omega, ?_⟩, fun q => absurd (show (k : Int) < ((4 : Nat) : Int) by omega) q⟩) fun rec => ⟨fun q => absurd (show ((4 : Nat) : Int) < ((4 : Nat) : Int) from q) (by omega), fun _ => ⟨fun q => absurd rfl q, fun _ => hΦ⟩⟩
  rcases (show k = 0 ∨ k = 1 ∨ k = 2 ∨ k = 3 by omega) with rfl | rfl | rfl | rfl
  · exact ⟨fun q => absurd rfl q, fun _ => ⟨fun _ => ⟨by omega, by omega, q268 l1 ⟨iI (by omega) (by omega), hr _ rfl⟩⟩, fun q => absurd rfl q⟩⟩
  · exact ⟨fun q => absurd rfl q, fun _ => ⟨fun _ => ⟨by omega, by omega, q268 l2 ⟨iI (by omega) (by omega), hr _ rfl⟩⟩, fun q => absurd rfl q⟩⟩
  · exact ⟨fun q => absurd rfl q, fun _ => ⟨fun _ => ⟨by omega, by omega, q268 l3 ⟨iI (by omega) (by omega), hr _ rfl⟩⟩, fun q => absurd rfl q⟩⟩
  · exact ⟨fun q => absurd rfl q, fun _ => ⟨fun _ => ⟨by omega, by omega, q268 l4 ⟨iI (by omega) (by omega), hr _ rfl⟩⟩, fun q => absurd rfl q⟩⟩
theorem age_ok (h : TrOk t C w n P la ap) (he : PlanE C (sizK w n P) P (cycN n P) e) {T a : Nat} (hT : T ≤ 100000) (ha : a ≤ cycN n P) (h1 : ∀ i, i < a → e i + la + ap ≤ T) (h2 : ∀ i, a ≤ i → i < cycN n P → T < e i + la + ap) {Φ : Int × Int → Prop} (hΦ : Φ ((T : Int) - ((a * P : Nat) : Int), 0)) : q144 t (planV P la ap (cycN n P) e) (T : Int) Φ := by
  have hm := h.m24; have el : (planV P la ap (cycN n P) e).Applied.length = cycN n P := q14 _ _; have el2 : (planV P la ap (cycN n P) e).Close.length = cycN n P := q14 _ _; refine q615 h he ⟨fun q => absurd rfl q, fun _ => q334 (by omega) ⟨fun q => absurd rfl q, fun _ => ?_⟩⟩; rw [el]; refine LoopW.of_inv (fun s => ∃ x y : Nat, s = ((x : Int), (y : Int)) ∧ x ≤ a ∧ a ≤ y ∧ y ≤ cycN n P) (fun s => (s.2 - s.1).toNat) ?_ ⟨0, cycN n P, rfl, Nat.zero_le _, ha, Nat.le_refl _⟩
  rintro _ rec ⟨x, y, rfl, hx, hy, hym⟩ hrec
  refine ⟨fun q => ?_, fun q => ?_⟩
  · rw [q610 (by omega) (by omega)]
    have ei : ix (planV P la ap (cycN n P) e).Applied (((x + y) / 2 : Nat) : Int) = ((e ((x + y) / 2) + la + ap : Nat) : Int) := q38 (by omega); rw [ei]; refine ⟨iI (by omega) (by omega), iX (by omega) (by omega), fun r => ⟨iI (by omega) (by omega), hrec _ ⟨(x + y) / 2 + 1, y, rfl, ?_, hy, hym⟩ (by show ((y : Int) - ((((x + y) / 2 : Nat) : Int) + 1)).toNat < ((y : Int) - (x : Int)).toNat; omega)⟩, fun r => hrec _ ⟨x, (x + y) / 2, rfl, hx, ?_, by omega⟩ (by show ((((x + y) / 2 : Nat) : Int) - (x : Int)).toNat < ((y : Int) - (x : Int)).toNat; omega)⟩
    · rcases Nat.lt_or_ge ((x + y) / 2) a with c | c
      · exact c
      · have := h2 _ c (by omega); omega
    · rcases Nat.lt_or_ge ((x + y) / 2) a with c | c
      · have := h1 _ c; omega
      · exact c
  · obtain rfl : x = a := by omega
    refine ⟨fun r => ?_, fun r => ?_⟩
    · obtain rfl : x = 0 := by omega
      rw [Nat.zero_mul] at hΦ; rwa [show (T : Int) - ((0 : Nat) : Int) = (T : Int) by omega] at hΦ
    · have e1 : (x : Int) - 1 = ((x - 1 : Nat) : Int) := by omega
      have ei : ix (planV P la ap (cycN n P) e).Close ((x - 1 : Nat) : Int) = (((x - 1 + 1) * P : Nat) : Int) := q38 (by omega); have k1 := (h.kP (k := x - 1) (by omega)).2.1; rw [e1, ei]; rw [show x - 1 + 1 = x by omega] at k1 ⊢; exact ⟨iI (by omega) (by omega), iX (by omega) (by omega), iI (by omega) (by omega), hΦ⟩
end
end
section
theorem few_by {l : List q8} {Φ : Bool → Prop} (h0 : Φ false) (h1 : (∀ w ∈ l, w.Data.length ≤ 24) → l.length ≤ 40 → Φ true) : q194 l Φ := by
  refine LoopW.upI (if l.length < 60 then l.length else 60) (fun k => (k : Int)) (fun k => ∀ j : Nat, j < k → (ix l (j : Int)).Data.length ≤ 24) rfl (fun j hj => absurd hj (Nat.not_lt_zero j)) (fun k rec hk hI hr => ?_) fun rec hI => ?_
  · have hk2 : k < l.length ∧ k < 60 := by revert hk; split <;> omega
    unfold q159 Join; refine ⟨fun _ => ?_, fun q => absurd (show (k : Int) < (l.length : Int) by omega) q⟩; rw [decide_eq_true (by omega : (k : Int) < 60)]; refine ⟨fun _ => ⟨iX (by omega) (by omega), fun _ => h0, fun q => ⟨iI (by omega) (by omega), hr (fun j hj => ?_) _ rfl⟩⟩, fun q => absurd rfl q⟩; rcases Nat.lt_or_ge j k with c | c
    · exact hI j c
    · obtain rfl : j = k := by omega
      omega
  · have J : q247 l ((if l.length < 60 then l.length else 60 : Nat) : Int) rec Φ false := by
      refine ⟨fun q => absurd q (by simp), fun _ => ?_⟩; by_cases c : l.length ≤ 40
      · rw [decide_eq_true (by omega : (l.length : Int) ≤ 40)]
        refine h1 (fun w hw => ?_) c; obtain ⟨j, hj, e⟩ := List.getElem_of_mem hw; have := hI j (by rw [if_pos (by omega)]; exact hj); rwa [q50 hj, e] at this
      · rw [decide_eq_false (by omega)]; exact h0
    unfold q159 Join; refine ⟨fun q => ?_, fun _ => J⟩; rw [decide_eq_false]
    · exact J
    · have q : ((if l.length < 60 then l.length else 60 : Nat) : Int) < (l.length : Int) := q
      show ¬ ((if l.length < 60 then l.length else 60 : Nat) : Int) < 60; by_cases c : l.length < 60
      · rw [if_pos c] at q ⊢; omega
      · rw [if_neg c]; omega
theorem q616 {l : List q8} {Φ : Int → Prop} (hl : l.length ≤ 100000) (hs : secN l ≤ 1000000) (hΦ : Φ ((secN l : Nat) : Int)) : Z1 l Φ := by
  refine LoopW.upT l.length (fun j => (((secN (l.take j) : Nat) : Int), (j : Int))) rfl (fun j rec hj hr => ⟨fun u => ?_, fun u => absurd (show (j : Int) < (l.length : Int) by omega) u⟩) fun rec => ⟨fun u => absurd (show (l.length : Int) < (l.length : Int) from u) (by omega), fun _ => by rw [q60]; exact hΦ⟩
  have h1 := q604 hj; have h2 := q415 l (j + 1); exact ⟨iX (by omega) u, iI (by omega) (by omega), iI (by omega) (by omega), hr _ (pairE (by omega) rfl)⟩
section
variable {x : q13}
def capX (x : q13) : List Int := tabL x.Capacity.length fun i => (((ix x.Capacity (i : Int)).toNat % 8 : Nat) : Int)
def wX (x : q13) (i : Nat) : Nat := secN (ix x.Ticks (i : Int))
def perX (x : q13) : Nat := x.Period.toNat % 6 + 1
def latX (x : q13) : Nat := x.Latency.toNat % 5
def appX (x : q13) : Nat := x.Apply.toNat % 4
def trX (x : q13) : q15 := ⟨tabL x.Ticks.length fun i => (wX x i : Int), capX x, (perX x : Int), (latX x : Int), (appX x : Int)⟩
structure q304 (x : q13) : Prop where
  n24 : x.Ticks.length ≤ 24
  c30 : x.Capacity.length ≤ 30
  c1 : 1 ≤ x.Capacity.length
  few : ∀ i : Nat, i < x.Ticks.length → (ix x.Ticks (i : Int)).length ≤ 6 ∧ ∀ w ∈ ix x.Ticks (i : Int), w.Data.length ≤ 24
theorem q304.w (h : q304 x) {i : Nat} (hi : i < x.Ticks.length) : wX x i ≤ 144 := by
  have h1 := h.few i hi; have h2 := q176 _ h1.2; have h3 := Nat.mul_le_mul_right 24 h1.1; show secN _ ≤ _; omega
theorem q304.tr (h : q304 x) : TrOk (trX x) (capX x) (wX x) x.Ticks.length (perX x) (latX x) (appX x) :=
  ⟨rfl, rfl, rfl, rfl, rfl, ⟨by unfold capX; rw [q14]; exact h.c1, by unfold capX; rw [q14]; exact h.c30, fun t ht => by
    unfold capX at ht ⊢; rw [q14] at ht; rw [q38 ht]
    omega⟩, h.n24, fun i hi => by have := h.w hi; omega, by unfold perX; omega, by unfold perX; omega, by unfold latX; omega, by unfold appX; omega⟩
theorem q680 {Φ : q15 × Bool → Prop} (h0 : ∀ t : q15, t.Capacity = [] → t.Writes.length ≤ 24 → Φ (t, false)) (h1 : q304 x → Φ (trX x, decide (sumN (wX x) 0 x.Ticks.length ≤ 200))) : Z7 x Φ := by
  have eP : ((x.Period.toNat : Int) % 6) + 1 = (perX x : Int) := by unfold perX; omega
  have eL : (x.Latency.toNat : Int) % 5 = (latX x : Int) := by unfold latX; omega
  have eA : (x.Apply.toNat : Int) % 4 = (appX x : Int) := by unfold appX; omega
  have J : ∀ c : Bool, (c = false → x.Ticks.length ≤ 24 ∧ x.Capacity.length ≤ 30 ∧ 1 ≤ x.Capacity.length) → Z6 x Φ c := fun c hc => by
    refine ⟨fun _ => h0 _ rfl (by show (0 : Nat) ≤ 24; omega), fun q => ?_⟩; obtain ⟨c1, c2, c3⟩ := hc (by simpa using q); refine LoopW.upI x.Ticks.length (fun k => ((k : Int), tabL k fun i => (wX x i : Int))) (fun k => ∀ i : Nat, i < k → (ix x.Ticks (i : Int)).length ≤ 6 ∧ ∀ w ∈ ix x.Ticks (i : Int), w.Data.length ≤ 24) rfl (fun j hj => absurd hj (Nat.not_lt_zero j)) (fun k rec hk hI hr => ?_) fun rec hI => ?_
    · refine ⟨fun q => ⟨iX (by omega) q, ?_⟩, fun q => absurd (show (k : Int) < (x.Ticks.length : Int) by omega) q⟩
      have J3 : ∀ b : Bool, (b = false → (ix x.Ticks (k : Int)).length ≤ 6 ∧ ∀ w ∈ ix x.Ticks (k : Int), w.Data.length ≤ 24) → Z2 x (k : Int) (tabL k fun i => (wX x i : Int)) rec Φ b := fun b hb => by
        refine ⟨fun _ => h0 _ rfl (by show (tabL k _).length ≤ 24; rw [q14]; omega), fun q => ?_⟩; obtain ⟨g1, g2⟩ := hb (by simpa using q); have h2 := q176 _ g2; have h3 := Nat.mul_le_mul_right 24 g1; refine ⟨((wX x k : Int), ()), q616 (by omega) (by omega) rfl, iL (by rw [q17, q14]; omega) (by omega), iI (by omega) (by omega), hr (fun i hi => ?_) _ (pairE rfl (q61 k fun i => (wX x i : Int)).symm)⟩; rcases Nat.lt_or_ge i k with c | c
        · exact hI i c
        · obtain rfl : i = k := by omega
          exact ⟨g1, g2⟩
      unfold Join; refine few_by ⟨fun _ => J3 true (fun t => by cases t), fun q => absurd (by simp) q⟩ fun g1 _ => ⟨fun q => absurd rfl q, fun _ => J3 _ fun t => ⟨by have := of_decide_eq_false t; omega, g1⟩⟩
    · have hS : q304 x := ⟨c1, c2, c3, hI⟩
      have el : (tabL x.Ticks.length fun i => (wX x i : Int)).length = x.Ticks.length := q14 _ _
      have hb : ∀ j, j ≤ x.Ticks.length → sumN (wX x) 0 j ≤ 144 * j := fun j => by
        induction j with
        | zero => intro _; exact Nat.le_refl _
        | succ j ih =>
          intro hj; have := ih (by omega); have := hS.w (i := j) (by omega); show sumN (wX x) 0 j + wX x (0 + j) ≤ _; rw [Nat.zero_add]; omega
      refine ⟨fun q => absurd (show (x.Ticks.length : Int) < (x.Ticks.length : Int) from q) (by omega), fun _ => ?_⟩; refine LoopW.upT x.Ticks.length (fun j => ((sumN (wX x) 0 j : Int), (j : Int))) rfl (fun j rec2 hj hr2 => ⟨fun q => ?_, fun q => absurd (show (j : Int) < ((tabL x.Ticks.length fun i => (wX x i : Int)).length : Int) by omega) q⟩) fun rec2 => ⟨fun q => absurd (show (x.Ticks.length : Int) < ((tabL x.Ticks.length fun i => (wX x i : Int)).length : Int) from q) (by omega), fun _ => ?_⟩
      · have ei : ix (tabL x.Ticks.length fun i => (wX x i : Int)) (j : Int) = (wX x j : Int) := q38 hj
        have e2 : sumN (wX x) 0 (j + 1) = sumN (wX x) 0 j + wX x j := by
          show sumN (wX x) 0 j + wX x (0 + j) = _; rw [Nat.zero_add]
        have := hb (j + 1) (by omega); show inX (j : Int) (tabL x.Ticks.length fun i => (wX x i : Int)).length ∧ inI ((sumN (wX x) 0 j : Int) + ix (tabL x.Ticks.length fun i => (wX x i : Int)) (j : Int)) ∧ inI ((j : Int) + 1) ∧ rec2 ((sumN (wX x) 0 j : Int) + ix (tabL x.Ticks.length fun i => (wX x i : Int)) (j : Int), (j : Int) + 1); rw [ei]; exact ⟨iX (by omega) q, iI (by omega) (by omega), iI (by omega) (by omega), hr2 _ (pairE (by omega) rfl)⟩
      · refine LoopW.upT x.Capacity.length (fun j => ((j : Int), tabL j fun i => (((ix x.Capacity (i : Int)).toNat % 8 : Nat) : Int))) rfl (fun j rec3 hj hr3 => ⟨fun q => ⟨iX (by omega) q, ⟨by omega, by omega⟩, iL (by rw [q17, q14]; omega) (by omega), iI (by omega) (by omega), hr3 _ (pairE rfl ?_)⟩, fun q => absurd (show (j : Int) < (x.Capacity.length : Int) by omega) q⟩) fun rec3 => ⟨fun q => absurd (show (x.Capacity.length : Int) < (x.Capacity.length : Int) from q) (by omega), fun _ => ?_⟩
        · exact (q61 j fun i => (((ix x.Capacity (i : Int)).toNat % 8 : Nat) : Int)).symm
        · rw [eP, eL, eA]
          have := h1 hS; by_cases c : sumN (wX x) 0 x.Ticks.length ≤ 200
          · rw [decide_eq_true (by omega)]; rwa [decide_eq_true c] at this
          · rw [decide_eq_false (by omega)]; rwa [decide_eq_false c] at this
  unfold Z7 Join; refine ⟨⟨by omega, by omega⟩, iI (by omega) (by omega), ⟨by omega, by omega⟩, ⟨by omega, by omega⟩, fun _ => J true (fun t => by cases t), fun c1 => ⟨fun _ => J true (fun t => by cases t), fun c2 => J _ fun t => ?_⟩⟩; have := of_decide_eq_false t; omega
end
theorem q617 {t : q15} (hc : t.Capacity = []) (hw : t.Writes.length ≤ 24) {Φ : q18 × Int → Prop} (hΦ : Φ (plan0, 6)) : Z27 t Φ := by
  have hC : Z13 t fun v1 => (v1 ≠ 0 → Φ (plan0, v1)) ∧ (¬ (v1 ≠ 0) → LoopW (Z26 t Φ) (0, 0, ([0] : List Int))) := by
    unfold Z13 Join; refine ⟨fun q => absurd q (by omega), fun _ => q718 ?_⟩; rw [hc, decide_eq_false (show ¬ ((1 : Int) ≤ (([] : List Int).length : Int) ∧ (([] : List Int).length : Int) ≤ 4096) from fun q => absurd q.1 (by show ¬ (1 : Int) ≤ 0; omega))]; exact ⟨fun _ => ⟨fun _ => hΦ, fun q => absurd (show (6 : Int) ≠ 0 by omega) q⟩, fun q => absurd (by simp) q⟩
  exact hC
end
section
def FinE (C : List Int) (Z : Nat → Nat) (P m : Nat) (e : Nat → Nat) : Prop := ∀ k, k < m → EndC C (stK P e k) (Z k) (e k)
theorem q719 {P : Nat} {e : Nat → Nat} {k : Nat} : (k + 1) * P ≤ stK P e k ∧ fr0 e k ≤ stK P e k := by
  unfold stK
  split <;> omega
theorem q618 {P : Nat} {e : Nat → Nat} {k T : Nat} (h1 : (k + 1) * P ≤ T) (h2 : fr0 e k ≤ T) (h3 : (k + 1) * P = T ∨ fr0 e k = T) : stK P e k = T := by
  unfold stK
  split <;> omega
section
variable {C : List Int} {Z Z' : Nat → Nat} {P m : Nat} {e E : Nat → Nat}
theorem FinE.close (h : FinE C Z P m e) {k : Nat} (hk : k < m) : (k + 1) * P ≤ e k := by
  have := (h k hk).le; have := (q719 (P := P) (e := e) (k := k)).1; omega
theorem FinE.step (h : FinE C Z P m e) {k : Nat} (hk : k + 1 < m) : e k ≤ e (k + 1) := by
  have h1 := (h (k + 1) hk).le; have h2 : e k ≤ stK P e (k + 1) := (q719 (P := P) (e := e) (k := k + 1)).2; omega
theorem FinE.mono (h : FinE C Z P m e) {i : Nat} : ∀ d, i + d < m → e i ≤ e (i + d)
  | 0, _ => Nat.le_refl _
  | d + 1, hd => by
    have h1 := h.mono (i := i) d (by omega); have h2 := h.step (k := i + d) (by omega); have e1 : i + d + 1 = i + (d + 1) := by omega
    rw [e1] at h2; omega
theorem FinE.le (h : FinE C Z P m e) {i j : Nat} (hij : i ≤ j) (hj : j < m) : e i ≤ e j := by
  have := h.mono (i := i) (j - i) (by omega); rwa [show i + (j - i) = j by omega] at this
theorem q336 (f : Nat → Nat) (T : Nat) : ∀ m, (∀ i j, i ≤ j → j < m → f i ≤ f j) → ∃ b, b ≤ m ∧ (∀ i, i < b → f i ≤ T) ∧ ∀ i, b ≤ i → i < m → T < f i
  | 0, _ => ⟨0, Nat.le_refl _, fun i hi => absurd hi (Nat.not_lt_zero i), fun i _ hi => absurd hi (Nat.not_lt_zero i)⟩
  | m + 1, h => by
    obtain ⟨b, h1, h2, h3⟩ := q336 f T m fun i j hij hj => h i j hij (by omega); by_cases c : f m ≤ T
    · refine ⟨m + 1, Nat.le_refl _, fun i hi => ?_, fun i h4 h5 => by omega⟩
      have := h i m (by omega) (by omega); omega
    · refine ⟨b, by omega, h2, fun i h4 h5 => ?_⟩
      by_cases g : i = m
      · rw [g]; omega
      · exact h3 i h4 (by omega)
theorem q619 {A : Nat → Nat} {i : Nat} : ∀ d, bndE P A i ≤ bndE P A (i + d)
  | 0 => Int.le_refl _
  | d + 1 => by
    have h1 := q619 (A := A) (i := i) d; show _ ≤ mxI _ _; refine Int.le_trans h1 (Int.le_trans ?_ q240)
    split
    · exact q240
    · exact Int.le_refl _
theorem q620 {A : Nat → Nat} {i j : Nat} (h : i ≤ j) : bndE P A i ≤ bndE P A j := by
  have := q619 (P := P) (A := A) (i := i) (j - i); rwa [show i + (j - i) = j by omega] at this
theorem q681 {A : Nat → Nat} {k m : Nat} (hk : k < m) (h : k = 0 ∨ A (k - 1) < A k) : (A k : Int) - 1 - ((k * P : Nat) : Int) ≤ bndE P A m := by
  refine Int.le_trans ?_ (q620 (i := k + 1) (by omega)); show _ ≤ mxI _ _; rw [if_pos h]; exact Int.le_trans q448 q240
theorem q682 {A : Nat → Nat} {k m : Nat} (hk : k < m) : (A k : Int) - (((k + 1) * P : Nat) : Int) ≤ bndE P A m := by
  refine Int.le_trans ?_ (q620 (i := k + 1) (by omega)); show _ ≤ mxI _ _; exact q448
end
end
def orK {S R : Type} (a : S → Prop) (b : R → Prop) : S ⊕ R → Prop
 | .inl s => a s
 | .inr r => b r
def loopS {S R : Type} (step : S → Option (S ⊕ R)) : Nat → S → Option R
 | 0, _ => none
 | n + 1, s => match step s with
  | none => none
  | some (.inl s') => loopS step n s'
  | some (.inr r) => some r
theorem LoopW.of_S {S R : Type} {step : S → (S → Prop) → Prop} {stepS : S → Option (S ⊕ R)} {K : R → Prop} (hs : ∀ s q rec, stepS s = some q → orK rec K q → step s rec) : ∀ (n : Nat) (s : S) {o : R}, loopS stepS n s = some o → K o → LoopW step s := by
  intro n s o h hK; refine ⟨n, ?_⟩
  induction n generalizing s with
  | zero => cases h
  | succ n ih =>
    unfold loopS at h
    split at h
    · cases h
    · rename_i s' e
      exact hs s _ _ e (ih s' h)
    · rename_i r e
      cases h; exact hs s _ _ e hK
theorem ofBind {α β : Type} {x : Option α} {f : α → Option β} {o : β} (h : Option.bind x f = some o) : ∃ v, x = some v ∧ f v = some o := Option.bind_eq_some_iff.1 h
theorem ofIf {α : Type} {p : Prop} [Decidable p] {x : Option α} {o : α} (h : (if p then x else none) = some o) : p ∧ x = some o := by
  by_cases hp : p
  · rw [if_pos hp] at h; exact ⟨hp, h⟩
  · rw [if_neg hp] at h; cases h
theorem ofT {α : Type} {p : Prop} [Decidable p] {x y : Option α} {o : α} (hp : p) (h : (if p then x else y) = some o) : x = some o := by rw [if_pos hp] at h; exact h
theorem ofF {α : Type} {p : Prop} [Decidable p] {x y : Option α} {o : α} (hp : ¬ p) (h : (if p then x else y) = some o) : y = some o := by rw [if_neg hp] at h; exact h
theorem lfS {α : Type} {K : α → Prop} {a o : α} (h : some a = some o) (hK : K o) : K a := by
  cases h; exact hK
theorem adS {α : Type} {p : Prop} [Decidable p] {x : Option α} {o : α} {B : Prop} (h : (if p then x else none) = some o) (b : x = some o → B) : p ∧ B := ⟨(ofIf h).1, b (ofIf h).2⟩
theorem ifS {α : Type} {p : Prop} [Decidable p] {x y : Option α} {o : α} {A B : Prop} (h : (if p then x else y) = some o) (a : x = some o → A) (b : y = some o → B) : (p → A) ∧ (¬ p → B) := ⟨fun c => a (ofT c h), fun c => b (ofF c h)⟩
theorem blS {α β : Type} {x : Option α} {f : α → Option β} {o : β} {G : Prop} (h : Option.bind x f = some o) (k : ∀ v, x = some v → f v = some o → G) : G := by
  obtain ⟨v, h1, h2⟩ := ofBind h; exact k v h1 h2
instance decI (x : Int) : Decidable (inI x) := inferInstanceAs (Decidable (_ ∧ _))
instance decX (i : Int) (n : Nat) : Decidable (inX i n) := inferInstanceAs (Decidable (_ ∧ _))
instance decS (a b : Int) (n : Nat) : Decidable (inS a b n) := inferInstanceAs (Decidable (_ ∧ _))
instance decL (n b : Nat) : Decidable (lenOk n b) := inferInstanceAs (Decidable (_ ∧ _))
theorem sp3 {α : Type} {x : Int} {A B C : Option α} {o : α} {P Q R : Prop} (h : (if x = (0 : Int) then A else if x = (1 : Int) then B else if x = (2 : Int) then C else none) = some o) (a : A = some o → P) (b : B = some o → Q) (c : C = some o → R) : (x = (0 : Int) → P) ∧ (x = (1 : Int) → Q) ∧ (x = (2 : Int) → R) ∧ True :=
  ⟨fun e => a (by rw [if_pos e] at h; exact h), fun e => b (by rw [if_neg (by omega), if_pos e] at h; exact h), fun e => c (by rw [if_neg (by omega), if_neg (by omega), if_pos e] at h; exact h), trivial⟩
def Z145 (x0 : BitVec 64) (x1 : BitVec 64) : Option (BitVec 64 × BitVec 64) :=
 some ((((((x0 >>> ((32#64).toNat : Int).toNat) * (x1 >>> ((32#64).toNat : Int).toNat)) + ((((x0 >>> ((32#64).toNat : Int).toNat) * (x1 &&& (4294967295#64))) + (((x0 &&& (4294967295#64)) * (x1 &&& (4294967295#64))) >>> ((32#64).toNat : Int).toNat)) >>> ((32#64).toNat : Int).toNat)) + ((((((x0 >>> ((32#64).toNat : Int).toNat) * (x1 &&& (4294967295#64))) + (((x0 &&& (4294967295#64)) * (x1 &&& (4294967295#64))) >>> ((32#64).toNat : Int).toNat)) &&& (4294967295#64)) + ((x0 &&& (4294967295#64)) * (x1 >>> ((32#64).toNat : Int).toNat))) >>> ((32#64).toNat : Int).toNat)), (x0 * x1)))
theorem q167 (x0 : BitVec 64) (x1 : BitVec 64) {Φ : BitVec 64 × BitVec 64 → Prop} {o} (h : Z145 x0 x1 = some o) (hK : Φ o) : Z35 x0 x1 Φ := by
  unfold Z145 at h; unfold Z35; exact have t := lfS h hK; t
def Z146 (x0 : BitVec 64) (x1 : BitVec 64) : Option (BitVec 64 × BitVec 64) :=
 Option.bind (Z145 x0 x1) fun v1 =>
 some ((v1.1, v1.2))
theorem q196 (x0 : BitVec 64) (x1 : BitVec 64) {Φ : BitVec 64 × BitVec 64 → Prop} {o} (h : Z146 x0 x1 = some o) (hK : Φ o) : Z36 x0 x1 Φ := by
  unfold Z146 at h; unfold Z36; exact blS h fun _ hv h => q167 _ _ hv (have t := lfS h hK; t)
def Z147 : (Int × List Int) → Option ((Int × List Int) ⊕ (List Int))
 | (v3, v4) =>
  if v3 < (v4.length : Int) then
   if inS v3 (v4.length : Int) v4.length then
   if inS 0 v3 v4.length then
   if inI (v3 + ((min (sub v4 0 v3).length (v4.length - (v3 : Int).toNat) : Nat) : Int)) then
   some (.inl ((v3 + ((min (sub v4 0 v3).length (v4.length - (v3 : Int).toNat) : Nat) : Int)), (paste v4 v3 (sub v4 0 v3))))
   else none
   else none
   else none
  else
   some (.inr v4)
theorem q86 (s : Int × List Int) {Φ : List Int → Prop} {rec2 : (Int × List Int) → Prop} {o} (h : Z147 s = some o) (hK : (orK rec2 Φ) o) : Z37 Φ s rec2 := by
  obtain ⟨v3, v4⟩ := s; unfold Z147 at h; unfold Z37; exact ifS h (fun h => adS h fun h => adS h fun h => adS h fun h => have t := lfS h hK; t) fun h => have t := lfS h hK; t
def Z148 (x0 : List Int) (v1 : BitVec 64 × BitVec 64) : (Bool) → Option (List Int)
 | v2 =>
  if v2 = true then
   none
  else
   if 0 ≤ v1.2.toInt then
   if lenOk v1.2.toInt.toNat 8 then
   loopS (Z147) 100000 (((min x0.length ((List.replicate v1.2.toInt.toNat (0 : Int)).length - (0 : Int).toNat) : Nat) : Int), (paste (List.replicate v1.2.toInt.toNat (0 : Int)) 0 x0))
   else none
   else none
theorem q42 (x0 : List Int) (v1 : BitVec 64 × BitVec 64) (s : Bool) {Φ : List Int → Prop} {o} (h : Z148 x0 v1 s = some o) (hK : Φ o) : Z38 x0 v1 Φ s := by
  unfold Z148 at h; unfold Z38; exact ifS h (fun h => (by cases h)) fun h => adS h fun h => adS h fun h => LoopW.of_S (fun s q rec hs hq => q86 s hs hq) _ _ h hK
def Z149 (x0 : List Int) (x1 : Int) : Option (List Int) :=
 if x1 < 0 then
  none
 else
  Option.bind (Z146 (BitVec.ofInt 64 (x0.length : Int)) (BitVec.ofInt 64 x1)) fun v1 =>
  if (0#64) < v1.1 then
   Z148 x0 v1 true
  else
   Z148 x0 v1 (decide ((9223372036854775807#64) < v1.2))
theorem q55 (x0 : List Int) (x1 : Int) {Φ : List Int → Prop} {o} (h : Z149 x0 x1 = some o) (hK : Φ o) : Z39 x0 x1 Φ := by
  unfold Z149 at h; unfold Z39; exact ifS h (fun h => (by cases h)) fun h => blS h fun _ hv h => q196 _ _ hv (ifS h (fun h => q42 _ _ _ h hK) fun h => q42 _ _ _ h hK)
def Z150 (x0 : Int) (x1 : Int) (x2 : Int) : (Bool) → Option (q12 × Int)
 | v2 =>
  if v2 = true then
   some (((q12.mk 0 ([] : List q11) ([] : List Int) ([] : List Bool)), 2))
  else
   Option.bind (Z149 ([x2] : List Int) x0) fun z =>
   let v3 : List Int × Unit := (z, ())
   if 0 ≤ x0 then
   if lenOk x0.toNat 1 then
   some (((q12.mk x1 ([] : List q11) v3.1 (List.replicate x0.toNat (false : Bool))), 0))
   else none
   else none
theorem q45 (x0 : Int) (x1 : Int) (x2 : Int) (s : Bool) {Φ : q12 × Int → Prop} {o} (h : Z150 x0 x1 x2 s = some o) (hK : Φ o) : q137 x0 x1 x2 Φ s := by
  unfold Z150 at h; unfold q137; exact ifS h (fun h => have t := lfS h hK; t) fun h => blS h fun _ hv h => ⟨_, q55 _ _ hv rfl, adS h fun h => adS h fun h => have t := lfS h hK; t⟩
def Z151 (x0 : Int) (x1 : Int) (x2 : Int) : (Bool) → Option (q12 × Int)
 | v1 =>
  if v1 = true then
   some (((q12.mk 0 ([] : List q11) ([] : List Int) ([] : List Bool)), 6))
  else
   if x1 < 1 then
    Z150 x0 x1 x2 true
   else
    if 1024 < x1 then
     Z150 x0 x1 x2 true
    else
     if x2 < 0 then
      Z150 x0 x1 x2 true
     else
      Z150 x0 x1 x2 (decide (1073741824 < x2))
theorem q108 (x0 : Int) (x1 : Int) (x2 : Int) (s : Bool) {Φ : q12 × Int → Prop} {o} (h : Z151 x0 x1 x2 s = some o) (hK : Φ o) : q138 x0 x1 x2 Φ s := by
  unfold Z151 at h; unfold q138; exact ifS h (fun h => have t := lfS h hK; t) fun h => ifS h (fun h => q45 _ _ _ _ h hK) fun h => ifS h (fun h => q45 _ _ _ _ h hK) fun h => ifS h (fun h => q45 _ _ _ _ h hK) fun h => q45 _ _ _ _ h hK
def q249 (x0 : Int) (x1 : Int) (x2 : Int) : Option (q12 × Int) :=
 if x0 < 1 then
  Z151 x0 x1 x2 true
 else
  Z151 x0 x1 x2 (decide (4 < x0))
theorem q257 (x0 : Int) (x1 : Int) (x2 : Int) {Φ : q12 × Int → Prop} {o} (h : q249 x0 x1 x2 = some o) (hK : Φ o) : q115 x0 x1 x2 Φ := by
  unfold q249 at h; unfold q115; exact ifS h (fun h => q108 _ _ _ _ h hK) fun h => q108 _ _ _ _ h hK
def q227 : Option (List Int) :=
 Option.bind (Z149 ([4096] : List Int) 8) fun v1 =>
 some (v1)
theorem q241 {Φ : List Int → Prop} {o} (h : q227 = some o) (hK : Φ o) : q59 Φ := by
  unfold q227 at h; unfold q59; exact blS h fun _ hv h => q55 _ _ hv (have t := lfS h hK; t)
end Go.Proofs.YtklnkmdgajiebaaGreat
