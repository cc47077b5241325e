/- Part 4 of the proof of the statement ReverseCyclesCardSaid: lemmas. No condition of its own. -/
import Derived.Test.YtahlanamngfkcaaDoorM3
namespace Go.Proofs.YtahlanamngfkcaaDoor
open Go.RowKit
theorem ref47_Contents_lift {H : Hp} (x0 : List (List Sec)) (x1 : List (List api_Extent)) {A1 : Option Addr} {n1 c1 : Nat} {s1 : List Value} (hF1 : Fz (α := List Sec) H A1 n1 c1 x0 s1) {A2 : Option Addr} {n2 c2 : Nat} {s2 : List Value} (hF2 : Fz (α := List api_Extent) H A2 n2 c2 x1 s2) {Φ : List api_Write → Prop} (hm : ref47_Contents_W x0 x1 Φ) : RetP Tryd.prog 55 #[.slice A1 n1 c1, .slice A2 n2 c2] H (fun H' v L => ∃ y, Φ y ∧ ∃ A143, ∃ n143, ∃ c143, ∃ s143, v = .slice A143 n143 c143 ∧ DtL (α := api_Write) H' s143 y ∧ n143 = y.length ∧ L = [.row (.slice A143 n143 c143) 100 3 n143 s143]) := by
 refine RetP.of_code Tryd.func55 rfl (Nat.le_of_ble_eq_true rfl) fun w0 hM => ?_
 refine CW.seq <| CW.region <| RW.st (Ex.assign (.slice none 0 0) rfl) rfl <| RW.nil <| CW.seq <| CW.region <| RW.st (Ex.assign (.slice none 0 0) rfl) rfl <| RW.nil <| CW.seq <| CW.seq <| CW.region <| RW.st (Ex.assign (.int .i64 0) rfl) rfl <| RW.nil <| CW.block ?_
 obtain ⟨m142, hm⟩ := hm
 skip
 replace hM := hM.nilRow 100 3
 refine CW.loop (β := Nat) (fun n σ w => ∃ (v5 : List api_Write), ∃ (A6 : Option Addr), ∃ (n7 : Nat), ∃ (c8 : Nat), ∃ (s9 : List Value), ∃ (v12 : Int), ∃ Hk3, H.le Hk3 ∧ (∃ τ, σ = sl [(0, .slice A1 n1 c1), (1, .slice A2 n2 c2), (5, .slice A6 n7 c8), (6, .int .i64 v12)] τ) ∧ Mem w0 H w Hk3 [.row (.slice A6 n7 c8) 100 3 n7 s9] ∧ (DtL (α := api_Write) Hk3 s9 v5) ∧ (n7 = v5.length) ∧ LoopN (ref47_Contents_L1 x0 x1 Φ) n (v5, v12)) (fun n => n) m142 ⟨([] : List api_Write), none, 0, 0, [], 0, H, (Hp.le.refl _), sl_canon ⟨rfl, rfl, rfl, rfl, trivial⟩, hM, (DtL.nil : DtL _ [] ([] : List api_Write)), rfl, hm⟩ ?_
 rintro k13 _ w ⟨v5, A6, n7, c8, s9, v12, Hk3, hle4, ⟨τ, rfl⟩, hM, hd10, hn11, hm⟩
 obtain _ | k13 := k13
 · exact hm.elim
 replace hm : (ref47_Contents_L1 x0 x1 Φ) (v5, v12) (LoopN (ref47_Contents_L1 x0 x1 Φ) k13) := hm
 generalize hrec14 : LoopN (ref47_Contents_L1 x0 x1 Φ) k13 = rec1 at hm
 refine CW.seq <| CW.seq <| CW.region <| RW.st (Ex.move (.int .i64 v12) rfl) rfl <| RW.st (Ex.move (.slice A2 n2 c2) rfl) rfl <| RW.st (Ex.lenN st30.1 rfl hF2.hn) rfl <| RW.st (Ex.lss rfl rfl) rfl <| RW.nil ?_
 refine CW.cond_dec (p := v12 < (x1.length : Int)) rfl (fun hc15 => ?_) (fun hc15 => ?_)
 ·
  replace hm := And.left hm hc15
  refine CW.skip <| CW.seq <| CW.block <| CW.seq <| CW.region <| RW.st (Ex.assign (.int .i64 0) rfl) rfl <| RW.nil <| CW.block ?_
  obtain ⟨m141, hm⟩ := hm
  skip
  refine CW.loop (β := Nat) (fun n σ w => ∃ (v18 : List api_Write), ∃ (A19 : Option Addr), ∃ (n20 : Nat), ∃ (c21 : Nat), ∃ (s22 : List Value), ∃ (v25 : Int), ∃ Hk16, Hk3.le Hk16 ∧ (∃ τ, σ = sl [(0, .slice A1 n1 c1), (1, .slice A2 n2 c2), (5, .slice A19 n20 c21), (6, .int .i64 v12), (7, .int .i64 v25)] τ) ∧ Mem w0 H w Hk16 [.row (.slice A19 n20 c21) 100 3 n20 s22] ∧ (DtL (α := api_Write) Hk16 s22 v18) ∧ (n20 = v18.length) ∧ LoopN (ref47_Contents_L2 x0 x1 v12 rec1 Φ) n (v18, v25)) (fun n => n) m141 ⟨v5, A6, n7, c8, s9, 0, Hk3, (Hp.le.refl _), sl_canon ⟨rfl, rfl, rfl, rfl, rfl, trivial⟩, hM, hd10, hn11, hm⟩ ?_
  rintro k26 _ w ⟨v18, A19, n20, c21, s22, v25, Hk16, hle17, ⟨τ, rfl⟩, hM, hd23, hn24, hm⟩
  obtain _ | k26 := k26
  · exact hm.elim
  replace hm : (ref47_Contents_L2 x0 x1 v12 rec1 Φ) (v18, v25) (LoopN (ref47_Contents_L2 x0 x1 v12 rec1 Φ) k26) := hm
  generalize hrec27 : LoopN (ref47_Contents_L2 x0 x1 v12 rec1 Φ) k26 = rec2 at hm
  refine CW.seq <| CW.seq <| CW.region <| RW.st (Ex.move (.int .i64 v25) rfl) rfl <| RW.st (Ex.move (.slice A2 n2 c2) rfl) rfl <| RW.st (Ex.move (.int .i64 v12) rfl) rfl ?_
  obtain ⟨hg28, hm⟩ := hm
  refine RW.st (Ex.index st30 rfl rfl v12.toNat (hF2.ne hg28) hg28.nat (hF2.lt hg28)) rfl ?_
  obtain ⟨_, ⟨A29, n29, c29, s29, rfl, hF29⟩, hx30⟩ := DtL.getI (α := List api_Extent) (hF2.mono (hle4.trans hle17)).dat hg28
  refine RW.st (Ex.loadE hM (hle4.trans hle17) hF2.rdc to68 rfl (hx30 0 _ rfl)) rfl <| RW.st (Ex.lenN st68.1 rfl hF29.hn) rfl <| RW.st (Ex.lss rfl rfl) rfl <| RW.nil ?_
  refine CW.cond_dec (p := v25 < ((ix x1 v12).length : Int)) rfl (fun hc31 => ?_) (fun hc31 => ?_)
  ·
   replace hm := And.left hm hc31
   refine CW.skip <| CW.seq <| CW.block <| CW.seq <| CW.region <| RW.st (Ex.move (.slice A2 n2 c2) rfl) rfl <| RW.st (Ex.move (.int .i64 v12) rfl) rfl <| RW.st (Ex.index st30 rfl rfl v12.toNat (hF2.ne hg28) hg28.nat (hF2.lt hg28)) rfl <| RW.st (Ex.loadE hM (hle4.trans hle17) hF2.rdc to68 rfl (hx30 0 _ rfl)) rfl <| RW.st (Ex.move (.int .i64 v25) rfl) rfl ?_
   obtain ⟨hg32, hm⟩ := hm
   refine RW.st (Ex.index st68 rfl rfl v25.toNat (hF29.ne hg32) hg32.nat (hF29.lt hg32)) rfl ?_
   obtain ⟨_, rfl, hx33⟩ := DtL.getI (α := api_Extent) hF29.dat hg32
   refine RW.st (Ex.loadEA hM (Hp.le.refl _) hF29.rdc [.int .i64 ((ix (ix x1 v12) v25).Start), .int .i64 ((ix (ix x1 v12) v25).Count)] ta103 rfl (hF29.ne hg32) rfl (chunk_sub (off := 0) (n := 2) hx33 rfl)) rfl ?_
   refine RW.alloc hM tz103 [.int .i64 0, .int .i64 0] rfl rfl rfl ?_; intro b34 w hM
   replace hM : Mem w0 H w Hk16 [.box b34 103 [.int .i64 0, .int .i64 0], .row (.slice A19 n20 c21) 100 3 n20 s22] := hM
   refine RW.store hM 0 (.agg #[.int .i64 ((ix (ix x1 v12) v25).Start), .int .i64 ((ix (ix x1 v12) v25).Count)]) [.int .i64 ((ix (ix x1 v12) v25).Start), .int .i64 ((ix (ix x1 v12) v25).Count)] [.int .i64 ((ix (ix x1 v12) v25).Start), .int .i64 ((ix (ix x1 v12) v25).Count)] sz103 rfl rfl rfl (oneAll ⟨rfl, rfl, trivial⟩) rfl (Nat.le_of_ble_eq_true rfl) rfl [.box b34 103 [.int .i64 ((ix (ix x1 v12) v25).Start), .int .i64 ((ix (ix x1 v12) v25).Count)], .row (.slice A19 n20 c21) 100 3 n20 s22] rfl rfl rfl ?_; intro w hM
   refine RW.nil ?_
   obtain ⟨hg59, hm⟩ := hm
   obtain ⟨_, ⟨A60, n60, c60, s60, rfl, hF60⟩, hx61⟩ := DtL.getI (α := List Sec) (hF1.mono (hle4.trans hle17)).dat hg59
   obtain ⟨hg62, hm⟩ := hm
   obtain ⟨hg63, hm⟩ := hm
   obtain ⟨hg69, hm⟩ := hm
   refine CW.drawL 20 [] [(fun Hq us E => us = [.slice A19 n20 c21] ∧ E = [] ∧ True), (fun Hq us E => us = [.int .i64 v12] ∧ E = [] ∧ True), (fun Hq us E => us = [.pointer (some ⟨b34, 0, none⟩)] ∧ E = [] ∧ True), (fun Hq us E => us = [.int .i64 ((ix (ix x1 v12) v25).Start)] ∧ E = [] ∧ True), (fun Hq us E => ∃ (b57 : Nat), us = [.slice (some ⟨b57, 0, none⟩) 0 0] ∧ E = [.row (.slice (some ⟨b57, 0, none⟩) 0 0) 71 8 0 []] ∧ DtL Hq [] ([] : List Sec) ∧ True), (fun Hq us E => us = [.slice A1 n1 c1] ∧ E = [] ∧ True), (fun Hq us E => us = [.int .i64 v12] ∧ E = [] ∧ True), (fun Hq us E => us = [elp A1 (v12.toNat * 1 + 0)] ∧ E = [] ∧ True), (fun Hq us E => us = [.slice A60 n60 c60] ∧ E = [] ∧ True), (fun Hq us E => us = [.pointer (some ⟨b34, 0, none⟩)] ∧ E = [] ∧ True), (fun Hq us E => us = [.int .i64 ((ix (ix x1 v12) v25).Start)] ∧ E = [] ∧ True), (fun Hq us E => us = [.pointer (some ⟨b34, 0, none⟩)] ∧ E = [] ∧ True), (fun Hq us E => us = [.int .i64 ((ix (ix x1 v12) v25).Start)] ∧ E = [] ∧ True), (fun Hq us E => us = [.pointer (some ⟨b34, 1, none⟩)] ∧ E = [] ∧ True), (fun Hq us E => us = [.int .i64 ((ix (ix x1 v12) v25).Count)] ∧ E = [] ∧ True), (fun Hq us E => us = [.int .i64 (((ix (ix x1 v12) v25).Start) + ((ix (ix x1 v12) v25).Count))] ∧ E = [] ∧ True), (fun Hq us E => ∃ (A64 : Option Addr), ∃ (n65 : Nat), ∃ (c66 : Nat), ∃ (s67 : List Value), us = [.slice A64 n65 c66] ∧ E = [] ∧ Fz (α := Sec) Hq A64 n65 c66 (sub (ix x0 v12) ((ix (ix x1 v12) v25).Start) (((ix (ix x1 v12) v25).Start) + ((ix (ix x1 v12) v25).Count))) s67 ∧ True), (fun Hq us E => ∃ (A70 : Option Addr), ∃ (n71 : Nat), ∃ (c72 : Nat), ∃ (s73 : List Value), us = [.slice A70 n71 c72] ∧ E = [] ∧ Fz (α := Sec) Hq A70 n71 c72 (([] : List Sec) ++ (sub (ix x0 v12) ((ix (ix x1 v12) v25).Start) (((ix (ix x1 v12) v25).Start) + ((ix (ix x1 v12) v25).Count)))) s73 ∧ True), (fun Hq us E => ∃ (A70 : Option Addr), ∃ (n71 : Nat), ∃ (c72 : Nat), ∃ (s73 : List Value), us = [.slice A70 n71 c72, .agg #[.int .i64 v12, .int .i64 ((ix (ix x1 v12) v25).Start), .slice A70 n71 c72]] ∧ E = [] ∧ Fz (α := Sec) Hq A70 n71 c72 (([] : List Sec) ++ (sub (ix x0 v12) ((ix (ix x1 v12) v25).Start) (((ix (ix x1 v12) v25).Start) + ((ix (ix x1 v12) v25).Count)))) s73 ∧ True), (fun Hq us E => ∃ (A70 : Option Addr), ∃ (n71 : Nat), ∃ (c72 : Nat), ∃ (b77 : Nat), us = [.slice (some ⟨b77, 0, none⟩) 1 1] ∧ E = [] ∧ Fz Hq (some ⟨b77, 0, none⟩) 1 1 ([(api_Write.mk v12 ((ix (ix x1 v12) v25).Start) (([] : List Sec) ++ (sub (ix x0 v12) ((ix (ix x1 v12) v25).Start) (((ix (ix x1 v12) v25).Start) + ((ix (ix x1 v12) v25).Count)))))] : List api_Write) [.int .i64 v12, .int .i64 ((ix (ix x1 v12) v25).Start), .slice A70 n71 c72] ∧ True)]
    (fun k => [[0], [1], [2], [3], [4], [5], [6], [7], [8], [9], [10], [11], [12], [13], [14], [15], [16], [17], [17, 18], [19]].getD k []) (fun k => [none, none, none, none, none, none, none, none, none, none, none, none, none, none, none, none, none, some 4, none, none].getD k none) (by kernel_rfl) hM (by kernel_rfl) (by kernel_rfl) (by kernel_rfl) rfl (by simp only [List.forall_mem_cons]; exact ⟨fun _ _ _ _ hle ⟨e1, e2, _⟩ => ⟨e1, e2, trivial⟩, fun _ _ _ _ hle ⟨e1, e2, _⟩ => ⟨e1, e2, trivial⟩, fun _ _ _ _ hle ⟨e1, e2, _⟩ => ⟨e1, e2, trivial⟩, fun _ _ _ _ hle ⟨e1, e2, _⟩ => ⟨e1, e2, trivial⟩, fun _ _ _ _ hle ⟨b57, e1, e2, hd58, _⟩ => ⟨b57, e1, e2, hd58.mono hle, trivial⟩, fun _ _ _ _ hle ⟨e1, e2, _⟩ => ⟨e1, e2, trivial⟩, fun _ _ _ _ hle ⟨e1, e2, _⟩ => ⟨e1, e2, trivial⟩, fun _ _ _ _ hle ⟨e1, e2, _⟩ => ⟨e1, e2, trivial⟩, fun _ _ _ _ hle ⟨e1, e2, _⟩ => ⟨e1, e2, trivial⟩, fun _ _ _ _ hle ⟨e1, e2, _⟩ => ⟨e1, e2, trivial⟩, fun _ _ _ _ hle ⟨e1, e2, _⟩ => ⟨e1, e2, trivial⟩, fun _ _ _ _ hle ⟨e1, e2, _⟩ => ⟨e1, e2, trivial⟩, fun _ _ _ _ hle ⟨e1, e2, _⟩ => ⟨e1, e2, trivial⟩, fun _ _ _ _ hle ⟨e1, e2, _⟩ => ⟨e1, e2, trivial⟩, fun _ _ _ _ hle ⟨e1, e2, _⟩ => ⟨e1, e2, trivial⟩, fun _ _ _ _ hle ⟨e1, e2, _⟩ => ⟨e1, e2, trivial⟩, fun _ _ _ _ hle ⟨A64, n65, c66, s67, e1, e2, hF68, _⟩ => ⟨A64, n65, c66, s67, e1, e2, hF68.mono hle, trivial⟩, fun _ _ _ _ hle ⟨A70, n71, c72, s73, e1, e2, hF76, _⟩ => ⟨A70, n71, c72, s73, e1, e2, hF76.mono hle, trivial⟩, fun _ _ _ _ hle ⟨A70, n71, c72, s73, e1, e2, hF76, _⟩ => ⟨A70, n71, c72, s73, e1, e2, hF76.mono hle, trivial⟩, fun _ _ _ _ hle ⟨A70, n71, c72, b77, e1, e2, hF78, _⟩ => ⟨A70, n71, c72, b77, e1, e2, hF78.mono hle, trivial⟩, by simp⟩) ⟨?_, ?_, ?_, ?_, ?_, ?_, ?_, ?_, ?_, ?_, ?_, ?_, ?_, ?_, ?_, ?_, ?_, ?_, ?_, ?_, trivial⟩ ?_
   ·
    intro H' σ' w R E hle hMR hE0 hE hp hf
    obtain rfl := hE0 rfl
    obtain ⟨τ, rfl⟩ := sl_canon (σ := σ') (l := [(5, .slice A19 n20 c21)]) ⟨(hf 5 (by kernel_rfl)).trans rfl, trivial⟩
    have hM := Mem.subR (R := R) hMR
    exact RW.step (Ex.move (.slice A19 n20 c21) rfl) rfl rfl rfl (RW.nil ⟨rfl, rfl, _, rfl, H', [], Hp.le.refl _, hMR, rfl, rfl, trivial⟩)
   ·
    intro H' σ' w R E hle hMR hE0 hE hp hf
    obtain rfl := hE0 rfl
    obtain ⟨τ, rfl⟩ := sl_canon (σ := σ') (l := [(6, .int .i64 v12)]) ⟨(hf 6 (by kernel_rfl)).trans rfl, trivial⟩
    have hM := Mem.subR (R := R) hMR
    exact RW.step (Ex.move (.int .i64 v12) rfl) rfl rfl rfl (RW.nil ⟨rfl, rfl, _, rfl, H', [], Hp.le.refl _, hMR, rfl, rfl, trivial⟩)
   ·
    intro H' σ' w R E hle hMR hE0 hE hp hf
    obtain rfl := hE0 rfl
    obtain ⟨τ, rfl⟩ := sl_canon (σ := σ') (l := [(8, .pointer (some ⟨b34, 0, none⟩))]) ⟨(hf 8 (by kernel_rfl)).trans rfl, trivial⟩
    have hM := Mem.subR (R := R) hMR
    exact RW.step (Ex.fieldAddr fa103_0 rfl) rfl rfl rfl (RW.nil ⟨rfl, rfl, _, rfl, H', [], Hp.le.refl _, hMR, rfl, rfl, trivial⟩)
   ·
    intro H' σ' w R E hle hMR hE0 hE hp hf
    obtain rfl := hE0 rfl
    obtain ⟨_, hg⟩ := hp 2 (by decide) (by kernel_rfl)
    obtain ⟨e79, _, _⟩ := hg.get rfl
    have e80 : σ' 33 = .pointer (some ⟨b34, 0, none⟩) := (List.cons.inj e79).1
    obtain ⟨τ, rfl⟩ := sl_canon (σ := σ') (l := [(33, .pointer (some ⟨b34, 0, none⟩))]) ⟨e80, trivial⟩
    have hM := Mem.subR (R := R) hMR
    exact RW.step (Ex.load1 hM 0 to3 rfl rfl rfl) rfl rfl rfl (RW.nil ⟨rfl, rfl, _, rfl, H', [], Hp.le.refl _, hMR, rfl, rfl, trivial⟩)
   ·
    intro H' σ' w R E hle hMR hE0 hE hp hf
    obtain rfl := hE0 rfl
    obtain ⟨τ, rfl⟩ := sl_canon (σ := σ') (l := []) trivial
    have hM := Mem.subR (R := R) hMR
    refine RW.buildSlice hMR st61 tz71 [] [] (by decide) rfl rfl rfl (by decide) rfl rfl ?_; intro b57 w hMR
    have hd58 : DtL H' [] ([] : List Sec) := DtL.nil
    exact RW.nil ⟨rfl, rfl, _, rfl, H', [.row (.slice (some ⟨b57, 0, none⟩) 0 0) 71 8 0 []], Hp.le.refl _, hMR, b57, rfl, rfl, hd58, trivial⟩
   ·
    intro H' σ' w R E hle hMR hE0 hE hp hf
    obtain rfl := hE0 rfl
    obtain ⟨τ, rfl⟩ := sl_canon (σ := σ') (l := [(0, .slice A1 n1 c1)]) ⟨(hf 0 (by kernel_rfl)).trans rfl, trivial⟩
    have hM := Mem.subR (R := R) hMR
    exact RW.step (Ex.move (.slice A1 n1 c1) rfl) rfl rfl rfl (RW.nil ⟨rfl, rfl, _, rfl, H', [], Hp.le.refl _, hMR, rfl, rfl, trivial⟩)
   ·
    intro H' σ' w R E hle hMR hE0 hE hp hf
    obtain rfl := hE0 rfl
    obtain ⟨τ, rfl⟩ := sl_canon (σ := σ') (l := [(6, .int .i64 v12)]) ⟨(hf 6 (by kernel_rfl)).trans rfl, trivial⟩
    have hM := Mem.subR (R := R) hMR
    exact RW.step (Ex.move (.int .i64 v12) rfl) rfl rfl rfl (RW.nil ⟨rfl, rfl, _, rfl, H', [], Hp.le.refl _, hMR, rfl, rfl, trivial⟩)
   ·
    intro H' σ' w R E hle hMR hE0 hE hp hf
    obtain rfl := hE0 rfl
    obtain ⟨_, hg⟩ := hp 5 (by decide) (by kernel_rfl)
    obtain ⟨e81, _, _⟩ := hg.get rfl
    have e82 : σ' 36 = .slice A1 n1 c1 := (List.cons.inj e81).1
    obtain ⟨_, hg⟩ := hp 6 (by decide) (by kernel_rfl)
    obtain ⟨e83, _, _⟩ := hg.get rfl
    have e84 : σ' 37 = .int .i64 v12 := (List.cons.inj e83).1
    obtain ⟨τ, rfl⟩ := sl_canon (σ := σ') (l := [(36, .slice A1 n1 c1), (37, .int .i64 v12)]) ⟨e82, e84, trivial⟩
    have hM := Mem.subR (R := R) hMR
    exact RW.step (Ex.index st25 rfl rfl v12.toNat (hF1.ne hg59) hg59.nat (hF1.lt hg59)) rfl rfl rfl (RW.nil ⟨rfl, rfl, _, rfl, H', [], Hp.le.refl _, hMR, rfl, rfl, trivial⟩)
   ·
    intro H' σ' w R E hle hMR hE0 hE hp hf
    obtain rfl := hE0 rfl
    obtain ⟨_, hg⟩ := hp 7 (by decide) (by kernel_rfl)
    obtain ⟨e85, _, _⟩ := hg.get rfl
    have e86 : σ' 38 = elp A1 (v12.toNat * 1 + 0) := (List.cons.inj e85).1
    obtain ⟨τ, rfl⟩ := sl_canon (σ := σ') (l := [(38, elp A1 (v12.toNat * 1 + 0))]) ⟨e86, trivial⟩
    have hM := Mem.subR (R := R) hMR
    exact RW.step (Ex.loadE hM ((hle4.trans hle17).trans hle) hF1.rdc to61 rfl (hx61 0 _ rfl)) rfl rfl rfl (RW.nil ⟨rfl, rfl, _, rfl, H', [], Hp.le.refl _, hMR, rfl, rfl, trivial⟩)
   ·
    intro H' σ' w R E hle hMR hE0 hE hp hf
    obtain rfl := hE0 rfl
    obtain ⟨τ, rfl⟩ := sl_canon (σ := σ') (l := [(8, .pointer (some ⟨b34, 0, none⟩))]) ⟨(hf 8 (by kernel_rfl)).trans rfl, trivial⟩
    have hM := Mem.subR (R := R) hMR
    exact RW.step (Ex.fieldAddr fa103_0 rfl) rfl rfl rfl (RW.nil ⟨rfl, rfl, _, rfl, H', [], Hp.le.refl _, hMR, rfl, rfl, trivial⟩)
   ·
    intro H' σ' w R E hle hMR hE0 hE hp hf
    obtain rfl := hE0 rfl
    obtain ⟨_, hg⟩ := hp 9 (by decide) (by kernel_rfl)
    obtain ⟨e87, _, _⟩ := hg.get rfl
    have e88 : σ' 40 = .pointer (some ⟨b34, 0, none⟩) := (List.cons.inj e87).1
    obtain ⟨τ, rfl⟩ := sl_canon (σ := σ') (l := [(40, .pointer (some ⟨b34, 0, none⟩))]) ⟨e88, trivial⟩
    have hM := Mem.subR (R := R) hMR
    exact RW.step (Ex.load1 hM 0 to3 rfl rfl rfl) rfl rfl rfl (RW.nil ⟨rfl, rfl, _, rfl, H', [], Hp.le.refl _, hMR, rfl, rfl, trivial⟩)
   ·
    intro H' σ' w R E hle hMR hE0 hE hp hf
    obtain rfl := hE0 rfl
    obtain ⟨τ, rfl⟩ := sl_canon (σ := σ') (l := [(8, .pointer (some ⟨b34, 0, none⟩))]) ⟨(hf 8 (by kernel_rfl)).trans rfl, trivial⟩
    have hM := Mem.subR (R := R) hMR
    exact RW.step (Ex.fieldAddr fa103_0 rfl) rfl rfl rfl (RW.nil ⟨rfl, rfl, _, rfl, H', [], Hp.le.refl _, hMR, rfl, rfl, trivial⟩)
   ·
    intro H' σ' w R E hle hMR hE0 hE hp hf
    obtain rfl := hE0 rfl
    obtain ⟨_, hg⟩ := hp 11 (by decide) (by kernel_rfl)
    obtain ⟨e89, _, _⟩ := hg.get rfl
    have e90 : σ' 42 = .pointer (some ⟨b34, 0, none⟩) := (List.cons.inj e89).1
    obtain ⟨τ, rfl⟩ := sl_canon (σ := σ') (l := [(42, .pointer (some ⟨b34, 0, none⟩))]) ⟨e90, trivial⟩
    have hM := Mem.subR (R := R) hMR
    exact RW.step (Ex.load1 hM 0 to3 rfl rfl rfl) rfl rfl rfl (RW.nil ⟨rfl, rfl, _, rfl, H', [], Hp.le.refl _, hMR, rfl, rfl, trivial⟩)
   ·
    intro H' σ' w R E hle hMR hE0 hE hp hf
    obtain rfl := hE0 rfl
    obtain ⟨τ, rfl⟩ := sl_canon (σ := σ') (l := [(8, .pointer (some ⟨b34, 0, none⟩))]) ⟨(hf 8 (by kernel_rfl)).trans rfl, trivial⟩
    have hM := Mem.subR (R := R) hMR
    exact RW.step (Ex.fieldAddr fa103_1 rfl) rfl rfl rfl (RW.nil ⟨rfl, rfl, _, rfl, H', [], Hp.le.refl _, hMR, rfl, rfl, trivial⟩)
   ·
    intro H' σ' w R E hle hMR hE0 hE hp hf
    obtain rfl := hE0 rfl
    obtain ⟨_, hg⟩ := hp 13 (by decide) (by kernel_rfl)
    obtain ⟨e91, _, _⟩ := hg.get rfl
    have e92 : σ' 44 = .pointer (some ⟨b34, 1, none⟩) := (List.cons.inj e91).1
    obtain ⟨τ, rfl⟩ := sl_canon (σ := σ') (l := [(44, .pointer (some ⟨b34, 1, none⟩))]) ⟨e92, trivial⟩
    have hM := Mem.subR (R := R) hMR
    exact RW.step (Ex.load1 hM 0 to3 rfl rfl rfl) rfl rfl rfl (RW.nil ⟨rfl, rfl, _, rfl, H', [], Hp.le.refl _, hMR, rfl, rfl, trivial⟩)
   ·
    intro H' σ' w R E hle hMR hE0 hE hp hf
    obtain rfl := hE0 rfl
    obtain ⟨_, hg⟩ := hp 12 (by decide) (by kernel_rfl)
    obtain ⟨e93, _, _⟩ := hg.get rfl
    have e94 : σ' 43 = .int .i64 ((ix (ix x1 v12) v25).Start) := (List.cons.inj e93).1
    obtain ⟨_, hg⟩ := hp 14 (by decide) (by kernel_rfl)
    obtain ⟨e95, _, _⟩ := hg.get rfl
    have e96 : σ' 45 = .int .i64 ((ix (ix x1 v12) v25).Count) := (List.cons.inj e95).1
    obtain ⟨τ, rfl⟩ := sl_canon (σ := σ') (l := [(43, .int .i64 ((ix (ix x1 v12) v25).Start)), (45, .int .i64 ((ix (ix x1 v12) v25).Count))]) ⟨e94, e96, trivial⟩
    have hM := Mem.subR (R := R) hMR
    exact RW.step (Ex.add rfl rfl hg62.1 hg62.2) rfl rfl rfl (RW.nil ⟨rfl, rfl, _, rfl, H', [], Hp.le.refl _, hMR, rfl, rfl, trivial⟩)
   ·
    intro H' σ' w R E hle hMR hE0 hE hp hf
    obtain rfl := hE0 rfl
    obtain ⟨_, hg⟩ := hp 8 (by decide) (by kernel_rfl)
    obtain ⟨e97, _, _⟩ := hg.get rfl
    have e98 : σ' 39 = .slice A60 n60 c60 := (List.cons.inj e97).1
    obtain ⟨_, hg⟩ := hp 10 (by decide) (by kernel_rfl)
    obtain ⟨e99, _, _⟩ := hg.get rfl
    have e100 : σ' 41 = .int .i64 ((ix (ix x1 v12) v25).Start) := (List.cons.inj e99).1
    obtain ⟨_, hg⟩ := hp 15 (by decide) (by kernel_rfl)
    obtain ⟨e101, _, _⟩ := hg.get rfl
    have e102 : σ' 46 = .int .i64 (((ix (ix x1 v12) v25).Start) + ((ix (ix x1 v12) v25).Count)) := (List.cons.inj e101).1
    obtain ⟨τ, rfl⟩ := sl_canon (σ := σ') (l := [(39, .slice A60 n60 c60), (41, .int .i64 ((ix (ix x1 v12) v25).Start)), (46, .int .i64 (((ix (ix x1 v12) v25).Start) + ((ix (ix x1 v12) v25).Count)))]) ⟨e98, e100, e102, trivial⟩
    have hM := Mem.subR (R := R) hMR
    refine RW.sliceF (α := Sec) st61 rfl hle hF60 rfl rfl hg63 rfl rfl ?_; intro A64 n65 c66 s67 hF68
    exact RW.nil ⟨rfl, rfl, _, rfl, H', [], Hp.le.refl _, hMR, A64, n65, c66, s67, rfl, rfl, hF68, trivial⟩
   ·
    intro H' σ' w R E hle hMR hE0 hE hp hf
    obtain ⟨b57, e103, rfl, hd58, _⟩ := (hE 4 rfl).get rfl
    have e104 : σ' 35 = .slice (some ⟨b57, 0, none⟩) 0 0 := (List.cons.inj e103).1
    obtain ⟨_, hg⟩ := hp 16 (by decide) (by kernel_rfl)
    obtain ⟨A64, n65, c66, s67, e105, _, hF68, _⟩ := hg.get rfl
    have e106 : σ' 47 = .slice A64 n65 c66 := (List.cons.inj e105).1
    obtain ⟨τ, rfl⟩ := sl_canon (σ := σ') (l := [(35, .slice (some ⟨b57, 0, none⟩) 0 0), (47, .slice A64 n65 c66)]) ⟨e104, e106, trivial⟩
    refine RW.appendF (α := Sec) (xs := ([] : List Sec)) (ys := (sub (ix x0 v12) ((ix (ix x1 v12) v25).Start) (((ix (ix x1 v12) v25).Start) + ((ix (ix x1 v12) v25).Count)))) hMR 0 st61 rfl rfl hd58 rfl rfl (Hp.le.refl _) hF68 hg69 rfl rfl ?_; intro A70 n71 c72 s73 w hd74 hn75 hMR
    obtain ⟨H9, hMR, hle9, hF76⟩ := hMR.giveF (α := Sec) (xs := (([] : List Sec) ++ (sub (ix x0 v12) ((ix (ix x1 v12) v25).Start) (((ix (ix x1 v12) v25).Start) + ((ix (ix x1 v12) v25).Count))))) 0 rfl hd74 hn75
    exact RW.nil ⟨rfl, rfl, _, rfl, H9, [], hle9, hMR, A70, n71, c72, s73, rfl, rfl, hF76, trivial⟩
   ·
    intro H' σ' w R E hle hMR hE0 hE hp hf
    obtain rfl := hE0 rfl
    obtain ⟨_, hg⟩ := hp 1 (by decide) (by kernel_rfl)
    obtain ⟨e107, _, _⟩ := hg.get rfl
    have e108 : σ' 32 = .int .i64 v12 := (List.cons.inj e107).1
    obtain ⟨_, hg⟩ := hp 3 (by decide) (by kernel_rfl)
    obtain ⟨e109, _, _⟩ := hg.get rfl
    have e110 : σ' 34 = .int .i64 ((ix (ix x1 v12) v25).Start) := (List.cons.inj e109).1
    obtain ⟨_, hg⟩ := hp 17 (by decide) (by kernel_rfl)
    obtain ⟨A70, n71, c72, s73, e111, _, hF76, _⟩ := hg.get rfl
    have e112 : σ' 48 = .slice A70 n71 c72 := (List.cons.inj e111).1
    obtain ⟨τ, rfl⟩ := sl_canon (σ := σ') (l := [(32, .int .i64 v12), (34, .int .i64 ((ix (ix x1 v12) v25).Start)), (48, .slice A70 n71 c72)]) ⟨e108, e110, e112, trivial⟩
    have hM := Mem.subR (R := R) hMR
    exact RW.step (Ex.build bs100 [(0, .int .i64 v12), (1, .int .i64 ((ix (ix x1 v12) v25).Start)), (2, .slice A70 n71 c72)] [.int .i64 v12, .int .i64 ((ix (ix x1 v12) v25).Start), .slice A70 n71 c72] rfl rfl) rfl rfl rfl (RW.nil ⟨rfl, rfl, _, rfl, H', [], Hp.le.refl _, hMR, A70, n71, c72, s73, rfl, rfl, hF76, trivial⟩)
   ·
    intro H' σ' w R E hle hMR hE0 hE hp hf
    obtain rfl := hE0 rfl
    obtain ⟨_, hg⟩ := hp 18 (by decide) (by kernel_rfl)
    obtain ⟨A70, n71, c72, s73, e113, _, hF76, _⟩ := hg.get rfl
    have e114 : σ' 48 = .slice A70 n71 c72 := (List.cons.inj e113).1
    have e115 : σ' 49 = .agg #[.int .i64 v12, .int .i64 ((ix (ix x1 v12) v25).Start), .slice A70 n71 c72] := (List.cons.inj (List.cons.inj e113).2).1
    obtain ⟨τ, rfl⟩ := sl_canon (σ := σ') (l := [(49, .agg #[.int .i64 v12, .int .i64 ((ix (ix x1 v12) v25).Start), .slice A70 n71 c72])]) ⟨e115, trivial⟩
    have hM := Mem.subR (R := R) hMR
    refine RW.buildSlice hMR st43 tz100 [(0, .agg #[.int .i64 v12, .int .i64 ((ix (ix x1 v12) v25).Start), .slice A70 n71 c72])] [.int .i64 v12, .int .i64 ((ix (ix x1 v12) v25).Start), .slice A70 n71 c72] (by decide) rfl rfl rfl (by decide) rfl rfl ?_; intro b77 w hMR
    obtain ⟨H9, hMR, hle9, hF78⟩ := hMR.giveF (α := api_Write) (xs := ([(api_Write.mk v12 ((ix (ix x1 v12) v25).Start) (([] : List Sec) ++ (sub (ix x0 v12) ((ix (ix x1 v12) v25).Start) (((ix (ix x1 v12) v25).Start) + ((ix (ix x1 v12) v25).Count)))))] : List api_Write)) 0 rfl (DtL.cons (c1 := [.int .i64 v12, .int .i64 ((ix (ix x1 v12) v25).Start), .slice A70 n71 c72]) ⟨_, _, _, _, rfl, hF76⟩ DtL.nil) rfl
    exact RW.nil ⟨rfl, rfl, _, rfl, H9, [], hle9, hMR, A70, n71, c72, b77, rfl, rfl, hF78, trivial⟩
   ·
    intro H8 σ' w X miss hms hle8 hM hX hX0 hf
    simp [subs] at hms
    rcases hms with rfl
    ·
     obtain ⟨H116, hH8⟩ : ∃ x, x = H8 := ⟨_, rfl⟩
     subst hH8
     have hle117 := hle8
     obtain ⟨_, g0, y0⟩ := hX 0 (by decide) (by kernel_rfl)
     obtain ⟨e118, rfl, _⟩ := g0.get rfl
     have e119 : σ' 31 = .slice A19 n20 c21 := (List.cons.inj e118).1
     replace y0 : X 0 = [] := y0
     obtain ⟨_, g0, y1⟩ := hX 1 (by decide) (by kernel_rfl)
     obtain ⟨_, rfl, _⟩ := g0.get rfl
     replace y1 : X 1 = [] := y1
     obtain ⟨_, g0, y2⟩ := hX 2 (by decide) (by kernel_rfl)
     obtain ⟨_, rfl, _⟩ := g0.get rfl
     replace y2 : X 2 = [] := y2
     obtain ⟨_, g0, y3⟩ := hX 3 (by decide) (by kernel_rfl)
     obtain ⟨_, rfl, _⟩ := g0.get rfl
     replace y3 : X 3 = [] := y3
     obtain ⟨_, g0, y4⟩ := hX 4 (by decide) (by kernel_rfl)
     obtain ⟨_, _, rfl, _, _⟩ := g0.get rfl
     replace y4 : X 4 = [] := y4
     obtain ⟨_, g0, y5⟩ := hX 5 (by decide) (by kernel_rfl)
     obtain ⟨_, rfl, _⟩ := g0.get rfl
     replace y5 : X 5 = [] := y5
     obtain ⟨_, g0, y6⟩ := hX 6 (by decide) (by kernel_rfl)
     obtain ⟨_, rfl, _⟩ := g0.get rfl
     replace y6 : X 6 = [] := y6
     obtain ⟨_, g0, y7⟩ := hX 7 (by decide) (by kernel_rfl)
     obtain ⟨_, rfl, _⟩ := g0.get rfl
     replace y7 : X 7 = [] := y7
     obtain ⟨_, g0, y8⟩ := hX 8 (by decide) (by kernel_rfl)
     obtain ⟨_, rfl, _⟩ := g0.get rfl
     replace y8 : X 8 = [] := y8
     obtain ⟨_, g0, y9⟩ := hX 9 (by decide) (by kernel_rfl)
     obtain ⟨_, rfl, _⟩ := g0.get rfl
     replace y9 : X 9 = [] := y9
     obtain ⟨_, g0, y10⟩ := hX 10 (by decide) (by kernel_rfl)
     obtain ⟨_, rfl, _⟩ := g0.get rfl
     replace y10 : X 10 = [] := y10
     obtain ⟨_, g0, y11⟩ := hX 11 (by decide) (by kernel_rfl)
     obtain ⟨_, rfl, _⟩ := g0.get rfl
     replace y11 : X 11 = [] := y11
     obtain ⟨_, g0, y12⟩ := hX 12 (by decide) (by kernel_rfl)
     obtain ⟨_, rfl, _⟩ := g0.get rfl
     replace y12 : X 12 = [] := y12
     obtain ⟨_, g0, y13⟩ := hX 13 (by decide) (by kernel_rfl)
     obtain ⟨_, rfl, _⟩ := g0.get rfl
     replace y13 : X 13 = [] := y13
     obtain ⟨_, g0, y14⟩ := hX 14 (by decide) (by kernel_rfl)
     obtain ⟨_, rfl, _⟩ := g0.get rfl
     replace y14 : X 14 = [] := y14
     obtain ⟨_, g0, y15⟩ := hX 15 (by decide) (by kernel_rfl)
     obtain ⟨_, rfl, _⟩ := g0.get rfl
     replace y15 : X 15 = [] := y15
     obtain ⟨_, g0, y16⟩ := hX 16 (by decide) (by kernel_rfl)
     obtain ⟨A64, n65, c66, s67, e120, rfl, hF68, _⟩ := g0.get rfl
     have e121 : σ' 47 = .slice A64 n65 c66 := (List.cons.inj e120).1
     replace y16 : X 16 = [] := y16
     obtain ⟨_, g0, y17⟩ := hX 17 (by decide) (by kernel_rfl)
     obtain ⟨A70, n71, c72, s73, e122, rfl, hF76, _⟩ := g0.get rfl
     have e123 : σ' 48 = .slice A70 n71 c72 := (List.cons.inj e122).1
     replace y17 : X 17 = [] := y17
     obtain ⟨_, g0, y18⟩ := hX 18 (by decide) (by kernel_rfl)
     obtain ⟨A70q, n71q, c72q, s73q, e124, rfl, _, _⟩ := g0.get rfl
     have e125 : σ' 48 = .slice A70q n71q c72q := (List.cons.inj e124).1
     have he_ := e123.symm.trans e125
     have ⟨e126, e127, e128⟩ : A70 = A70q ∧ n71 = n71q ∧ c72 = c72q := by simp at he_; simp [he_]
     subst e126
     subst e127
     subst e128
     have e129 : σ' 49 = .agg #[.int .i64 v12, .int .i64 ((ix (ix x1 v12) v25).Start), .slice A70 n71 c72] := (List.cons.inj (List.cons.inj e124).2).1
     replace y18 : X 18 = [] := y18
     obtain ⟨_, g0, y19⟩ := hX 19 (by decide) (by kernel_rfl)
     obtain ⟨A70q, n71q, c72q, b77, e130, rfl, hF78, _⟩ := g0.get rfl
     have e131 : σ' 50 = .slice (some ⟨b77, 0, none⟩) 1 1 := (List.cons.inj e130).1
     replace y19 : X 19 = [] := y19
     have hfl : flatX X 20 = [] := by
      show X 0 ++ (X 1 ++ (X 2 ++ (X 3 ++ (X 4 ++ (X 5 ++ (X 6 ++ (X 7 ++ (X 8 ++ (X 9 ++ (X 10 ++ (X 11 ++ (X 12 ++ (X 13 ++ (X 14 ++ (X 15 ++ (X 16 ++ (X 17 ++ (X 18 ++ (X 19 ++ []))))))))))))))))))) = _
      rw [y0, y1, y2, y3, y4, y5, y6, y7, y8, y9, y10, y11, y12, y13, y14, y15, y16, y17, y18, y19]; rfl
     rw [hfl] at hM
     obtain ⟨τ, rfl⟩ := sl_canon (σ := σ') (l := [(0, .slice A1 n1 c1), (1, .slice A2 n2 c2), (5, .slice A19 n20 c21), (6, .int .i64 v12), (7, .int .i64 v25), (31, .slice A19 n20 c21), (50, .slice (some ⟨b77, 0, none⟩) 1 1)]) ⟨(hf 0 (by kernel_rfl)).trans rfl, (hf 1 (by kernel_rfl)).trans rfl, (hf 5 (by kernel_rfl)).trans rfl, (hf 6 (by kernel_rfl)).trans rfl, (hf 7 (by kernel_rfl)).trans rfl, e119, e131, trivial⟩
     replace hM : Mem w0 H w H116 [.box b34 103 [.int .i64 ((ix (ix x1 v12) v25).Start), .int .i64 ((ix (ix x1 v12) v25).Count)], .row (.slice A19 n20 c21) 100 3 n20 s22] := hM
     change RA _ _ _ _ _ _ _ (sl [(0, .slice A1 n1 c1), (1, .slice A2 n2 c2), (5, .slice A19 n20 c21), (6, .int .i64 v12), (7, .int .i64 v25), (31, .slice A19 n20 c21), (50, .slice (some ⟨b77, 0, none⟩) 1 1)] τ) _ 22 _
     refine RA.step [20] (by kernel_rfl) rfl ⟨⟨_, rfl, ?_⟩, trivial⟩
     obtain ⟨hg138, hm⟩ := hm
     refine RW.appendF (α := api_Write) (xs := v18) (ys := ([(api_Write.mk v12 ((ix (ix x1 v12) v25).Start) (([] : List Sec) ++ (sub (ix x0 v12) ((ix (ix x1 v12) v25).Start) (((ix (ix x1 v12) v25).Start) + ((ix (ix x1 v12) v25).Count)))))] : List api_Write)) hM 1 st43 rfl rfl (hd23.mono hle117) hn24 rfl (Hp.le.refl _) hF78 hg138 rfl rfl ?_; intro A132 n133 c134 s135 w hd136 hn137 hM
     replace hM : Mem w0 H w H116 [.box b34 103 [.int .i64 ((ix (ix x1 v12) v25).Start), .int .i64 ((ix (ix x1 v12) v25).Count)], .row (.slice A132 n133 c134) 100 3 n133 s135] := hM
     refine RW.nil ?_
     refine And.intro rfl ?_
     refine RA.step [21] (by kernel_rfl) rfl ⟨⟨_, rfl, ?_⟩, trivial⟩
     refine RW.st (Ex.assign (.slice A132 n133 c134) rfl) rfl <| RW.nil ?_
     refine And.intro rfl ?_
     refine RA.done (by kernel_rfl) ?_
     refine CW.region <| RW.st (Ex.move (.int .i64 v25) rfl) rfl ?_
     obtain ⟨hg139, hm⟩ := hm
     refine RW.st (Ex.add rfl rfl hg139.1 hg139.2) rfl <| RW.st (Ex.assign (.int .i64 (v25 + 1)) rfl) rfl <| RW.nil ?_
     exact And.intro rfl ⟨k26, ⟨(v18 ++ ([(api_Write.mk v12 ((ix (ix x1 v12) v25).Start) (([] : List Sec) ++ (sub (ix x0 v12) ((ix (ix x1 v12) v25).Start) (((ix (ix x1 v12) v25).Start) + ((ix (ix x1 v12) v25).Count)))))] : List api_Write)), A132, n133, c134, s135, v25 + 1, H116, hle17.trans hle117, sl_canon ⟨rfl, rfl, rfl, rfl, rfl, trivial⟩, (hM.pick [1] rfl rfl), hd136, hn137, (by rw [hrec27]; exact hm)⟩, Nat.lt_succ_self _⟩
  ·
   replace hm := And.right hm hc31
   refine CW.exit ?_
   refine CW.region <| RW.st (Ex.move (.int .i64 v12) rfl) rfl ?_
   obtain ⟨hg140, hm⟩ := hm
   refine RW.st (Ex.add rfl rfl hg140.1 hg140.2) rfl <| RW.st (Ex.assign (.int .i64 (v12 + 1)) rfl) rfl <| RW.nil ?_
   exact And.intro rfl ⟨k13, ⟨v18, A19, n20, c21, s22, v12 + 1, Hk16, hle4.trans hle17, sl_canon ⟨rfl, rfl, rfl, rfl, trivial⟩, hM, hd23, hn24, (by rw [hrec14]; exact hm)⟩, Nat.lt_succ_self _⟩
 ·
  replace hm := And.right hm hc15
  refine CW.exit ?_
  refine CW.seq <| CW.region <| RW.st (Ex.move (.slice A6 n7 c8) rfl) rfl <| RW.st (Ex.assign (.slice A6 n7 c8) rfl) rfl <| RW.nil <| CW.ret ?_
  refine end_tmp (.inl rfl) rfl (.slice A6 n7 c8) rfl ?_
  exact ⟨_, _, hM, v5, hm, A6, n7, c8, s9, rfl, hd10, hn11, rfl⟩
theorem ref23_positions_lift {H : Hp} (x0 : List Int) {A1 : Option Addr} {n1 c1 : Nat} {s1 : List Value} (hF1 : Fz (α := Int) H A1 n1 c1 x0 s1) {Φ : Int → Prop} (hm : ref23_positions_W x0 Φ) : RetP Tryd.prog 106 #[.slice A1 n1 c1] H (fun _ v L => ∃ y, Φ y ∧ v = .int .i64 (y) ∧ L = []) := by
 refine RetP.of_code Tryd.func106 rfl (Nat.le_of_ble_eq_true rfl) fun w0 hM => ?_
 refine CW.seq <| CW.region <| RW.st (Ex.assign (.int .i64 0) rfl) rfl <| RW.nil <| CW.seq <| CW.seq <| CW.region <| RW.st (Ex.assign (.int .i64 0) rfl) rfl <| RW.nil <| CW.block ?_
 obtain ⟨m14, hm⟩ := hm
 skip
 refine CW.loop (β := Nat) (fun n σ w => ∃ (v4 : Int), ∃ Hk2, H.le Hk2 ∧ (∃ τ, σ = sl [(0, .slice A1 n1 c1), (3, .int .i64 v4)] τ) ∧ Mem w0 H w Hk2 [] ∧ LoopN (ref23_positions_L1 x0 Φ) n (v4)) (fun n => n) m14 ⟨0, H, (Hp.le.refl _), sl_canon ⟨rfl, rfl, trivial⟩, hM, hm⟩ ?_
 rintro k5 _ w ⟨v4, Hk2, hle3, ⟨τ, rfl⟩, hM, hm⟩
 obtain _ | k5 := k5
 · exact hm.elim
 replace hm : (ref23_positions_L1 x0 Φ) (v4) (LoopN (ref23_positions_L1 x0 Φ) k5) := hm
 generalize hrec6 : LoopN (ref23_positions_L1 x0 Φ) k5 = rec1 at hm
 refine CW.seq <| CW.seq <| CW.region <| RW.st (Ex.move (.int .i64 v4) rfl) rfl <| RW.st (Ex.move (.slice A1 n1 c1) rfl) rfl <| RW.st (Ex.lenN st40.1 rfl hF1.hn) rfl <| RW.st (Ex.lss rfl rfl) rfl <| RW.nil ?_
 refine CW.cond_dec (p := v4 < (x0.length : Int)) rfl (fun hc7 => ?_) (fun hc7 => ?_)
 ·
  replace hm := And.left hm hc7
  refine CW.skip <| CW.seq <| CW.block ?_
  obtain ⟨hG13, hm⟩ := hm
  refine CW.cut (fun D σ w => D = [] ∧ (∃ τ, σ = sl [(0, .slice A1 n1 c1), (3, .int .i64 v4), (21, .bool (decide (((ix x0 v4) < 0) ∨ (1073741824 < (ix x0 v4)))))] τ) ∧ Mem w0 H w Hk2 []) ?_ ?_
  ·
   replace hm := hG13
   refine CW.region <| RW.st (Ex.move (.slice A1 n1 c1) rfl) rfl <| RW.st (Ex.move (.int .i64 v4) rfl) rfl ?_
   have hg8 := hm
   refine RW.st (Ex.index st40 rfl rfl v4.toNat (hF1.ne hg8) hg8.nat (hF1.lt hg8)) rfl ?_
   obtain ⟨_, rfl, hx9⟩ := DtL.getI (α := Int) (hF1.mono hle3).dat hg8
   refine RW.st (Ex.loadE hM hle3 hF1.rdc to3 rfl (hx9 0 _ rfl)) rfl <| RW.st (Ex.lss rfl rfl) rfl <| RW.st (Ex.move (.bool (decide ((ix x0 v4) < 0))) rfl) rfl ?_
   refine RW.split 15 (p := (ix x0 v4) < 0) rfl (fun hc10 => ?_) (fun hc10 => ?_)
   ·
    skip
    refine RW.pass rfl rfl <| RW.pass rfl rfl <| RW.pass rfl rfl <| RW.pass rfl rfl <| RW.pass rfl rfl <| RW.st (Ex.pickT (.bool true) rfl rfl) rfl <| RW.nil ?_
    exact And.intro rfl (And.intro (sl_canon ⟨rfl, rfl, (congrArg Value.bool (decide_eq_true (.inl hc10)).symm), trivial⟩) hM)
   ·
    skip
    refine RW.st (Ex.move (.slice A1 n1 c1) rfl) rfl <| RW.st (Ex.move (.int .i64 v4) rfl) rfl <| RW.st (Ex.index st40 rfl rfl v4.toNat (hF1.ne hg8) hg8.nat (hF1.lt hg8)) rfl <| RW.st (Ex.loadE hM hle3 hF1.rdc to3 rfl (hx9 0 _ rfl)) rfl <| RW.st (Ex.gtr rfl rfl) rfl <| RW.st (Ex.pickF (.bool (decide (1073741824 < (ix x0 v4)))) rfl rfl) rfl <| RW.nil ?_
    exact And.intro rfl (And.intro (sl_canon ⟨rfl, rfl, (congrArg Value.bool (decide_eq_decide.2 (imOr hc10 Iff.rfl))), trivial⟩) hM)
  rintro _ _ w ⟨rfl, ⟨τ, rfl⟩, hM⟩
  refine CW.cond_dec (p := ((ix x0 v4) < 0) ∨ (1073741824 < (ix x0 v4))) rfl (fun hc11 => ?_) (fun hc11 => ?_)
  ·
   replace hm := And.left hm hc11
   refine CW.seq <| CW.region <| RW.st (Ex.assign (.int .i64 2) rfl) rfl <| RW.nil <| CW.ret ?_
   refine blockQ_ret (thenQ_ret (thenQ_ret (blockQ_ret (thenQ_ret ?_))))
   refine end_tmp (.inl rfl) rfl (.int .i64 2) rfl ?_
   exact ⟨_, _, hM, 2, hm, rfl, rfl⟩
  ·
   replace hm := And.right hm hc11
   refine CW.skip <| CW.region <| RW.st (Ex.move (.int .i64 v4) rfl) rfl ?_
   obtain ⟨hg12, hm⟩ := hm
   refine RW.st (Ex.add rfl rfl hg12.1 hg12.2) rfl <| RW.st (Ex.assign (.int .i64 (v4 + 1)) rfl) rfl <| RW.nil ?_
   exact And.intro rfl ⟨k5, ⟨v4 + 1, Hk2, hle3.trans (Hp.le.refl _), sl_canon ⟨rfl, rfl, trivial⟩, hM, (by rw [hrec6]; exact hm)⟩, Nat.lt_succ_self _⟩
 ·
  replace hm := And.right hm hc7
  refine CW.exit ?_
  refine CW.seq <| CW.region <| RW.st (Ex.assign (.int .i64 0) rfl) rfl <| RW.nil <| CW.ret ?_
  refine end_tmp (.inl rfl) rfl (.int .i64 0) rfl ?_
  exact ⟨_, _, hM, 0, hm, rfl, rfl⟩
theorem ref23_SameInts_lift {H : Hp} (x0 : List Int) (x1 : List Int) {A1 : Option Addr} {n1 c1 : Nat} {s1 : List Value} (hF1 : Fz (α := Int) H A1 n1 c1 x0 s1) {A2 : Option Addr} {n2 c2 : Nat} {s2 : List Value} (hF2 : Fz (α := Int) H A2 n2 c2 x1 s2) {Φ : Bool → Prop} (hm : ref23_SameInts_W x0 x1 Φ) : RetP Tryd.prog 58 #[.slice A1 n1 c1, .slice A2 n2 c2] H (fun _ v L => ∃ y, Φ y ∧ v = .bool y ∧ L = []) := by
 refine RetP.of_code Tryd.func58 rfl (Nat.le_of_ble_eq_true rfl) fun w0 hM => ?_
 refine CW.seq <| CW.region <| RW.st (Ex.assign (.bool false) rfl) rfl <| RW.nil <| CW.seq <| CW.seq <| CW.region <| RW.st (Ex.move (.slice A1 n1 c1) rfl) rfl <| RW.st (Ex.lenN st40.1 rfl hF1.hn) rfl <| RW.st (Ex.move (.slice A2 n2 c2) rfl) rfl <| RW.st (Ex.lenN st40.1 rfl hF2.hn) rfl <| RW.st (Ex.neq rfl rfl) rfl <| RW.nil ?_
 refine CW.cond_dec (p := (x0.length : Int) ≠ (x1.length : Int)) rfl (fun hc3 => ?_) (fun hc3 => ?_)
 ·
  replace hm := And.left hm hc3
  refine CW.seq <| CW.region <| RW.st (Ex.assign (.bool false) rfl) rfl <| RW.nil <| CW.ret ?_
  refine thenQ_ret ?_
  refine end_tmp (.inl rfl) rfl (.bool false) rfl ?_
  exact ⟨_, _, hM, false, hm, rfl, rfl⟩
 ·
  replace hm := And.right hm hc3
  refine CW.skip <| CW.seq <| CW.seq <| CW.region <| RW.st (Ex.assign (.int .i64 0) rfl) rfl <| RW.nil <| CW.block ?_
  obtain ⟨m16, hm⟩ := hm
  skip
  refine CW.loop (β := Nat) (fun n σ w => ∃ (v6 : Int), ∃ Hk4, H.le Hk4 ∧ (∃ τ, σ = sl [(0, .slice A1 n1 c1), (1, .slice A2 n2 c2), (5, .int .i64 v6)] τ) ∧ Mem w0 H w Hk4 [] ∧ LoopN (ref23_SameInts_L1 x0 x1 Φ) n (v6)) (fun n => n) m16 ⟨0, H, (Hp.le.refl _), sl_canon ⟨rfl, rfl, rfl, trivial⟩, hM, hm⟩ ?_
  rintro k7 _ w ⟨v6, Hk4, hle5, ⟨τ, rfl⟩, hM, hm⟩
  obtain _ | k7 := k7
  · exact hm.elim
  replace hm : (ref23_SameInts_L1 x0 x1 Φ) (v6) (LoopN (ref23_SameInts_L1 x0 x1 Φ) k7) := hm
  generalize hrec8 : LoopN (ref23_SameInts_L1 x0 x1 Φ) k7 = rec1 at hm
  refine CW.seq <| CW.seq <| CW.region <| RW.st (Ex.move (.int .i64 v6) rfl) rfl <| RW.st (Ex.move (.slice A1 n1 c1) rfl) rfl <| RW.st (Ex.lenN st40.1 rfl hF1.hn) rfl <| RW.st (Ex.lss rfl rfl) rfl <| RW.nil ?_
  refine CW.cond_dec (p := v6 < (x0.length : Int)) rfl (fun hc9 => ?_) (fun hc9 => ?_)
  ·
   replace hm := And.left hm hc9
   refine CW.skip <| CW.seq <| CW.block <| CW.seq ?_
   obtain ⟨hg10, hm⟩ := hm
   obtain ⟨_, rfl, hx11⟩ := DtL.getI (α := Int) (hF1.mono hle5).dat hg10
   obtain ⟨hg12, hm⟩ := hm
   obtain ⟨_, rfl, hx13⟩ := DtL.getI (α := Int) (hF2.mono hle5).dat hg12
   refine CW.drawE 9 [.slice A1 n1 c1, .int .i64 v6, elp A1 (v6.toNat * 1 + 0), .int .i64 ((ix x0 v6)), .slice A2 n2 c2, .int .i64 v6, elp A2 (v6.toNat * 1 + 0), .int .i64 ((ix x1 v6)), .bool (decide ((ix x0 v6) ≠ (ix x1 v6)))]
    [[(0, none)], [(5, none)], [(17, some 0), (18, some 1)], [(19, some 2)], [(1, none)], [(5, none)], [(21, some 4), (22, some 5)], [(23, some 6)], [(20, some 3), (24, some 7)]] [(0, none), (1, none), (5, none), (25, some 8)] (by kernel_rfl) hM (by kernel_rfl) ⟨?_, ?_, ?_, ?_, ?_, ?_, ?_, ?_, ?_, trivial⟩ ?_
   · exact One.ex (fun H' τ w hled hM => Ex.move (.slice A1 n1 c1) rfl) rfl (fun _ => rfl) rfl
   · exact One.ex (fun H' τ w hled hM => Ex.move (.int .i64 v6) rfl) rfl (fun _ => rfl) rfl
   · exact One.ex (fun H' τ w hled hM => Ex.index st40 rfl rfl v6.toNat (hF1.ne hg10) hg10.nat (hF1.lt hg10)) rfl (fun _ => rfl) rfl
   · exact One.ex (fun H' τ w hled hM => Ex.loadE hM (hle5.trans hled) hF1.rdc to3 rfl (hx11 0 _ rfl)) rfl (fun _ => rfl) rfl
   · exact One.ex (fun H' τ w hled hM => Ex.move (.slice A2 n2 c2) rfl) rfl (fun _ => rfl) rfl
   · exact One.ex (fun H' τ w hled hM => Ex.move (.int .i64 v6) rfl) rfl (fun _ => rfl) rfl
   · exact One.ex (fun H' τ w hled hM => Ex.index st40 rfl rfl v6.toNat (hF2.ne hg12) hg12.nat (hF2.lt hg12)) rfl (fun _ => rfl) rfl
   · exact One.ex (fun H' τ w hled hM => Ex.loadE hM (hle5.trans hled) hF2.rdc to3 rfl (hx13 0 _ rfl)) rfl (fun _ => rfl) rfl
   · exact One.ex (fun H' τ w hled hM => Ex.neq rfl rfl) rfl (fun _ => rfl) rfl
   intro τ w hM
   change RW _ _ _ _ _ _ _ _ (sl [(0, .slice A1 n1 c1), (1, .slice A2 n2 c2), (5, .int .i64 v6), (25, .bool (decide ((ix x0 v6) ≠ (ix x1 v6))))] τ) _
   refine RW.nil ?_
   refine CW.cond_dec (p := (ix x0 v6) ≠ (ix x1 v6)) rfl (fun hc14 => ?_) (fun hc14 => ?_)
   ·
    replace hm := And.left hm hc14
    refine CW.seq <| CW.region <| RW.st (Ex.assign (.bool false) rfl) rfl <| RW.nil <| CW.ret ?_
    refine blockQ_ret (thenQ_ret (thenQ_ret (blockQ_ret (thenQ_ret ?_))))
    refine end_tmp (.inl rfl) rfl (.bool false) rfl ?_
    exact ⟨_, _, hM, false, hm, rfl, rfl⟩
   ·
    replace hm := And.right hm hc14
    refine CW.skip <| CW.region <| RW.st (Ex.move (.int .i64 v6) rfl) rfl ?_
    obtain ⟨hg15, hm⟩ := hm
    refine RW.st (Ex.add rfl rfl hg15.1 hg15.2) rfl <| RW.st (Ex.assign (.int .i64 (v6 + 1)) rfl) rfl <| RW.nil ?_
    exact And.intro rfl ⟨k7, ⟨v6 + 1, Hk4, hle5.trans (Hp.le.refl _), sl_canon ⟨rfl, rfl, rfl, trivial⟩, hM, (by rw [hrec8]; exact hm)⟩, Nat.lt_succ_self _⟩
  ·
   replace hm := And.right hm hc9
   refine CW.exit ?_
   refine CW.seq <| CW.region <| RW.st (Ex.assign (.bool true) rfl) rfl <| RW.nil <| CW.ret ?_
   refine end_tmp (.inl rfl) rfl (.bool true) rfl ?_
   exact ⟨_, _, hM, true, hm, rfl, rfl⟩
theorem ref03_SameSectors_lift {H : Hp} (x0 : List Sec) (x1 : List Sec) {A1 : Option Addr} {n1 c1 : Nat} {s1 : List Value} (hF1 : Fz (α := Sec) H A1 n1 c1 x0 s1) {A2 : Option Addr} {n2 c2 : Nat} {s2 : List Value} (hF2 : Fz (α := Sec) H A2 n2 c2 x1 s2) {Φ : Bool → Prop} (hm : ref03_SameSectors_W x0 x1 Φ) : RetP Tryd.prog 108 #[.slice A1 n1 c1, .slice A2 n2 c2] H (fun _ v L => ∃ y, Φ y ∧ v = .bool y ∧ L = []) := by
 refine RetP.of_code Tryd.func108 rfl (Nat.le_of_ble_eq_true rfl) fun w0 hM => ?_
 refine CW.seq <| CW.region <| RW.st (Ex.assign (.bool false) rfl) rfl <| RW.nil <| CW.seq <| CW.seq <| CW.region <| RW.st (Ex.move (.slice A1 n1 c1) rfl) rfl <| RW.st (Ex.lenN st61.1 rfl hF1.hn) rfl <| RW.st (Ex.move (.slice A2 n2 c2) rfl) rfl <| RW.st (Ex.lenN st61.1 rfl hF2.hn) rfl <| RW.st (Ex.neq rfl rfl) rfl <| RW.nil ?_
 refine CW.cond_dec (p := (x0.length : Int) ≠ (x1.length : Int)) rfl (fun hc3 => ?_) (fun hc3 => ?_)
 ·
  replace hm := And.left hm hc3
  refine CW.seq <| CW.region <| RW.st (Ex.assign (.bool false) rfl) rfl <| RW.nil <| CW.ret ?_
  refine thenQ_ret ?_
  refine end_tmp (.inl rfl) rfl (.bool false) rfl ?_
  exact ⟨_, _, hM, false, hm, rfl, rfl⟩
 ·
  replace hm := And.right hm hc3
  refine CW.skip <| CW.seq <| CW.seq <| CW.region <| RW.st (Ex.assign (.int .i64 0) rfl) rfl <| RW.nil <| CW.block ?_
  obtain ⟨m16, hm⟩ := hm
  skip
  refine CW.loop (β := Nat) (fun n σ w => ∃ (v6 : Int), ∃ Hk4, H.le Hk4 ∧ (∃ τ, σ = sl [(0, .slice A1 n1 c1), (1, .slice A2 n2 c2), (5, .int .i64 v6)] τ) ∧ Mem w0 H w Hk4 [] ∧ LoopN (ref03_SameSectors_L1 x0 x1 Φ) n (v6)) (fun n => n) m16 ⟨0, H, (Hp.le.refl _), sl_canon ⟨rfl, rfl, rfl, trivial⟩, hM, hm⟩ ?_
  rintro k7 _ w ⟨v6, Hk4, hle5, ⟨τ, rfl⟩, hM, hm⟩
  obtain _ | k7 := k7
  · exact hm.elim
  replace hm : (ref03_SameSectors_L1 x0 x1 Φ) (v6) (LoopN (ref03_SameSectors_L1 x0 x1 Φ) k7) := hm
  generalize hrec8 : LoopN (ref03_SameSectors_L1 x0 x1 Φ) k7 = rec1 at hm
  refine CW.seq <| CW.seq <| CW.region <| RW.st (Ex.move (.int .i64 v6) rfl) rfl <| RW.st (Ex.move (.slice A1 n1 c1) rfl) rfl <| RW.st (Ex.lenN st61.1 rfl hF1.hn) rfl <| RW.st (Ex.lss rfl rfl) rfl <| RW.nil ?_
  refine CW.cond_dec (p := v6 < (x0.length : Int)) rfl (fun hc9 => ?_) (fun hc9 => ?_)
  ·
   replace hm := And.left hm hc9
   refine CW.skip <| CW.seq <| CW.block <| CW.seq ?_
   obtain ⟨hg10, hm⟩ := hm
   obtain ⟨_, rfl, hx11⟩ := DtL.getI (α := Sec) (hF1.mono hle5).dat hg10
   obtain ⟨hg12, hm⟩ := hm
   obtain ⟨_, rfl, hx13⟩ := DtL.getI (α := Sec) (hF2.mono hle5).dat hg12
   refine CW.drawE 9 [.slice A1 n1 c1, .int .i64 v6, elp A1 (v6.toNat * 8 + 0), .agg #[u8 (ix x0 v6).b0, u8 (ix x0 v6).b1, u8 (ix x0 v6).b2, u8 (ix x0 v6).b3, u8 (ix x0 v6).b4, u8 (ix x0 v6).b5, u8 (ix x0 v6).b6, u8 (ix x0 v6).b7], .slice A2 n2 c2, .int .i64 v6, elp A2 (v6.toNat * 8 + 0), .agg #[u8 (ix x1 v6).b0, u8 (ix x1 v6).b1, u8 (ix x1 v6).b2, u8 (ix x1 v6).b3, u8 (ix x1 v6).b4, u8 (ix x1 v6).b5, u8 (ix x1 v6).b6, u8 (ix x1 v6).b7], .bool (decide ((ix x0 v6) ≠ (ix x1 v6)))]
    [[(0, none)], [(5, none)], [(17, some 0), (18, some 1)], [(19, some 2)], [(1, none)], [(5, none)], [(21, some 4), (22, some 5)], [(23, some 6)], [(20, some 3), (24, some 7)]] [(0, none), (1, none), (5, none), (25, some 8)] (by kernel_rfl) hM (by kernel_rfl) ⟨?_, ?_, ?_, ?_, ?_, ?_, ?_, ?_, ?_, trivial⟩ ?_
   · exact One.ex (fun H' τ w hled hM => Ex.move (.slice A1 n1 c1) rfl) rfl (fun _ => rfl) rfl
   · exact One.ex (fun H' τ w hled hM => Ex.move (.int .i64 v6) rfl) rfl (fun _ => rfl) rfl
   · exact One.ex (fun H' τ w hled hM => Ex.index st61 rfl rfl v6.toNat (hF1.ne hg10) hg10.nat (hF1.lt hg10)) rfl (fun _ => rfl) rfl
   · exact One.ex (fun H' τ w hled hM => Ex.loadEA hM (hle5.trans hled) hF1.rdc [u8 (ix x0 v6).b0, u8 (ix x0 v6).b1, u8 (ix x0 v6).b2, u8 (ix x0 v6).b3, u8 (ix x0 v6).b4, u8 (ix x0 v6).b5, u8 (ix x0 v6).b6, u8 (ix x0 v6).b7] ta71 rfl (hF1.ne hg10) rfl (chunk_sub (off := 0) (n := 8) hx11 rfl)) rfl (fun _ => rfl) rfl
   · exact One.ex (fun H' τ w hled hM => Ex.move (.slice A2 n2 c2) rfl) rfl (fun _ => rfl) rfl
   · exact One.ex (fun H' τ w hled hM => Ex.move (.int .i64 v6) rfl) rfl (fun _ => rfl) rfl
   · exact One.ex (fun H' τ w hled hM => Ex.index st61 rfl rfl v6.toNat (hF2.ne hg12) hg12.nat (hF2.lt hg12)) rfl (fun _ => rfl) rfl
   · exact One.ex (fun H' τ w hled hM => Ex.loadEA hM (hle5.trans hled) hF2.rdc [u8 (ix x1 v6).b0, u8 (ix x1 v6).b1, u8 (ix x1 v6).b2, u8 (ix x1 v6).b3, u8 (ix x1 v6).b4, u8 (ix x1 v6).b5, u8 (ix x1 v6).b6, u8 (ix x1 v6).b7] ta71 rfl (hF2.ne hg12) rfl (chunk_sub (off := 0) (n := 8) hx13 rfl)) rfl (fun _ => rfl) rfl
   · exact One.ex (fun H' τ w hled hM => Ex.neqX (a := (ix x0 v6)) (b := (ix x1 v6)) sx71 rfl rfl) rfl (fun _ => rfl) rfl
   intro τ w hM
   change RW _ _ _ _ _ _ _ _ (sl [(0, .slice A1 n1 c1), (1, .slice A2 n2 c2), (5, .int .i64 v6), (25, .bool (decide ((ix x0 v6) ≠ (ix x1 v6))))] τ) _
   refine RW.nil ?_
   refine CW.cond_dec (p := (ix x0 v6) ≠ (ix x1 v6)) rfl (fun hc14 => ?_) (fun hc14 => ?_)
   ·
    replace hm := And.left hm hc14
    refine CW.seq <| CW.region <| RW.st (Ex.assign (.bool false) rfl) rfl <| RW.nil <| CW.ret ?_
    refine blockQ_ret (thenQ_ret (thenQ_ret (blockQ_ret (thenQ_ret ?_))))
    refine end_tmp (.inl rfl) rfl (.bool false) rfl ?_
    exact ⟨_, _, hM, false, hm, rfl, rfl⟩
   ·
    replace hm := And.right hm hc14
    refine CW.skip <| CW.region <| RW.st (Ex.move (.int .i64 v6) rfl) rfl ?_
    obtain ⟨hg15, hm⟩ := hm
    refine RW.st (Ex.add rfl rfl hg15.1 hg15.2) rfl <| RW.st (Ex.assign (.int .i64 (v6 + 1)) rfl) rfl <| RW.nil ?_
    exact And.intro rfl ⟨k7, ⟨v6 + 1, Hk4, hle5.trans (Hp.le.refl _), sl_canon ⟨rfl, rfl, rfl, trivial⟩, hM, (by rw [hrec8]; exact hm)⟩, Nat.lt_succ_self _⟩
  ·
   replace hm := And.right hm hc9
   refine CW.exit ?_
   refine CW.seq <| CW.region <| RW.st (Ex.assign (.bool true) rfl) rfl <| RW.nil <| CW.ret ?_
   refine end_tmp (.inl rfl) rfl (.bool true) rfl ?_
   exact ⟨_, _, hM, true, hm, rfl, rfl⟩
end Go.Proofs.YtahlanamngfkcaaDoor

namespace Go.Proofs.YtahlanamngfkcaaDoor
open Go.RowKit
theorem ref47_SameExtents_lift {H : Hp} (x0 : List (List api_Extent)) (x1 : List (List api_Extent)) {A1 : Option Addr} {n1 c1 : Nat} {s1 : List Value} (hF1 : Fz (α := List api_Extent) H A1 n1 c1 x0 s1) {A2 : Option Addr} {n2 c2 : Nat} {s2 : List Value} (hF2 : Fz (α := List api_Extent) H A2 n2 c2 x1 s2) {Φ : Bool → Prop} (hm : ref47_SameExtents_W x0 x1 Φ) : RetP Tryd.prog 16 #[.slice A1 n1 c1, .slice A2 n2 c2] H (fun _ v L => ∃ y, Φ y ∧ v = .bool y ∧ L = []) := by
 refine RetP.of_code Tryd.func16 rfl (Nat.le_of_ble_eq_true rfl) fun w0 hM => ?_
 refine CW.seq <| CW.region <| RW.st (Ex.assign (.bool false) rfl) rfl <| RW.nil <| CW.seq <| CW.seq <| CW.region <| RW.st (Ex.move (.slice A1 n1 c1) rfl) rfl <| RW.st (Ex.lenN st30.1 rfl hF1.hn) rfl <| RW.st (Ex.move (.slice A2 n2 c2) rfl) rfl <| RW.st (Ex.lenN st30.1 rfl hF2.hn) rfl <| RW.st (Ex.neq rfl rfl) rfl <| RW.nil ?_
 refine CW.cond_dec (p := (x0.length : Int) ≠ (x1.length : Int)) rfl (fun hc3 => ?_) (fun hc3 => ?_)
 ·
  replace hm := And.left hm hc3
  refine CW.seq <| CW.region <| RW.st (Ex.assign (.bool false) rfl) rfl <| RW.nil <| CW.ret ?_
  refine thenQ_ret ?_
  refine end_tmp (.inl rfl) rfl (.bool false) rfl ?_
  exact ⟨_, _, hM, false, hm, rfl, rfl⟩
 ·
  replace hm := And.right hm hc3
  refine CW.skip <| CW.seq <| CW.seq <| CW.region <| RW.st (Ex.assign (.int .i64 0) rfl) rfl <| RW.nil <| CW.block ?_
  obtain ⟨m20, hm⟩ := hm
  skip
  refine CW.loop (β := Nat) (fun n σ w => ∃ (v6 : Int), ∃ Hk4, H.le Hk4 ∧ (∃ τ, σ = sl [(0, .slice A1 n1 c1), (1, .slice A2 n2 c2), (5, .int .i64 v6)] τ) ∧ Mem w0 H w Hk4 [] ∧ LoopN (ref47_SameExtents_L1 x0 x1 Φ) n (v6)) (fun n => n) m20 ⟨0, H, (Hp.le.refl _), sl_canon ⟨rfl, rfl, rfl, trivial⟩, hM, hm⟩ ?_
  rintro k7 _ w ⟨v6, Hk4, hle5, ⟨τ, rfl⟩, hM, hm⟩
  obtain _ | k7 := k7
  · exact hm.elim
  replace hm : (ref47_SameExtents_L1 x0 x1 Φ) (v6) (LoopN (ref47_SameExtents_L1 x0 x1 Φ) k7) := hm
  generalize hrec8 : LoopN (ref47_SameExtents_L1 x0 x1 Φ) k7 = rec1 at hm
  refine CW.seq <| CW.seq <| CW.region <| RW.st (Ex.move (.int .i64 v6) rfl) rfl <| RW.st (Ex.move (.slice A1 n1 c1) rfl) rfl <| RW.st (Ex.lenN st30.1 rfl hF1.hn) rfl <| RW.st (Ex.lss rfl rfl) rfl <| RW.nil ?_
  refine CW.cond_dec (p := v6 < (x0.length : Int)) rfl (fun hc9 => ?_) (fun hc9 => ?_)
  ·
   replace hm := And.left hm hc9
   refine CW.skip <| CW.seq <| CW.block <| CW.seq ?_
   obtain ⟨hg10, hm⟩ := hm
   obtain ⟨_, ⟨A11, n11, c11, s11, rfl, hF11⟩, hx12⟩ := DtL.getI (α := List api_Extent) (hF1.mono hle5).dat hg10
   obtain ⟨hg13, hm⟩ := hm
   obtain ⟨_, ⟨A14, n14, c14, s14, rfl, hF14⟩, hx15⟩ := DtL.getI (α := List api_Extent) (hF2.mono hle5).dat hg13
   obtain ⟨v16, hW17, hm⟩ := hm
   refine CW.drawE 10 [.slice A1 n1 c1, .int .i64 v6, elp A1 (v6.toNat * 1 + 0), .slice A11 n11 c11, .slice A2 n2 c2, .int .i64 v6, elp A2 (v6.toNat * 1 + 0), .slice A14 n14 c14, .bool v16, .bool (decide (¬ (v16 = true)))]
    [[(0, none)], [(5, none)], [(17, some 0), (18, some 1)], [(19, some 2)], [(1, none)], [(5, none)], [(21, some 4), (22, some 5)], [(23, some 6)], [(20, some 3), (24, some 7)], [(25, some 8)]] [(0, none), (1, none), (5, none), (26, some 9)] (by kernel_rfl) hM (by kernel_rfl) ⟨?_, ?_, ?_, ?_, ?_, ?_, ?_, ?_, ?_, ?_, trivial⟩ ?_
   · exact One.ex (fun H' τ w hled hM => Ex.move (.slice A1 n1 c1) rfl) rfl (fun _ => rfl) rfl
   · exact One.ex (fun H' τ w hled hM => Ex.move (.int .i64 v6) rfl) rfl (fun _ => rfl) rfl
   · exact One.ex (fun H' τ w hled hM => Ex.index st30 rfl rfl v6.toNat (hF1.ne hg10) hg10.nat (hF1.lt hg10)) rfl (fun _ => rfl) rfl
   · exact One.ex (fun H' τ w hled hM => Ex.loadE hM (hle5.trans hled) hF1.rdc to68 rfl (hx12 0 _ rfl)) rfl (fun _ => rfl) rfl
   · exact One.ex (fun H' τ w hled hM => Ex.move (.slice A2 n2 c2) rfl) rfl (fun _ => rfl) rfl
   · exact One.ex (fun H' τ w hled hM => Ex.move (.int .i64 v6) rfl) rfl (fun _ => rfl) rfl
   · exact One.ex (fun H' τ w hled hM => Ex.index st30 rfl rfl v6.toNat (hF2.ne hg13) hg13.nat (hF2.lt hg13)) rfl (fun _ => rfl) rfl
   · exact One.ex (fun H' τ w hled hM => Ex.loadE hM (hle5.trans hled) hF2.rdc to68 rfl (hx15 0 _ rfl)) rfl (fun _ => rfl) rfl
   · exact One.call (ref02_SameExtents_lift (ix x0 v6) (ix x1 v6) hF11 hF14 hW17).toV en49 (fun _ => rfl) (fun _ => rfl) (fun _ => rfl) rfl
   · exact One.ex (fun H' τ w hled hM => Ex.not (p := v16 = true) (bvar _)) rfl (fun _ => rfl) rfl
   intro τ w hM
   change RW _ _ _ _ _ _ _ _ (sl [(0, .slice A1 n1 c1), (1, .slice A2 n2 c2), (5, .int .i64 v6), (26, .bool (decide (¬ (v16 = true))))] τ) _
   refine RW.nil ?_
   refine CW.cond_dec (p := ¬ (v16 = true)) rfl (fun hc18 => ?_) (fun hc18 => ?_)
   ·
    replace hm := And.left hm hc18
    refine CW.seq <| CW.region <| RW.st (Ex.assign (.bool false) rfl) rfl <| RW.nil <| CW.ret ?_
    refine blockQ_ret (thenQ_ret (thenQ_ret (blockQ_ret (thenQ_ret ?_))))
    refine end_tmp (.inl rfl) rfl (.bool false) rfl ?_
    exact ⟨_, _, hM, false, hm, rfl, rfl⟩
   ·
    replace hm := And.right hm hc18
    refine CW.skip <| CW.region <| RW.st (Ex.move (.int .i64 v6) rfl) rfl ?_
    obtain ⟨hg19, hm⟩ := hm
    refine RW.st (Ex.add rfl rfl hg19.1 hg19.2) rfl <| RW.st (Ex.assign (.int .i64 (v6 + 1)) rfl) rfl <| RW.nil ?_
    exact And.intro rfl ⟨k7, ⟨v6 + 1, Hk4, hle5.trans (Hp.le.refl _), sl_canon ⟨rfl, rfl, rfl, trivial⟩, hM, (by rw [hrec8]; exact hm)⟩, Nat.lt_succ_self _⟩
  ·
   replace hm := And.right hm hc9
   refine CW.exit ?_
   refine CW.seq <| CW.region <| RW.st (Ex.assign (.bool true) rfl) rfl <| RW.nil <| CW.ret ?_
   refine end_tmp (.inl rfl) rfl (.bool true) rfl ?_
   exact ⟨_, _, hM, true, hm, rfl, rfl⟩
theorem ref46_Ancestor_lift {H : Hp} (x0 : List api_Span) (x1 : List api_Span) {A1 : Option Addr} {n1 c1 : Nat} {s1 : List Value} (hF1 : Fz (α := api_Span) H A1 n1 c1 x0 s1) {A2 : Option Addr} {n2 c2 : Nat} {s2 : List Value} (hF2 : Fz (α := api_Span) H A2 n2 c2 x1 s2) {Φ : Int × Int → Prop} (hm : ref46_Ancestor_W x0 x1 Φ) : RetP Tryd.prog 54 #[.slice A1 n1 c1, .slice A2 n2 c2] H (fun _ v L => ∃ y, Φ y ∧ v = .tuple #[.int .i64 (y.1), .int .i64 (y.2)] ∧ L = []) := by
 refine RetP.of_code Tryd.func54 rfl (Nat.le_of_ble_eq_true rfl) fun w0 hM => ?_
 refine CW.seq <| CW.region <| RW.st (Ex.assign (.int .i64 0) rfl) rfl <| RW.st (Ex.assign (.int .i64 0) rfl) rfl <| RW.nil <| CW.seq <| CW.region <| RW.st (Ex.assign (.int .i64 0) rfl) rfl <| RW.st (Ex.assign (.int .i64 0) rfl) rfl <| RW.nil ?_
 refine CW.cut (fun D σ w => D = [] ∧ ∃ Hk3, H.le Hk3 ∧ (∃ τ, σ = sl [(0, .slice A1 n1 c1), (1, .slice A2 n2 c2), (6, .int .i64 0), (7, .int .i64 0)] τ) ∧ Mem w0 H w Hk3 [] ∧ ref46_Ancestor_J1 x0 x1 Φ) ?_ ?_
 ·
  refine CW.seq <| CW.region <| RW.st (Ex.move (.slice A1 n1 c1) rfl) rfl ?_
  refine RW.callP hM (ref46_Lineage_lift x0 hF1 hm) en96 rfl rfl rfl rfl ?_; rintro _ w H65 _ hle66 ⟨v64, hm, rfl, rfl⟩ hM
  replace hM : Mem w0 H w H65 [] := hM
  refine RW.st (Ex.not (p := v64 = true) (bvar _)) rfl <| RW.st (Ex.move (.bool (decide (¬ (v64 = true)))) rfl) rfl ?_
  refine RW.split 12 (p := ¬ (v64 = true)) rfl (fun hc67 => ?_) (fun hc67 => ?_)
  ·
   replace hm := And.left hm hc67
   refine RW.pass rfl rfl <| RW.pass rfl rfl <| RW.pass rfl rfl <| RW.st (Ex.pickT (.bool true) rfl rfl) rfl <| RW.nil <| CW.cond_true rfl <| CW.seq <| CW.region <| RW.st (Ex.assign (.int .i64 0) rfl) rfl <| RW.st (Ex.assign (.int .i64 0) rfl) rfl <| RW.nil <| CW.ret ?_
   refine thenQ_ret ?_
   refine end_tmp2 (.inl rfl) rfl (.int .i64 0) (.int .i64 0) rfl rfl ?_
   exact ⟨_, _, hM, (0, 0), hm, rfl, rfl⟩
  ·
   replace hm := And.right hm hc67
   refine RW.st (Ex.move (.slice A2 n2 c2) rfl) rfl ?_
   refine RW.callP hM (ref46_Lineage_lift x1 (hF2.mono hle66) hm) en96 rfl rfl rfl rfl ?_; rintro _ w H69 _ hle70 ⟨v68, hm, rfl, rfl⟩ hM
   replace hM : Mem w0 H w H69 [] := hM
   refine RW.st (Ex.not (p := v68 = true) (bvar _)) rfl <| RW.st (Ex.pickF (.bool (decide (¬ (v68 = true)))) rfl rfl) rfl <| RW.nil ?_
   refine CW.cond_dec (p := ¬ (v68 = true)) rfl (fun hc71 => ?_) (fun hc71 => ?_)
   ·
    replace hm := And.left hm hc71
    refine CW.seq <| CW.region <| RW.st (Ex.assign (.int .i64 0) rfl) rfl <| RW.st (Ex.assign (.int .i64 0) rfl) rfl <| RW.nil <| CW.ret ?_
    refine thenQ_ret ?_
    refine end_tmp2 (.inl rfl) rfl (.int .i64 0) (.int .i64 0) rfl rfl ?_
    exact ⟨_, _, hM, (0, 0), hm, rfl, rfl⟩
   ·
    replace hm := And.right hm hc71
    refine CW.skip ?_
    exact And.intro rfl ⟨H69, (hle66.trans hle70), sl_canon ⟨rfl, rfl, rfl, rfl, trivial⟩, hM, hm⟩
 rintro _ _ w ⟨rfl, Hk3, hle4, ⟨τ, rfl⟩, hM, hm⟩
 refine CW.seq <| CW.seq <| CW.region <| RW.st (Ex.assign (.int .i64 0) rfl) rfl <| RW.nil <| CW.block ?_
 obtain ⟨m59, hm⟩ := hm
 skip
 refine CW.loop (β := Nat) (fun n σ w => ∃ (v7 : Int), ∃ (v8 : Int), ∃ (v9 : Int), ∃ Hk5, Hk3.le Hk5 ∧ (∃ τ, σ = sl [(0, .slice A1 n1 c1), (1, .slice A2 n2 c2), (6, .int .i64 v7), (7, .int .i64 v8), (8, .int .i64 v9)] τ) ∧ Mem w0 H w Hk5 [] ∧ LoopN (ref46_Ancestor_L2 x0 x1 Φ) n (v7, v8, v9)) (fun n => n) m59 ⟨0, 0, 0, Hk3, (Hp.le.refl _), sl_canon ⟨rfl, rfl, rfl, rfl, rfl, trivial⟩, hM, hm⟩ ?_
 rintro k10 _ w ⟨v7, v8, v9, Hk5, hle6, ⟨τ, rfl⟩, hM, hm⟩
 obtain _ | k10 := k10
 · exact hm.elim
 replace hm : (ref46_Ancestor_L2 x0 x1 Φ) (v7, v8, v9) (LoopN (ref46_Ancestor_L2 x0 x1 Φ) k10) := hm
 generalize hrec11 : LoopN (ref46_Ancestor_L2 x0 x1 Φ) k10 = rec2 at hm
 refine CW.seq ?_
 skip
 refine CW.cut (fun D σ w => D = [] ∧ (∃ τ, σ = sl [(0, .slice A1 n1 c1), (1, .slice A2 n2 c2), (6, .int .i64 v7), (7, .int .i64 v8), (8, .int .i64 v9), (26, .bool (decide ((v9 < (x0.length : Int)) ∧ (v9 < (x1.length : Int)))))] τ) ∧ Mem w0 H w Hk5 []) ?_ ?_
 ·
  skip
  refine CW.region <| RW.st (Ex.move (.int .i64 v9) rfl) rfl <| RW.st (Ex.move (.slice A1 n1 c1) rfl) rfl <| RW.st (Ex.lenN st22.1 rfl hF1.hn) rfl <| RW.st (Ex.lss rfl rfl) rfl <| RW.st (Ex.move (.bool (decide (v9 < (x0.length : Int)))) rfl) rfl ?_
  refine RW.split 21 (p := v9 < (x0.length : Int)) rfl (fun hc12 => ?_) (fun hc12 => ?_)
  ·
   skip
   refine RW.st (Ex.move (.int .i64 v9) rfl) rfl <| RW.st (Ex.move (.slice A2 n2 c2) rfl) rfl <| RW.st (Ex.lenN st22.1 rfl hF2.hn) rfl <| RW.st (Ex.lss rfl rfl) rfl <| RW.st (Ex.pickT (.bool (decide (v9 < (x1.length : Int)))) rfl rfl) rfl <| RW.nil ?_
   exact And.intro rfl (And.intro (sl_canon ⟨rfl, rfl, rfl, rfl, rfl, (congrArg Value.bool (decide_eq_decide.2 (imAnd hc12 Iff.rfl))), trivial⟩) hM)
  ·
   skip
   refine RW.pass rfl rfl <| RW.pass rfl rfl <| RW.pass rfl rfl <| RW.pass rfl rfl <| RW.st (Ex.pickF (.bool false) rfl rfl) rfl <| RW.nil ?_
   exact And.intro rfl (And.intro (sl_canon ⟨rfl, rfl, rfl, rfl, rfl, (congrArg Value.bool (decide_eq_false (fun q => hc12 q.1)).symm), trivial⟩) hM)
 rintro _ _ w ⟨rfl, ⟨τ, rfl⟩, hM⟩
 refine CW.cond_dec (p := (v9 < (x0.length : Int)) ∧ (v9 < (x1.length : Int))) rfl (fun hc13 => ?_) (fun hc13 => ?_)
 ·
  replace hm := And.left hm hc13
  refine CW.skip <| CW.seq <| CW.block <| CW.seq <| CW.seq ?_
  obtain ⟨hg14, hm⟩ := hm
  obtain ⟨_, rfl, hx15⟩ := DtL.getI (α := api_Span) (hF1.mono (hle4.trans hle6)).dat hg14
  obtain ⟨hg16, hm⟩ := hm
  obtain ⟨_, rfl, hx17⟩ := DtL.getI (α := api_Span) (hF2.mono (hle4.trans hle6)).dat hg16
  refine CW.drawE 11 [.slice A1 n1 c1, .int .i64 v9, elp A1 (v9.toNat * 3 + 0), elp A1 (v9.toNat * 3 + 0), .int .i64 ((ix x0 v9).Epoch), .slice A2 n2 c2, .int .i64 v9, elp A2 (v9.toNat * 3 + 0), elp A2 (v9.toNat * 3 + 0), .int .i64 ((ix x1 v9).Epoch), .bool (decide (((ix x0 v9).Epoch) ≠ ((ix x1 v9).Epoch)))]
   [[(0, none)], [(8, none)], [(29, some 0), (30, some 1)], [(31, some 2)], [(32, some 3)], [(1, none)], [(8, none)], [(34, some 5), (35, some 6)], [(36, some 7)], [(37, some 8)], [(33, some 4), (38, some 9)]] [(0, none), (1, none), (6, none), (7, none), (8, none), (39, some 10)] (by kernel_rfl) hM (by kernel_rfl) ⟨?_, ?_, ?_, ?_, ?_, ?_, ?_, ?_, ?_, ?_, ?_, trivial⟩ ?_
  · exact One.ex (fun H' τ w hled hM => Ex.move (.slice A1 n1 c1) rfl) rfl (fun _ => rfl) rfl
  · exact One.ex (fun H' τ w hled hM => Ex.move (.int .i64 v9) rfl) rfl (fun _ => rfl) rfl
  · exact One.ex (fun H' τ w hled hM => Ex.index st22 rfl rfl v9.toNat (hF1.ne hg14) hg14.nat (hF1.lt hg14)) rfl (fun _ => rfl) rfl
  · exact One.ex (fun H' τ w hled hM => Ex.fieldE fa98_0 (hF1.ne hg14) rfl) rfl (fun _ => rfl) rfl
  · exact One.ex (fun H' τ w hled hM => Ex.loadE hM ((hle4.trans hle6).trans hled) hF1.rdc to3 rfl (hx15 0 _ rfl)) rfl (fun _ => rfl) rfl
  · exact One.ex (fun H' τ w hled hM => Ex.move (.slice A2 n2 c2) rfl) rfl (fun _ => rfl) rfl
  · exact One.ex (fun H' τ w hled hM => Ex.move (.int .i64 v9) rfl) rfl (fun _ => rfl) rfl
  · exact One.ex (fun H' τ w hled hM => Ex.index st22 rfl rfl v9.toNat (hF2.ne hg16) hg16.nat (hF2.lt hg16)) rfl (fun _ => rfl) rfl
  · exact One.ex (fun H' τ w hled hM => Ex.fieldE fa98_0 (hF2.ne hg16) rfl) rfl (fun _ => rfl) rfl
  · exact One.ex (fun H' τ w hled hM => Ex.loadE hM ((hle4.trans hle6).trans hled) hF2.rdc to3 rfl (hx17 0 _ rfl)) rfl (fun _ => rfl) rfl
  · exact One.ex (fun H' τ w hled hM => Ex.neq rfl rfl) rfl (fun _ => rfl) rfl
  intro τ w hM
  change RW _ _ _ _ _ _ _ _ (sl [(0, .slice A1 n1 c1), (1, .slice A2 n2 c2), (6, .int .i64 v7), (7, .int .i64 v8), (8, .int .i64 v9), (39, .bool (decide (((ix x0 v9).Epoch) ≠ ((ix x1 v9).Epoch))))] τ) _
  refine RW.nil ?_
  refine CW.cond_dec (p := ((ix x0 v9).Epoch) ≠ ((ix x1 v9).Epoch)) rfl (fun hc18 => ?_) (fun hc18 => ?_)
  ·
   replace hm := And.left hm hc18
   refine CW.seq <| CW.region <| RW.st (Ex.move (.int .i64 v7) rfl) rfl <| RW.st (Ex.move (.int .i64 v8) rfl) rfl <| RW.st (Ex.assign (.int .i64 v7) rfl) rfl <| RW.st (Ex.assign (.int .i64 v8) rfl) rfl <| RW.nil <| CW.ret ?_
   refine thenQ_ret (blockQ_ret (thenQ_ret (thenQ_ret (blockQ_ret (thenQ_ret ?_)))))
   refine end_tmp2 (.inl rfl) rfl (.int .i64 v7) (.int .i64 v8) rfl rfl ?_
   exact ⟨_, _, hM, (v7, v8), hm, rfl, rfl⟩
  ·
   replace hm := And.right hm hc18
   refine CW.skip <| CW.seq ?_
   refine CW.drawL 18 [] [(fun Hq us E => us = [.slice A1 n1 c1] ∧ E = [] ∧ True), (fun Hq us E => us = [.int .i64 v9] ∧ E = [] ∧ True), (fun Hq us E => us = [elp A1 (v9.toNat * 3 + 0)] ∧ E = [] ∧ True), (fun Hq us E => us = [elp A1 (v9.toNat * 3 + 2)] ∧ E = [] ∧ True), (fun Hq us E => us = [.int .i64 ((ix x0 v9).To)] ∧ E = [] ∧ True), (fun Hq us E => us = [.slice A2 n2 c2] ∧ E = [] ∧ True), (fun Hq us E => us = [.int .i64 v9] ∧ E = [] ∧ True), (fun Hq us E => us = [elp A2 (v9.toNat * 3 + 0)] ∧ E = [] ∧ True), (fun Hq us E => us = [elp A2 (v9.toNat * 3 + 2)] ∧ E = [] ∧ True), (fun Hq us E => us = [.int .i64 ((ix x1 v9).To)] ∧ E = [] ∧ True), (fun Hq us E => us = [.int .i64 (if ((ix x1 v9).To) < ((ix x0 v9).To) then ((ix x1 v9).To) else ((ix x0 v9).To))] ∧ E = [] ∧ True), (fun Hq us E => us = [.slice A1 n1 c1] ∧ E = [] ∧ True), (fun Hq us E => us = [.int .i64 v9] ∧ E = [] ∧ True), (fun Hq us E => us = [elp A1 (v9.toNat * 3 + 0)] ∧ E = [] ∧ True), (fun Hq us E => us = [elp A1 (v9.toNat * 3 + 0)] ∧ E = [] ∧ True), (fun Hq us E => us = [.int .i64 ((ix x0 v9).Epoch)] ∧ E = [] ∧ True), (fun Hq us E => us = [.int .i64 (if ((ix x1 v9).To) < ((ix x0 v9).To) then ((ix x1 v9).To) else ((ix x0 v9).To))] ∧ E = [] ∧ True), (fun Hq us E => us = [.int .i64 ((ix x0 v9).Epoch)] ∧ E = [] ∧ True)]
    (fun k => [[0], [1], [2], [3], [4], [5], [6], [7], [8], [9], [10], [11], [12], [13], [14], [15], [16], [17]].getD k []) (fun _ => none) (by kernel_rfl) hM (by kernel_rfl) (by kernel_rfl) (by kernel_rfl) rfl (by simp only [List.forall_mem_cons]; exact ⟨fun _ _ _ _ hle ⟨e1, e2, _⟩ => ⟨e1, e2, trivial⟩, fun _ _ _ _ hle ⟨e1, e2, _⟩ => ⟨e1, e2, trivial⟩, fun _ _ _ _ hle ⟨e1, e2, _⟩ => ⟨e1, e2, trivial⟩, fun _ _ _ _ hle ⟨e1, e2, _⟩ => ⟨e1, e2, trivial⟩, fun _ _ _ _ hle ⟨e1, e2, _⟩ => ⟨e1, e2, trivial⟩, fun _ _ _ _ hle ⟨e1, e2, _⟩ => ⟨e1, e2, trivial⟩, fun _ _ _ _ hle ⟨e1, e2, _⟩ => ⟨e1, e2, trivial⟩, fun _ _ _ _ hle ⟨e1, e2, _⟩ => ⟨e1, e2, trivial⟩, fun _ _ _ _ hle ⟨e1, e2, _⟩ => ⟨e1, e2, trivial⟩, fun _ _ _ _ hle ⟨e1, e2, _⟩ => ⟨e1, e2, trivial⟩, fun _ _ _ _ hle ⟨e1, e2, _⟩ => ⟨e1, e2, trivial⟩, fun _ _ _ _ hle ⟨e1, e2, _⟩ => ⟨e1, e2, trivial⟩, fun _ _ _ _ hle ⟨e1, e2, _⟩ => ⟨e1, e2, trivial⟩, fun _ _ _ _ hle ⟨e1, e2, _⟩ => ⟨e1, e2, trivial⟩, fun _ _ _ _ hle ⟨e1, e2, _⟩ => ⟨e1, e2, trivial⟩, fun _ _ _ _ hle ⟨e1, e2, _⟩ => ⟨e1, e2, trivial⟩, fun _ _ _ _ hle ⟨e1, e2, _⟩ => ⟨e1, e2, trivial⟩, fun _ _ _ _ hle ⟨e1, e2, _⟩ => ⟨e1, e2, trivial⟩, by simp⟩) ⟨?_, ?_, ?_, ?_, ?_, ?_, ?_, ?_, ?_, ?_, ?_, ?_, ?_, ?_, ?_, ?_, ?_, ?_, trivial⟩ ?_
   ·
    intro H' σ' w R E hle hMR hE0 hE hp hf
    obtain rfl := hE0 rfl
    obtain ⟨τ, rfl⟩ := sl_canon (σ := σ') (l := [(0, .slice A1 n1 c1)]) ⟨(hf 0 (by kernel_rfl)).trans rfl, trivial⟩
    have hM := Mem.subR (R := R) hMR
    exact RW.step (Ex.move (.slice A1 n1 c1) rfl) rfl rfl rfl (RW.nil ⟨rfl, rfl, _, rfl, H', [], Hp.le.refl _, hMR, rfl, rfl, trivial⟩)
   ·
    intro H' σ' w R E hle hMR hE0 hE hp hf
    obtain rfl := hE0 rfl
    obtain ⟨τ, rfl⟩ := sl_canon (σ := σ') (l := [(8, .int .i64 v9)]) ⟨(hf 8 (by kernel_rfl)).trans rfl, trivial⟩
    have hM := Mem.subR (R := R) hMR
    exact RW.step (Ex.move (.int .i64 v9) rfl) rfl rfl rfl (RW.nil ⟨rfl, rfl, _, rfl, H', [], Hp.le.refl _, hMR, rfl, rfl, trivial⟩)
   ·
    intro H' σ' w R E hle hMR hE0 hE hp hf
    obtain rfl := hE0 rfl
    obtain ⟨_, hg⟩ := hp 0 (by decide) (by kernel_rfl)
    obtain ⟨e19, _, _⟩ := hg.get rfl
    have e20 : σ' 42 = .slice A1 n1 c1 := (List.cons.inj e19).1
    obtain ⟨_, hg⟩ := hp 1 (by decide) (by kernel_rfl)
    obtain ⟨e21, _, _⟩ := hg.get rfl
    have e22 : σ' 43 = .int .i64 v9 := (List.cons.inj e21).1
    obtain ⟨τ, rfl⟩ := sl_canon (σ := σ') (l := [(42, .slice A1 n1 c1), (43, .int .i64 v9)]) ⟨e20, e22, trivial⟩
    have hM := Mem.subR (R := R) hMR
    exact RW.step (Ex.index st22 rfl rfl v9.toNat (hF1.ne hg14) hg14.nat (hF1.lt hg14)) rfl rfl rfl (RW.nil ⟨rfl, rfl, _, rfl, H', [], Hp.le.refl _, hMR, rfl, rfl, trivial⟩)
   ·
    intro H' σ' w R E hle hMR hE0 hE hp hf
    obtain rfl := hE0 rfl
    obtain ⟨_, hg⟩ := hp 2 (by decide) (by kernel_rfl)
    obtain ⟨e23, _, _⟩ := hg.get rfl
    have e24 : σ' 44 = elp A1 (v9.toNat * 3 + 0) := (List.cons.inj e23).1
    obtain ⟨τ, rfl⟩ := sl_canon (σ := σ') (l := [(44, elp A1 (v9.toNat * 3 + 0))]) ⟨e24, trivial⟩
    have hM := Mem.subR (R := R) hMR
    exact RW.step (Ex.fieldE fa98_2 (hF1.ne hg14) rfl) rfl rfl rfl (RW.nil ⟨rfl, rfl, _, rfl, H', [], Hp.le.refl _, hMR, rfl, rfl, trivial⟩)
   ·
    intro H' σ' w R E hle hMR hE0 hE hp hf
    obtain rfl := hE0 rfl
    obtain ⟨_, hg⟩ := hp 3 (by decide) (by kernel_rfl)
    obtain ⟨e25, _, _⟩ := hg.get rfl
    have e26 : σ' 45 = elp A1 (v9.toNat * 3 + 2) := (List.cons.inj e25).1
    obtain ⟨τ, rfl⟩ := sl_canon (σ := σ') (l := [(45, elp A1 (v9.toNat * 3 + 2))]) ⟨e26, trivial⟩
    have hM := Mem.subR (R := R) hMR
    exact RW.step (Ex.loadE hM ((hle4.trans hle6).trans hle) hF1.rdc to3 rfl (hx15 2 _ rfl)) rfl rfl rfl (RW.nil ⟨rfl, rfl, _, rfl, H', [], Hp.le.refl _, hMR, rfl, rfl, trivial⟩)
   ·
    intro H' σ' w R E hle hMR hE0 hE hp hf
    obtain rfl := hE0 rfl
    obtain ⟨τ, rfl⟩ := sl_canon (σ := σ') (l := [(1, .slice A2 n2 c2)]) ⟨(hf 1 (by kernel_rfl)).trans rfl, trivial⟩
    have hM := Mem.subR (R := R) hMR
    exact RW.step (Ex.move (.slice A2 n2 c2) rfl) rfl rfl rfl (RW.nil ⟨rfl, rfl, _, rfl, H', [], Hp.le.refl _, hMR, rfl, rfl, trivial⟩)
   ·
    intro H' σ' w R E hle hMR hE0 hE hp hf
    obtain rfl := hE0 rfl
    obtain ⟨τ, rfl⟩ := sl_canon (σ := σ') (l := [(8, .int .i64 v9)]) ⟨(hf 8 (by kernel_rfl)).trans rfl, trivial⟩
    have hM := Mem.subR (R := R) hMR
    exact RW.step (Ex.move (.int .i64 v9) rfl) rfl rfl rfl (RW.nil ⟨rfl, rfl, _, rfl, H', [], Hp.le.refl _, hMR, rfl, rfl, trivial⟩)
   ·
    intro H' σ' w R E hle hMR hE0 hE hp hf
    obtain rfl := hE0 rfl
    obtain ⟨_, hg⟩ := hp 5 (by decide) (by kernel_rfl)
    obtain ⟨e27, _, _⟩ := hg.get rfl
    have e28 : σ' 47 = .slice A2 n2 c2 := (List.cons.inj e27).1
    obtain ⟨_, hg⟩ := hp 6 (by decide) (by kernel_rfl)
    obtain ⟨e29, _, _⟩ := hg.get rfl
    have e30 : σ' 48 = .int .i64 v9 := (List.cons.inj e29).1
    obtain ⟨τ, rfl⟩ := sl_canon (σ := σ') (l := [(47, .slice A2 n2 c2), (48, .int .i64 v9)]) ⟨e28, e30, trivial⟩
    have hM := Mem.subR (R := R) hMR
    exact RW.step (Ex.index st22 rfl rfl v9.toNat (hF2.ne hg16) hg16.nat (hF2.lt hg16)) rfl rfl rfl (RW.nil ⟨rfl, rfl, _, rfl, H', [], Hp.le.refl _, hMR, rfl, rfl, trivial⟩)
   ·
    intro H' σ' w R E hle hMR hE0 hE hp hf
    obtain rfl := hE0 rfl
    obtain ⟨_, hg⟩ := hp 7 (by decide) (by kernel_rfl)
    obtain ⟨e31, _, _⟩ := hg.get rfl
    have e32 : σ' 49 = elp A2 (v9.toNat * 3 + 0) := (List.cons.inj e31).1
    obtain ⟨τ, rfl⟩ := sl_canon (σ := σ') (l := [(49, elp A2 (v9.toNat * 3 + 0))]) ⟨e32, trivial⟩
    have hM := Mem.subR (R := R) hMR
    exact RW.step (Ex.fieldE fa98_2 (hF2.ne hg16) rfl) rfl rfl rfl (RW.nil ⟨rfl, rfl, _, rfl, H', [], Hp.le.refl _, hMR, rfl, rfl, trivial⟩)
   ·
    intro H' σ' w R E hle hMR hE0 hE hp hf
    obtain rfl := hE0 rfl
    obtain ⟨_, hg⟩ := hp 8 (by decide) (by kernel_rfl)
    obtain ⟨e33, _, _⟩ := hg.get rfl
    have e34 : σ' 50 = elp A2 (v9.toNat * 3 + 2) := (List.cons.inj e33).1
    obtain ⟨τ, rfl⟩ := sl_canon (σ := σ') (l := [(50, elp A2 (v9.toNat * 3 + 2))]) ⟨e34, trivial⟩
    have hM := Mem.subR (R := R) hMR
    exact RW.step (Ex.loadE hM ((hle4.trans hle6).trans hle) hF2.rdc to3 rfl (hx17 2 _ rfl)) rfl rfl rfl (RW.nil ⟨rfl, rfl, _, rfl, H', [], Hp.le.refl _, hMR, rfl, rfl, trivial⟩)
   ·
    intro H' σ' w R E hle hMR hE0 hE hp hf
    obtain rfl := hE0 rfl
    obtain ⟨_, hg⟩ := hp 4 (by decide) (by kernel_rfl)
    obtain ⟨e35, _, _⟩ := hg.get rfl
    have e36 : σ' 46 = .int .i64 ((ix x0 v9).To) := (List.cons.inj e35).1
    obtain ⟨_, hg⟩ := hp 9 (by decide) (by kernel_rfl)
    obtain ⟨e37, _, _⟩ := hg.get rfl
    have e38 : σ' 51 = .int .i64 ((ix x1 v9).To) := (List.cons.inj e37).1
    obtain ⟨τ, rfl⟩ := sl_canon (σ := σ') (l := [(46, .int .i64 ((ix x0 v9).To)), (51, .int .i64 ((ix x1 v9).To))]) ⟨e36, e38, trivial⟩
    have hM := Mem.subR (R := R) hMR
    exact RW.step (Ex.minI rfl rfl) rfl rfl rfl (RW.nil ⟨rfl, rfl, _, rfl, H', [], Hp.le.refl _, hMR, rfl, rfl, trivial⟩)
   ·
    intro H' σ' w R E hle hMR hE0 hE hp hf
    obtain rfl := hE0 rfl
    obtain ⟨τ, rfl⟩ := sl_canon (σ := σ') (l := [(0, .slice A1 n1 c1)]) ⟨(hf 0 (by kernel_rfl)).trans rfl, trivial⟩
    have hM := Mem.subR (R := R) hMR
    exact RW.step (Ex.move (.slice A1 n1 c1) rfl) rfl rfl rfl (RW.nil ⟨rfl, rfl, _, rfl, H', [], Hp.le.refl _, hMR, rfl, rfl, trivial⟩)
   ·
    intro H' σ' w R E hle hMR hE0 hE hp hf
    obtain rfl := hE0 rfl
    obtain ⟨τ, rfl⟩ := sl_canon (σ := σ') (l := [(8, .int .i64 v9)]) ⟨(hf 8 (by kernel_rfl)).trans rfl, trivial⟩
    have hM := Mem.subR (R := R) hMR
    exact RW.step (Ex.move (.int .i64 v9) rfl) rfl rfl rfl (RW.nil ⟨rfl, rfl, _, rfl, H', [], Hp.le.refl _, hMR, rfl, rfl, trivial⟩)
   ·
    intro H' σ' w R E hle hMR hE0 hE hp hf
    obtain rfl := hE0 rfl
    obtain ⟨_, hg⟩ := hp 11 (by decide) (by kernel_rfl)
    obtain ⟨e39, _, _⟩ := hg.get rfl
    have e40 : σ' 53 = .slice A1 n1 c1 := (List.cons.inj e39).1
    obtain ⟨_, hg⟩ := hp 12 (by decide) (by kernel_rfl)
    obtain ⟨e41, _, _⟩ := hg.get rfl
    have e42 : σ' 54 = .int .i64 v9 := (List.cons.inj e41).1
    obtain ⟨τ, rfl⟩ := sl_canon (σ := σ') (l := [(53, .slice A1 n1 c1), (54, .int .i64 v9)]) ⟨e40, e42, trivial⟩
    have hM := Mem.subR (R := R) hMR
    exact RW.step (Ex.index st22 rfl rfl v9.toNat (hF1.ne hg14) hg14.nat (hF1.lt hg14)) rfl rfl rfl (RW.nil ⟨rfl, rfl, _, rfl, H', [], Hp.le.refl _, hMR, rfl, rfl, trivial⟩)
   ·
    intro H' σ' w R E hle hMR hE0 hE hp hf
    obtain rfl := hE0 rfl
    obtain ⟨_, hg⟩ := hp 13 (by decide) (by kernel_rfl)
    obtain ⟨e43, _, _⟩ := hg.get rfl
    have e44 : σ' 55 = elp A1 (v9.toNat * 3 + 0) := (List.cons.inj e43).1
    obtain ⟨τ, rfl⟩ := sl_canon (σ := σ') (l := [(55, elp A1 (v9.toNat * 3 + 0))]) ⟨e44, trivial⟩
    have hM := Mem.subR (R := R) hMR
    exact RW.step (Ex.fieldE fa98_0 (hF1.ne hg14) rfl) rfl rfl rfl (RW.nil ⟨rfl, rfl, _, rfl, H', [], Hp.le.refl _, hMR, rfl, rfl, trivial⟩)
   ·
    intro H' σ' w R E hle hMR hE0 hE hp hf
    obtain rfl := hE0 rfl
    obtain ⟨_, hg⟩ := hp 14 (by decide) (by kernel_rfl)
    obtain ⟨e45, _, _⟩ := hg.get rfl
    have e46 : σ' 56 = elp A1 (v9.toNat * 3 + 0) := (List.cons.inj e45).1
    obtain ⟨τ, rfl⟩ := sl_canon (σ := σ') (l := [(56, elp A1 (v9.toNat * 3 + 0))]) ⟨e46, trivial⟩
    have hM := Mem.subR (R := R) hMR
    exact RW.step (Ex.loadE hM ((hle4.trans hle6).trans hle) hF1.rdc to3 rfl (hx15 0 _ rfl)) rfl rfl rfl (RW.nil ⟨rfl, rfl, _, rfl, H', [], Hp.le.refl _, hMR, rfl, rfl, trivial⟩)
   ·
    intro H' σ' w R E hle hMR hE0 hE hp hf
    obtain rfl := hE0 rfl
    obtain ⟨_, hg⟩ := hp 10 (by decide) (by kernel_rfl)
    obtain ⟨e47, _, _⟩ := hg.get rfl
    have e48 : σ' 52 = .int .i64 (if ((ix x1 v9).To) < ((ix x0 v9).To) then ((ix x1 v9).To) else ((ix x0 v9).To)) := (List.cons.inj e47).1
    obtain ⟨τ, rfl⟩ := sl_canon (σ := σ') (l := [(52, .int .i64 (if ((ix x1 v9).To) < ((ix x0 v9).To) then ((ix x1 v9).To) else ((ix x0 v9).To)))]) ⟨e48, trivial⟩
    have hM := Mem.subR (R := R) hMR
    exact RW.step (Ex.assign (.int .i64 (if ((ix x1 v9).To) < ((ix x0 v9).To) then ((ix x1 v9).To) else ((ix x0 v9).To))) rfl) rfl rfl rfl (RW.nil ⟨rfl, rfl, _, rfl, H', [], Hp.le.refl _, hMR, rfl, rfl, trivial⟩)
   ·
    intro H' σ' w R E hle hMR hE0 hE hp hf
    obtain rfl := hE0 rfl
    obtain ⟨_, hg⟩ := hp 15 (by decide) (by kernel_rfl)
    obtain ⟨e49, _, _⟩ := hg.get rfl
    have e50 : σ' 57 = .int .i64 ((ix x0 v9).Epoch) := (List.cons.inj e49).1
    obtain ⟨τ, rfl⟩ := sl_canon (σ := σ') (l := [(57, .int .i64 ((ix x0 v9).Epoch))]) ⟨e50, trivial⟩
    have hM := Mem.subR (R := R) hMR
    exact RW.step (Ex.assign (.int .i64 ((ix x0 v9).Epoch)) rfl) rfl rfl rfl (RW.nil ⟨rfl, rfl, _, rfl, H', [], Hp.le.refl _, hMR, rfl, rfl, trivial⟩)
   ·
    intro H8 σ' w X miss hms hle8 hM hX hX0 hf
    simp [subs] at hms
    rcases hms with rfl
    ·
     obtain ⟨H51, hH8⟩ : ∃ x, x = H8 := ⟨_, rfl⟩
     subst hH8
     have hle52 := hle8
     obtain ⟨_, g0, y0⟩ := hX 0 (by decide) (by kernel_rfl)
     obtain ⟨_, rfl, _⟩ := g0.get rfl
     replace y0 : X 0 = [] := y0
     obtain ⟨_, g0, y1⟩ := hX 1 (by decide) (by kernel_rfl)
     obtain ⟨_, rfl, _⟩ := g0.get rfl
     replace y1 : X 1 = [] := y1
     obtain ⟨_, g0, y2⟩ := hX 2 (by decide) (by kernel_rfl)
     obtain ⟨_, rfl, _⟩ := g0.get rfl
     replace y2 : X 2 = [] := y2
     obtain ⟨_, g0, y3⟩ := hX 3 (by decide) (by kernel_rfl)
     obtain ⟨_, rfl, _⟩ := g0.get rfl
     replace y3 : X 3 = [] := y3
     obtain ⟨_, g0, y4⟩ := hX 4 (by decide) (by kernel_rfl)
     obtain ⟨_, rfl, _⟩ := g0.get rfl
     replace y4 : X 4 = [] := y4
     obtain ⟨_, g0, y5⟩ := hX 5 (by decide) (by kernel_rfl)
     obtain ⟨_, rfl, _⟩ := g0.get rfl
     replace y5 : X 5 = [] := y5
     obtain ⟨_, g0, y6⟩ := hX 6 (by decide) (by kernel_rfl)
     obtain ⟨_, rfl, _⟩ := g0.get rfl
     replace y6 : X 6 = [] := y6
     obtain ⟨_, g0, y7⟩ := hX 7 (by decide) (by kernel_rfl)
     obtain ⟨_, rfl, _⟩ := g0.get rfl
     replace y7 : X 7 = [] := y7
     obtain ⟨_, g0, y8⟩ := hX 8 (by decide) (by kernel_rfl)
     obtain ⟨_, rfl, _⟩ := g0.get rfl
     replace y8 : X 8 = [] := y8
     obtain ⟨_, g0, y9⟩ := hX 9 (by decide) (by kernel_rfl)
     obtain ⟨_, rfl, _⟩ := g0.get rfl
     replace y9 : X 9 = [] := y9
     obtain ⟨_, g0, y10⟩ := hX 10 (by decide) (by kernel_rfl)
     obtain ⟨_, rfl, _⟩ := g0.get rfl
     replace y10 : X 10 = [] := y10
     obtain ⟨_, g0, y11⟩ := hX 11 (by decide) (by kernel_rfl)
     obtain ⟨_, rfl, _⟩ := g0.get rfl
     replace y11 : X 11 = [] := y11
     obtain ⟨_, g0, y12⟩ := hX 12 (by decide) (by kernel_rfl)
     obtain ⟨_, rfl, _⟩ := g0.get rfl
     replace y12 : X 12 = [] := y12
     obtain ⟨_, g0, y13⟩ := hX 13 (by decide) (by kernel_rfl)
     obtain ⟨_, rfl, _⟩ := g0.get rfl
     replace y13 : X 13 = [] := y13
     obtain ⟨_, g0, y14⟩ := hX 14 (by decide) (by kernel_rfl)
     obtain ⟨_, rfl, _⟩ := g0.get rfl
     replace y14 : X 14 = [] := y14
     obtain ⟨_, g0, y15⟩ := hX 15 (by decide) (by kernel_rfl)
     obtain ⟨_, rfl, _⟩ := g0.get rfl
     replace y15 : X 15 = [] := y15
     obtain ⟨_, g0, y16⟩ := hX 16 (by decide) (by kernel_rfl)
     obtain ⟨e53, rfl, _⟩ := g0.get rfl
     have e54 : σ' 6 = .int .i64 (if ((ix x1 v9).To) < ((ix x0 v9).To) then ((ix x1 v9).To) else ((ix x0 v9).To)) := (List.cons.inj e53).1
     replace y16 : X 16 = [] := y16
     obtain ⟨_, g0, y17⟩ := hX 17 (by decide) (by kernel_rfl)
     obtain ⟨e55, rfl, _⟩ := g0.get rfl
     have e56 : σ' 7 = .int .i64 ((ix x0 v9).Epoch) := (List.cons.inj e55).1
     replace y17 : X 17 = [] := y17
     have hfl : flatX X 18 = [] := by
      show X 0 ++ (X 1 ++ (X 2 ++ (X 3 ++ (X 4 ++ (X 5 ++ (X 6 ++ (X 7 ++ (X 8 ++ (X 9 ++ (X 10 ++ (X 11 ++ (X 12 ++ (X 13 ++ (X 14 ++ (X 15 ++ (X 16 ++ (X 17 ++ []))))))))))))))))) = _
      rw [y0, y1, y2, y3, y4, y5, y6, y7, y8, y9, y10, y11, y12, y13, y14, y15, y16, y17]; rfl
     rw [hfl] at hM
     obtain ⟨τ, rfl⟩ := sl_canon (σ := σ') (l := [(0, .slice A1 n1 c1), (1, .slice A2 n2 c2), (6, .int .i64 (if ((ix x1 v9).To) < ((ix x0 v9).To) then ((ix x1 v9).To) else ((ix x0 v9).To))), (7, .int .i64 ((ix x0 v9).Epoch)), (8, .int .i64 v9)]) ⟨(hf 0 (by kernel_rfl)).trans rfl, (hf 1 (by kernel_rfl)).trans rfl, e54, e56, (hf 8 (by kernel_rfl)).trans rfl, trivial⟩
     replace hM : Mem w0 H w H51 [] := hM
     change RA _ _ _ _ _ _ _ (sl [(0, .slice A1 n1 c1), (1, .slice A2 n2 c2), (6, .int .i64 (if ((ix x1 v9).To) < ((ix x0 v9).To) then ((ix x1 v9).To) else ((ix x0 v9).To))), (7, .int .i64 ((ix x0 v9).Epoch)), (8, .int .i64 v9)] τ) _ 18 _
     refine RA.done (by kernel_rfl) ?_
     refine CW.seq ?_
     refine CW.drawE 11 [.slice A1 n1 c1, .int .i64 v9, elp A1 (v9.toNat * 3 + 0), elp A1 (v9.toNat * 3 + 2), .int .i64 ((ix x0 v9).To), .slice A2 n2 c2, .int .i64 v9, elp A2 (v9.toNat * 3 + 0), elp A2 (v9.toNat * 3 + 2), .int .i64 ((ix x1 v9).To), .bool (decide (((ix x0 v9).To) ≠ ((ix x1 v9).To)))]
      [[(0, none)], [(8, none)], [(58, some 0), (59, some 1)], [(60, some 2)], [(61, some 3)], [(1, none)], [(8, none)], [(63, some 5), (64, some 6)], [(65, some 7)], [(66, some 8)], [(62, some 4), (67, some 9)]] [(0, none), (1, none), (6, none), (7, none), (8, none), (68, some 10)] (by kernel_rfl) hM (by kernel_rfl) ⟨?_, ?_, ?_, ?_, ?_, ?_, ?_, ?_, ?_, ?_, ?_, trivial⟩ ?_
     · exact One.ex (fun H' τ w hled hM => Ex.move (.slice A1 n1 c1) rfl) rfl (fun _ => rfl) rfl
     · exact One.ex (fun H' τ w hled hM => Ex.move (.int .i64 v9) rfl) rfl (fun _ => rfl) rfl
     · exact One.ex (fun H' τ w hled hM => Ex.index st22 rfl rfl v9.toNat (hF1.ne hg14) hg14.nat (hF1.lt hg14)) rfl (fun _ => rfl) rfl
     · exact One.ex (fun H' τ w hled hM => Ex.fieldE fa98_2 (hF1.ne hg14) rfl) rfl (fun _ => rfl) rfl
     · exact One.ex (fun H' τ w hled hM => Ex.loadE hM (((hle4.trans hle6).trans hle52).trans hled) hF1.rdc to3 rfl (hx15 2 _ rfl)) rfl (fun _ => rfl) rfl
     · exact One.ex (fun H' τ w hled hM => Ex.move (.slice A2 n2 c2) rfl) rfl (fun _ => rfl) rfl
     · exact One.ex (fun H' τ w hled hM => Ex.move (.int .i64 v9) rfl) rfl (fun _ => rfl) rfl
     · exact One.ex (fun H' τ w hled hM => Ex.index st22 rfl rfl v9.toNat (hF2.ne hg16) hg16.nat (hF2.lt hg16)) rfl (fun _ => rfl) rfl
     · exact One.ex (fun H' τ w hled hM => Ex.fieldE fa98_2 (hF2.ne hg16) rfl) rfl (fun _ => rfl) rfl
     · exact One.ex (fun H' τ w hled hM => Ex.loadE hM (((hle4.trans hle6).trans hle52).trans hled) hF2.rdc to3 rfl (hx17 2 _ rfl)) rfl (fun _ => rfl) rfl
     · exact One.ex (fun H' τ w hled hM => Ex.neq rfl rfl) rfl (fun _ => rfl) rfl
     intro τ w hM
     change RW _ _ _ _ _ _ _ _ (sl [(0, .slice A1 n1 c1), (1, .slice A2 n2 c2), (6, .int .i64 (if ((ix x1 v9).To) < ((ix x0 v9).To) then ((ix x1 v9).To) else ((ix x0 v9).To))), (7, .int .i64 ((ix x0 v9).Epoch)), (8, .int .i64 v9), (68, .bool (decide (((ix x0 v9).To) ≠ ((ix x1 v9).To))))] τ) _
     refine RW.nil ?_
     refine CW.cond_dec (p := ((ix x0 v9).To) ≠ ((ix x1 v9).To)) rfl (fun hc57 => ?_) (fun hc57 => ?_)
     ·
      replace hm := And.left hm hc57
      refine CW.seq <| CW.region <| RW.st (Ex.move (.int .i64 (if ((ix x1 v9).To) < ((ix x0 v9).To) then ((ix x1 v9).To) else ((ix x0 v9).To))) rfl) rfl <| RW.st (Ex.move (.int .i64 ((ix x0 v9).Epoch)) rfl) rfl <| RW.st (Ex.assign (.int .i64 (if ((ix x1 v9).To) < ((ix x0 v9).To) then ((ix x1 v9).To) else ((ix x0 v9).To))) rfl) rfl <| RW.st (Ex.assign (.int .i64 ((ix x0 v9).Epoch)) rfl) rfl <| RW.nil <| CW.ret ?_
      refine blockQ_ret (thenQ_ret (thenQ_ret (blockQ_ret (thenQ_ret ?_))))
      refine end_tmp2 (.inl rfl) rfl (.int .i64 (if ((ix x1 v9).To) < ((ix x0 v9).To) then ((ix x1 v9).To) else ((ix x0 v9).To))) (.int .i64 ((ix x0 v9).Epoch)) rfl rfl ?_
      exact ⟨_, _, hM, (if ((ix x1 v9).To) < ((ix x0 v9).To) then ((ix x1 v9).To) else ((ix x0 v9).To), (ix x0 v9).Epoch), hm, rfl, rfl⟩
     ·
      replace hm := And.right hm hc57
      refine CW.skip <| CW.region <| RW.st (Ex.move (.int .i64 v9) rfl) rfl ?_
      obtain ⟨hg58, hm⟩ := hm
      refine RW.st (Ex.add rfl rfl hg58.1 hg58.2) rfl <| RW.st (Ex.assign (.int .i64 (v9 + 1)) rfl) rfl <| RW.nil ?_
      exact And.intro rfl ⟨k10, ⟨if ((ix x1 v9).To) < ((ix x0 v9).To) then ((ix x1 v9).To) else ((ix x0 v9).To), (ix x0 v9).Epoch, v9 + 1, H51, hle6.trans hle52, sl_canon ⟨rfl, rfl, rfl, rfl, rfl, trivial⟩, hM, (by rw [hrec11]; exact hm)⟩, Nat.lt_succ_self _⟩
 ·
  replace hm := And.right hm hc13
  refine CW.exit ?_
  refine CW.seq <| CW.region <| RW.st (Ex.move (.int .i64 v7) rfl) rfl <| RW.st (Ex.move (.int .i64 v8) rfl) rfl <| RW.st (Ex.assign (.int .i64 v7) rfl) rfl <| RW.st (Ex.assign (.int .i64 v8) rfl) rfl <| RW.nil <| CW.ret ?_
  refine end_tmp2 (.inl rfl) rfl (.int .i64 v7) (.int .i64 v8) rfl rfl ?_
  exact ⟨_, _, hM, (v7, v8), hm, rfl, rfl⟩
theorem ref22_Check_lift {H : Hp} (x0 : List api_Write) (x1 : List Int) {A1 : Option Addr} {n1 c1 : Nat} {s1 : List Value} (hF1 : Fz (α := api_Write) H A1 n1 c1 x0 s1) {A2 : Option Addr} {n2 c2 : Nat} {s2 : List Value} (hF2 : Fz (α := Int) H A2 n2 c2 x1 s2) {Φ : Int → Prop} (hm : ref22_Check_W x0 x1 Φ) : RetP Tryd.prog 107 #[.slice A1 n1 c1, .slice A2 n2 c2] H (fun _ v L => ∃ y, Φ y ∧ v = .int .i64 (y) ∧ L = []) := by
 refine RetP.of_code Tryd.func107 rfl (Nat.le_of_ble_eq_true rfl) fun w0 hM => ?_
 refine CW.seq <| CW.region <| RW.st (Ex.assign (.int .i64 0) rfl) rfl <| RW.nil <| CW.seq <| CW.seq <| CW.region <| RW.st (Ex.move (.slice A2 n2 c2) rfl) rfl ?_
 refine RW.callP hM (ref07_Sizes_lift x1 hF2 hm) en73 rfl rfl rfl rfl ?_; rintro _ w H4 _ hle5 ⟨v3, hm, rfl, rfl⟩ hM
 replace hM : Mem w0 H w H4 [] := hM
 refine RW.st (Ex.assign (.int .i64 v3) rfl) rfl <| RW.nil <| CW.seq <| CW.region <| RW.st (Ex.move (.int .i64 v3) rfl) rfl <| RW.st (Ex.neq rfl rfl) rfl <| RW.nil ?_
 refine CW.cond_dec (p := v3 ≠ 0) rfl (fun hc6 => ?_) (fun hc6 => ?_)
 ·
  replace hm := And.left hm hc6
  refine CW.seq <| CW.region <| RW.st (Ex.move (.int .i64 v3) rfl) rfl <| RW.st (Ex.assign (.int .i64 v3) rfl) rfl <| RW.nil <| CW.ret ?_
  refine thenQ_ret ?_
  refine end_tmp (.inl rfl) rfl (.int .i64 v3) rfl ?_
  exact ⟨_, _, hM, v3, hm, rfl, rfl⟩
 ·
  replace hm := And.right hm hc6
  refine CW.skip <| CW.seq <| CW.seq <| CW.region <| RW.st (Ex.assign (.int .i64 0) rfl) rfl <| RW.nil <| CW.block ?_
  obtain ⟨m37, hm⟩ := hm
  skip
  refine CW.loop (β := Nat) (fun n σ w => ∃ (v9 : Int), ∃ Hk7, H4.le Hk7 ∧ (∃ τ, σ = sl [(0, .slice A1 n1 c1), (1, .slice A2 n2 c2), (6, .int .i64 v9)] τ) ∧ Mem w0 H w Hk7 [] ∧ LoopN (ref22_Check_L1 x0 x1 Φ) n (v9)) (fun n => n) m37 ⟨0, H4, (Hp.le.refl _), sl_canon ⟨rfl, rfl, rfl, trivial⟩, hM, hm⟩ ?_
  rintro k10 _ w ⟨v9, Hk7, hle8, ⟨τ, rfl⟩, hM, hm⟩
  obtain _ | k10 := k10
  · exact hm.elim
  replace hm : (ref22_Check_L1 x0 x1 Φ) (v9) (LoopN (ref22_Check_L1 x0 x1 Φ) k10) := hm
  generalize hrec11 : LoopN (ref22_Check_L1 x0 x1 Φ) k10 = rec1 at hm
  refine CW.seq <| CW.seq <| CW.region <| RW.st (Ex.move (.int .i64 v9) rfl) rfl <| RW.st (Ex.move (.slice A1 n1 c1) rfl) rfl <| RW.st (Ex.lenN st43.1 rfl hF1.hn) rfl <| RW.st (Ex.lss rfl rfl) rfl <| RW.nil ?_
  refine CW.cond_dec (p := v9 < (x0.length : Int)) rfl (fun hc12 => ?_) (fun hc12 => ?_)
  ·
   replace hm := And.left hm hc12
   refine CW.skip <| CW.seq <| CW.block <| CW.seq <| CW.seq <| CW.region <| RW.st (Ex.move (.slice A2 n2 c2) rfl) rfl <| RW.st (Ex.move (.slice A1 n1 c1) rfl) rfl <| RW.st (Ex.move (.int .i64 v9) rfl) rfl ?_
   obtain ⟨hg16, hm⟩ := hm
   refine RW.st (Ex.index st43 rfl rfl v9.toNat (hF1.ne hg16) hg16.nat (hF1.lt hg16)) rfl ?_
   obtain ⟨_, ⟨A17, n17, c17, s17, rfl, hF17⟩, hx18⟩ := DtL.getI (α := api_Write) (hF1.mono (hle5.trans hle8)).dat hg16
   refine RW.st (Ex.loadEA hM (hle5.trans hle8) hF1.rdc [.int .i64 ((ix x0 v9).Volume), .int .i64 ((ix x0 v9).Start), .slice A17 n17 c17] ta100 rfl (hF1.ne hg16) rfl (chunk_sub (off := 0) (n := 3) hx18 rfl)) rfl ?_
   refine RW.callP hM (ref07_FitsSizes_lift x1 (ix x0 v9) (hF2.mono (hle5.trans hle8)) hF17 hm) en74 rfl rfl rfl rfl ?_; rintro _ w H20 _ hle21 ⟨v19, hm, rfl, rfl⟩ hM
   replace hM : Mem w0 H w H20 [] := hM
   refine RW.st (Ex.assign (.int .i64 v19) rfl) rfl <| RW.nil <| CW.seq <| CW.region <| RW.st (Ex.move (.int .i64 v19) rfl) rfl <| RW.st (Ex.neq rfl rfl) rfl <| RW.nil ?_
   refine CW.cond_dec (p := v19 ≠ 0) rfl (fun hc22 => ?_) (fun hc22 => ?_)
   ·
    replace hm := And.left hm hc22
    refine CW.seq <| CW.region <| RW.st (Ex.move (.int .i64 v19) rfl) rfl <| RW.st (Ex.assign (.int .i64 v19) rfl) rfl <| RW.nil <| CW.ret ?_
    refine thenQ_ret (blockQ_ret (thenQ_ret (thenQ_ret (blockQ_ret (thenQ_ret ?_)))))
    refine end_tmp (.inl rfl) rfl (.int .i64 v19) rfl ?_
    exact ⟨_, _, hM, v19, hm, rfl, rfl⟩
   ·
    replace hm := And.right hm hc22
    refine CW.skip <| CW.seq <| CW.seq <| CW.region <| RW.st (Ex.move (.int .i64 v9) rfl) rfl <| RW.st (Ex.eql rfl rfl) rfl <| RW.nil ?_
    refine CW.cond_dec (p := v9 = 0) rfl (fun hc23 => ?_) (fun hc23 => ?_)
    ·
     replace hm := And.left hm hc23
     refine CW.exit ?_
     refine CW.region <| RW.st (Ex.move (.int .i64 v9) rfl) rfl ?_
     obtain ⟨hg24, hm⟩ := hm
     refine RW.st (Ex.add rfl rfl hg24.1 hg24.2) rfl <| RW.st (Ex.assign (.int .i64 (v9 + 1)) rfl) rfl <| RW.nil ?_
     exact And.intro rfl ⟨k10, ⟨v9 + 1, H20, hle8.trans hle21, sl_canon ⟨rfl, rfl, rfl, trivial⟩, hM, (by rw [hrec11]; exact hm)⟩, Nat.lt_succ_self _⟩
    ·
     replace hm := And.right hm hc23
     refine CW.skip <| CW.seq <| CW.region <| RW.st (Ex.move (.slice A1 n1 c1) rfl) rfl <| RW.st (Ex.move (.int .i64 v9) rfl) rfl ?_
     obtain ⟨hg25, hm⟩ := hm
     refine RW.st (Ex.sub rfl rfl hg25.1 hg25.2) rfl ?_
     obtain ⟨hg26, hm⟩ := hm
     refine RW.st (Ex.index st43 rfl rfl ((v9 - 1).toNat) (hF1.ne hg26) hg26.nat (hF1.lt hg26)) rfl ?_
     obtain ⟨_, ⟨A27, n27, c27, s27, rfl, hF27⟩, hx28⟩ := DtL.getI (α := api_Write) (hF1.mono ((hle5.trans hle8).trans hle21)).dat hg26
     refine RW.st (Ex.loadEA hM ((hle5.trans hle8).trans hle21) hF1.rdc [.int .i64 ((ix x0 (v9 - 1)).Volume), .int .i64 ((ix x0 (v9 - 1)).Start), .slice A27 n27 c27] ta100 rfl (hF1.ne hg26) rfl (chunk_sub (off := 0) (n := 3) hx28 rfl)) rfl ?_
     refine RW.alloc hM tz100 [.int .i64 0, .int .i64 0, .slice none 0 0] rfl rfl rfl ?_; intro b29 w hM
     replace hM : Mem w0 H w H20 [.box b29 100 [.int .i64 0, .int .i64 0, .slice none 0 0]] := hM
     refine RW.store hM 0 (.agg #[.int .i64 ((ix x0 (v9 - 1)).Volume), .int .i64 ((ix x0 (v9 - 1)).Start), .slice A27 n27 c27]) [.int .i64 ((ix x0 (v9 - 1)).Volume), .int .i64 ((ix x0 (v9 - 1)).Start), .slice A27 n27 c27] [.int .i64 ((ix x0 (v9 - 1)).Volume), .int .i64 ((ix x0 (v9 - 1)).Start), .slice A27 n27 c27] sz100 rfl rfl rfl (oneAll ⟨rfl, rfl, rfl, trivial⟩) rfl (Nat.le_of_ble_eq_true rfl) rfl [.box b29 100 [.int .i64 ((ix x0 (v9 - 1)).Volume), .int .i64 ((ix x0 (v9 - 1)).Start), .slice A27 n27 c27]] rfl rfl rfl ?_; intro w hM
     refine RW.nil ?_
     obtain ⟨hG36, hm⟩ := hm
     refine CW.cut (fun D σ w => D = [] ∧ (∃ τ, σ = sl [(0, .slice A1 n1 c1), (1, .slice A2 n2 c2), (6, .int .i64 v9), (68, .bool (decide ((((ix x0 v9).Volume) < ((ix x0 (v9 - 1)).Volume)) ∨ ((((ix x0 v9).Volume) = ((ix x0 (v9 - 1)).Volume)) ∧ (((ix x0 v9).Start) < ((((ix x0 (v9 - 1)).Start) + (((ix x0 (v9 - 1)).Data).length : Int)) + 1))))))] τ) ∧ Mem w0 H w H20 [.box b29 100 [.int .i64 ((ix x0 (v9 - 1)).Volume), .int .i64 ((ix x0 (v9 - 1)).Start), .slice A27 n27 c27]]) ?_ ?_
     ·
      replace hm := hG36
      by_cases hc30 : ((ix x0 v9).Volume) < ((ix x0 (v9 - 1)).Volume)
      ·
       skip
       refine CW.drawE 33 [.slice A1 n1 c1, .int .i64 v9, elp A1 (v9.toNat * 3 + 0), elp A1 (v9.toNat * 3 + 0), .int .i64 ((ix x0 v9).Volume), .pointer (some ⟨b29, 0, none⟩), .int .i64 ((ix x0 (v9 - 1)).Volume), .bool true, .bool true, undef, undef, undef, undef, undef, undef, undef, undef, undef, undef, undef, undef, undef, undef, undef, undef, undef, undef, undef, undef, undef, undef, undef, .bool true]
        [[(0, none)], [(6, none)], [(36, some 0), (37, some 1)], [(38, some 2)], [(39, some 3)], [(8, none)], [(41, some 5)], [(40, some 4), (42, some 6)], [(43, some 7)], [(44, some 8)], [(44, some 8)], [(44, some 8)], [(44, some 8)], [(44, some 8)], [(44, some 8)], [(44, some 8)], [(44, some 8)], [(44, some 8)], [(53, some 17)], [(53, some 17)], [(53, some 17)], [(53, some 17)], [(53, some 17)], [(53, some 17)], [(53, some 17)], [(53, some 17)], [(53, some 17)], [(53, some 17)], [(53, some 17)], [(53, some 17)], [(53, some 17)], [(44, some 8)], [(44, some 8), (67, some 31)]] [(0, none), (1, none), (6, none), (68, some 32)] (by kernel_rfl) hM (by kernel_rfl) ⟨?_, ?_, ?_, ?_, ?_, ?_, ?_, ?_, ?_, ?_, ?_, ?_, ?_, ?_, ?_, ?_, ?_, ?_, ?_, ?_, ?_, ?_, ?_, ?_, ?_, ?_, ?_, ?_, ?_, ?_, ?_, ?_, ?_, trivial⟩ ?_
       · exact One.ex (fun H' τ w hled hM => Ex.move (.slice A1 n1 c1) rfl) rfl (fun _ => rfl) rfl
       · exact One.ex (fun H' τ w hled hM => Ex.move (.int .i64 v9) rfl) rfl (fun _ => rfl) rfl
       · exact One.ex (fun H' τ w hled hM => Ex.index st43 rfl rfl v9.toNat (hF1.ne hg16) hg16.nat (hF1.lt hg16)) rfl (fun _ => rfl) rfl
       · exact One.ex (fun H' τ w hled hM => Ex.fieldE fa100_0 (hF1.ne hg16) rfl) rfl (fun _ => rfl) rfl
       · exact One.ex (fun H' τ w hled hM => Ex.loadE hM (((hle5.trans hle8).trans hle21).trans hled) hF1.rdc to3 rfl (hx18 0 _ rfl)) rfl (fun _ => rfl) rfl
       · exact One.ex (fun H' τ w hled hM => Ex.fieldAddr fa100_0 rfl) rfl (fun _ => rfl) rfl
       · exact One.ex (fun H' τ w hled hM => Ex.load1 hM 0 to3 rfl rfl rfl) rfl (fun _ => rfl) rfl
       · exact One.ex (fun H' τ w hled hM => Ex.yes (Ex.lss rfl rfl) hc30) rfl (fun _ => rfl) rfl
       · exact One.ex (fun H' τ w hled hM => Ex.move (.bool true) rfl) rfl (fun _ => rfl) rfl
       · exact One.pass (fun _ => rfl) rfl
       · exact One.pass (fun _ => rfl) rfl
       · exact One.pass (fun _ => rfl) rfl
       · exact One.pass (fun _ => rfl) rfl
       · exact One.pass (fun _ => rfl) rfl
       · exact One.pass (fun _ => rfl) rfl
       · exact One.pass (fun _ => rfl) rfl
       · exact One.pass (fun _ => rfl) rfl
       · exact One.pass (fun _ => rfl) rfl
       · exact One.pass (fun _ => rfl) rfl
       · exact One.pass (fun _ => rfl) rfl
       · exact One.pass (fun _ => rfl) rfl
       · exact One.pass (fun _ => rfl) rfl
       · exact One.pass (fun _ => rfl) rfl
       · exact One.pass (fun _ => rfl) rfl
       · exact One.pass (fun _ => rfl) rfl
       · exact One.pass (fun _ => rfl) rfl
       · exact One.pass (fun _ => rfl) rfl
       · exact One.pass (fun _ => rfl) rfl
       · exact One.pass (fun _ => rfl) rfl
       · exact One.pass (fun _ => rfl) rfl
       · exact One.pass (fun _ => rfl) rfl
       · exact One.pass (fun _ => rfl) rfl
       · exact One.ex (fun H' τ w hled hM => Ex.pickT (.bool true) rfl rfl) rfl (fun _ => rfl) rfl
       intro τ w hM
       change RW _ _ _ _ _ _ _ _ (sl [(0, .slice A1 n1 c1), (1, .slice A2 n2 c2), (6, .int .i64 v9), (68, .bool true)] τ) _
       refine RW.nil ?_
       exact And.intro rfl (And.intro (sl_canon ⟨rfl, rfl, rfl, (congrArg Value.bool (decide_eq_true (.inl hc30)).symm), trivial⟩) hM)
      ·
       replace hm := hm hc30
       by_cases hc31 : ((ix x0 v9).Volume) = ((ix x0 (v9 - 1)).Volume)
       ·
        replace hm := hm hc31
        obtain ⟨hg32, hm⟩ := hm
        have hg33 := hm
        refine CW.drawE 33 [.slice A1 n1 c1, .int .i64 v9, elp A1 (v9.toNat * 3 + 0), elp A1 (v9.toNat * 3 + 0), .int .i64 ((ix x0 v9).Volume), .pointer (some ⟨b29, 0, none⟩), .int .i64 ((ix x0 (v9 - 1)).Volume), .bool false, .bool false, .slice A1 n1 c1, .int .i64 v9, elp A1 (v9.toNat * 3 + 0), elp A1 (v9.toNat * 3 + 0), .int .i64 ((ix x0 v9).Volume), .pointer (some ⟨b29, 0, none⟩), .int .i64 ((ix x0 (v9 - 1)).Volume), .bool true, .bool true, .slice A1 n1 c1, .int .i64 v9, elp A1 (v9.toNat * 3 + 0), elp A1 (v9.toNat * 3 + 1), .int .i64 ((ix x0 v9).Start), .pointer (some ⟨b29, 1, none⟩), .int .i64 ((ix x0 (v9 - 1)).Start), .pointer (some ⟨b29, 2, none⟩), .slice A27 n27 c27, .int .i64 ((((ix x0 (v9 - 1)).Data).length : Int)), .int .i64 (((ix x0 (v9 - 1)).Start) + (((ix x0 (v9 - 1)).Data).length : Int)), .int .i64 ((((ix x0 (v9 - 1)).Start) + (((ix x0 (v9 - 1)).Data).length : Int)) + 1), .bool (decide (((ix x0 v9).Start) < ((((ix x0 (v9 - 1)).Start) + (((ix x0 (v9 - 1)).Data).length : Int)) + 1))), .bool (decide (((ix x0 v9).Start) < ((((ix x0 (v9 - 1)).Start) + (((ix x0 (v9 - 1)).Data).length : Int)) + 1))), .bool (decide (((ix x0 v9).Start) < ((((ix x0 (v9 - 1)).Start) + (((ix x0 (v9 - 1)).Data).length : Int)) + 1)))]
         [[(0, none)], [(6, none)], [(36, some 0), (37, some 1)], [(38, some 2)], [(39, some 3)], [(8, none)], [(41, some 5)], [(40, some 4), (42, some 6)], [(43, some 7)], [(0, none), (44, some 8)], [(6, none), (44, some 8)], [(44, some 8), (45, some 9), (46, some 10)], [(44, some 8), (47, some 11)], [(44, some 8), (48, some 12)], [(8, none), (44, some 8)], [(44, some 8), (50, some 14)], [(44, some 8), (49, some 13), (51, some 15)], [(44, some 8), (52, some 16)], [(0, none), (53, some 17)], [(6, none), (53, some 17)], [(53, some 17), (54, some 18), (55, some 19)], [(53, some 17), (56, some 20)], [(53, some 17), (57, some 21)], [(8, none), (53, some 17)], [(53, some 17), (59, some 23)], [(8, none), (53, some 17)], [(53, some 17), (61, some 25)], [(53, some 17), (62, some 26)], [(53, some 17), (60, some 24), (63, some 27)], [(53, some 17), (64, some 28)], [(53, some 17), (58, some 22), (65, some 29)], [(44, some 8), (53, some 17), (66, some 30)], [(44, some 8), (67, some 31)]] [(0, none), (1, none), (6, none), (68, some 32)] (by kernel_rfl) hM (by kernel_rfl) ⟨?_, ?_, ?_, ?_, ?_, ?_, ?_, ?_, ?_, ?_, ?_, ?_, ?_, ?_, ?_, ?_, ?_, ?_, ?_, ?_, ?_, ?_, ?_, ?_, ?_, ?_, ?_, ?_, ?_, ?_, ?_, ?_, ?_, trivial⟩ ?_
        · exact One.ex (fun H' τ w hled hM => Ex.move (.slice A1 n1 c1) rfl) rfl (fun _ => rfl) rfl
        · exact One.ex (fun H' τ w hled hM => Ex.move (.int .i64 v9) rfl) rfl (fun _ => rfl) rfl
        · exact One.ex (fun H' τ w hled hM => Ex.index st43 rfl rfl v9.toNat (hF1.ne hg16) hg16.nat (hF1.lt hg16)) rfl (fun _ => rfl) rfl
        · exact One.ex (fun H' τ w hled hM => Ex.fieldE fa100_0 (hF1.ne hg16) rfl) rfl (fun _ => rfl) rfl
        · exact One.ex (fun H' τ w hled hM => Ex.loadE hM (((hle5.trans hle8).trans hle21).trans hled) hF1.rdc to3 rfl (hx18 0 _ rfl)) rfl (fun _ => rfl) rfl
        · exact One.ex (fun H' τ w hled hM => Ex.fieldAddr fa100_0 rfl) rfl (fun _ => rfl) rfl
        · exact One.ex (fun H' τ w hled hM => Ex.load1 hM 0 to3 rfl rfl rfl) rfl (fun _ => rfl) rfl
        · exact One.ex (fun H' τ w hled hM => Ex.no (Ex.lss rfl rfl) hc30) rfl (fun _ => rfl) rfl
        · exact One.ex (fun H' τ w hled hM => Ex.move (.bool false) rfl) rfl (fun _ => rfl) rfl
        · exact One.ex (fun H' τ w hled hM => Ex.move (.slice A1 n1 c1) rfl) rfl (fun _ => rfl) rfl
        · exact One.ex (fun H' τ w hled hM => Ex.move (.int .i64 v9) rfl) rfl (fun _ => rfl) rfl
        · exact One.ex (fun H' τ w hled hM => Ex.index st43 rfl rfl v9.toNat (hF1.ne hg16) hg16.nat (hF1.lt hg16)) rfl (fun _ => rfl) rfl
        · exact One.ex (fun H' τ w hled hM => Ex.fieldE fa100_0 (hF1.ne hg16) rfl) rfl (fun _ => rfl) rfl
        · exact One.ex (fun H' τ w hled hM => Ex.loadE hM (((hle5.trans hle8).trans hle21).trans hled) hF1.rdc to3 rfl (hx18 0 _ rfl)) rfl (fun _ => rfl) rfl
        · exact One.ex (fun H' τ w hled hM => Ex.fieldAddr fa100_0 rfl) rfl (fun _ => rfl) rfl
        · exact One.ex (fun H' τ w hled hM => Ex.load1 hM 0 to3 rfl rfl rfl) rfl (fun _ => rfl) rfl
        · exact One.ex (fun H' τ w hled hM => Ex.yes (Ex.eql rfl rfl) hc31) rfl (fun _ => rfl) rfl
        · exact One.ex (fun H' τ w hled hM => Ex.move (.bool true) rfl) rfl (fun _ => rfl) rfl
        · exact One.ex (fun H' τ w hled hM => Ex.move (.slice A1 n1 c1) rfl) rfl (fun _ => rfl) rfl
        · exact One.ex (fun H' τ w hled hM => Ex.move (.int .i64 v9) rfl) rfl (fun _ => rfl) rfl
        · exact One.ex (fun H' τ w hled hM => Ex.index st43 rfl rfl v9.toNat (hF1.ne hg16) hg16.nat (hF1.lt hg16)) rfl (fun _ => rfl) rfl
        · exact One.ex (fun H' τ w hled hM => Ex.fieldE fa100_1 (hF1.ne hg16) rfl) rfl (fun _ => rfl) rfl
        · exact One.ex (fun H' τ w hled hM => Ex.loadE hM (((hle5.trans hle8).trans hle21).trans hled) hF1.rdc to3 rfl (hx18 1 _ rfl)) rfl (fun _ => rfl) rfl
        · exact One.ex (fun H' τ w hled hM => Ex.fieldAddr fa100_1 rfl) rfl (fun _ => rfl) rfl
        · exact One.ex (fun H' τ w hled hM => Ex.load1 hM 0 to3 rfl rfl rfl) rfl (fun _ => rfl) rfl
        · exact One.ex (fun H' τ w hled hM => Ex.fieldAddr fa100_2 rfl) rfl (fun _ => rfl) rfl
        · exact One.ex (fun H' τ w hled hM => Ex.load1 hM 0 to61 rfl rfl rfl) rfl (fun _ => rfl) rfl
        · exact One.ex (fun H' τ w hled hM => Ex.lenN st61.1 rfl hF27.hn) rfl (fun _ => rfl) rfl
        · exact One.ex (fun H' τ w hled hM => Ex.add rfl rfl hg32.1 hg32.2) rfl (fun _ => rfl) rfl
        · exact One.ex (fun H' τ w hled hM => Ex.add rfl rfl hg33.1 hg33.2) rfl (fun _ => rfl) rfl
        · exact One.ex (fun H' τ w hled hM => Ex.lss rfl rfl) rfl (fun _ => rfl) rfl
        · exact One.ex (fun H' τ w hled hM => Ex.pickT (.bool (decide (((ix x0 v9).Start) < ((((ix x0 (v9 - 1)).Start) + (((ix x0 (v9 - 1)).Data).length : Int)) + 1)))) rfl rfl) rfl (fun _ => rfl) rfl
        · exact One.ex (fun H' τ w hled hM => Ex.pickF (.bool (decide (((ix x0 v9).Start) < ((((ix x0 (v9 - 1)).Start) + (((ix x0 (v9 - 1)).Data).length : Int)) + 1)))) rfl rfl) rfl (fun _ => rfl) rfl
        intro τ w hM
        change RW _ _ _ _ _ _ _ _ (sl [(0, .slice A1 n1 c1), (1, .slice A2 n2 c2), (6, .int .i64 v9), (68, .bool (decide (((ix x0 v9).Start) < ((((ix x0 (v9 - 1)).Start) + (((ix x0 (v9 - 1)).Data).length : Int)) + 1))))] τ) _
        refine RW.nil ?_
        exact And.intro rfl (And.intro (sl_canon ⟨rfl, rfl, rfl, (congrArg Value.bool (decide_eq_decide.2 (imOr hc30 (imAnd hc31 Iff.rfl)))), trivial⟩) hM)
       ·
        skip
        refine CW.drawE 33 [.slice A1 n1 c1, .int .i64 v9, elp A1 (v9.toNat * 3 + 0), elp A1 (v9.toNat * 3 + 0), .int .i64 ((ix x0 v9).Volume), .pointer (some ⟨b29, 0, none⟩), .int .i64 ((ix x0 (v9 - 1)).Volume), .bool false, .bool false, .slice A1 n1 c1, .int .i64 v9, elp A1 (v9.toNat * 3 + 0), elp A1 (v9.toNat * 3 + 0), .int .i64 ((ix x0 v9).Volume), .pointer (some ⟨b29, 0, none⟩), .int .i64 ((ix x0 (v9 - 1)).Volume), .bool false, .bool false, undef, undef, undef, undef, undef, undef, undef, undef, undef, undef, undef, undef, undef, .bool false, .bool false]
         [[(0, none)], [(6, none)], [(36, some 0), (37, some 1)], [(38, some 2)], [(39, some 3)], [(8, none)], [(41, some 5)], [(40, some 4), (42, some 6)], [(43, some 7)], [(0, none), (44, some 8)], [(6, none), (44, some 8)], [(44, some 8), (45, some 9), (46, some 10)], [(44, some 8), (47, some 11)], [(44, some 8), (48, some 12)], [(8, none), (44, some 8)], [(44, some 8), (50, some 14)], [(44, some 8), (49, some 13), (51, some 15)], [(44, some 8), (52, some 16)], [(53, some 17)], [(53, some 17)], [(53, some 17)], [(53, some 17)], [(53, some 17)], [(53, some 17)], [(53, some 17)], [(53, some 17)], [(53, some 17)], [(53, some 17)], [(53, some 17)], [(53, some 17)], [(53, some 17)], [(44, some 8), (53, some 17), (66, some 30)], [(44, some 8), (67, some 31)]] [(0, none), (1, none), (6, none), (68, some 32)] (by kernel_rfl) hM (by kernel_rfl) ⟨?_, ?_, ?_, ?_, ?_, ?_, ?_, ?_, ?_, ?_, ?_, ?_, ?_, ?_, ?_, ?_, ?_, ?_, ?_, ?_, ?_, ?_, ?_, ?_, ?_, ?_, ?_, ?_, ?_, ?_, ?_, ?_, ?_, trivial⟩ ?_
        · exact One.ex (fun H' τ w hled hM => Ex.move (.slice A1 n1 c1) rfl) rfl (fun _ => rfl) rfl
        · exact One.ex (fun H' τ w hled hM => Ex.move (.int .i64 v9) rfl) rfl (fun _ => rfl) rfl
        · exact One.ex (fun H' τ w hled hM => Ex.index st43 rfl rfl v9.toNat (hF1.ne hg16) hg16.nat (hF1.lt hg16)) rfl (fun _ => rfl) rfl
        · exact One.ex (fun H' τ w hled hM => Ex.fieldE fa100_0 (hF1.ne hg16) rfl) rfl (fun _ => rfl) rfl
        · exact One.ex (fun H' τ w hled hM => Ex.loadE hM (((hle5.trans hle8).trans hle21).trans hled) hF1.rdc to3 rfl (hx18 0 _ rfl)) rfl (fun _ => rfl) rfl
        · exact One.ex (fun H' τ w hled hM => Ex.fieldAddr fa100_0 rfl) rfl (fun _ => rfl) rfl
        · exact One.ex (fun H' τ w hled hM => Ex.load1 hM 0 to3 rfl rfl rfl) rfl (fun _ => rfl) rfl
        · exact One.ex (fun H' τ w hled hM => Ex.no (Ex.lss rfl rfl) hc30) rfl (fun _ => rfl) rfl
        · exact One.ex (fun H' τ w hled hM => Ex.move (.bool false) rfl) rfl (fun _ => rfl) rfl
        · exact One.ex (fun H' τ w hled hM => Ex.move (.slice A1 n1 c1) rfl) rfl (fun _ => rfl) rfl
        · exact One.ex (fun H' τ w hled hM => Ex.move (.int .i64 v9) rfl) rfl (fun _ => rfl) rfl
        · exact One.ex (fun H' τ w hled hM => Ex.index st43 rfl rfl v9.toNat (hF1.ne hg16) hg16.nat (hF1.lt hg16)) rfl (fun _ => rfl) rfl
        · exact One.ex (fun H' τ w hled hM => Ex.fieldE fa100_0 (hF1.ne hg16) rfl) rfl (fun _ => rfl) rfl
        · exact One.ex (fun H' τ w hled hM => Ex.loadE hM (((hle5.trans hle8).trans hle21).trans hled) hF1.rdc to3 rfl (hx18 0 _ rfl)) rfl (fun _ => rfl) rfl
        · exact One.ex (fun H' τ w hled hM => Ex.fieldAddr fa100_0 rfl) rfl (fun _ => rfl) rfl
        · exact One.ex (fun H' τ w hled hM => Ex.load1 hM 0 to3 rfl rfl rfl) rfl (fun _ => rfl) rfl
        · exact One.ex (fun H' τ w hled hM => Ex.no (Ex.eql rfl rfl) hc31) rfl (fun _ => rfl) rfl
        · exact One.ex (fun H' τ w hled hM => Ex.move (.bool false) rfl) rfl (fun _ => rfl) rfl
        · exact One.pass (fun _ => rfl) rfl
        · exact One.pass (fun _ => rfl) rfl
        · exact One.pass (fun _ => rfl) rfl
        · exact One.pass (fun _ => rfl) rfl
        · exact One.pass (fun _ => rfl) rfl
        · exact One.pass (fun _ => rfl) rfl
        · exact One.pass (fun _ => rfl) rfl
        · exact One.pass (fun _ => rfl) rfl
        · exact One.pass (fun _ => rfl) rfl
        · exact One.pass (fun _ => rfl) rfl
        · exact One.pass (fun _ => rfl) rfl
        · exact One.pass (fun _ => rfl) rfl
        · exact One.pass (fun _ => rfl) rfl
        · exact One.ex (fun H' τ w hled hM => Ex.pickF (.bool false) rfl rfl) rfl (fun _ => rfl) rfl
        · exact One.ex (fun H' τ w hled hM => Ex.pickF (.bool false) rfl rfl) rfl (fun _ => rfl) rfl
        intro τ w hM
        change RW _ _ _ _ _ _ _ _ (sl [(0, .slice A1 n1 c1), (1, .slice A2 n2 c2), (6, .int .i64 v9), (68, .bool false)] τ) _
        refine RW.nil ?_
        exact And.intro rfl (And.intro (sl_canon ⟨rfl, rfl, rfl, (congrArg Value.bool (decide_eq_false (fun q => q.elim hc30 (fun q => hc31 q.1))).symm), trivial⟩) hM)
     rintro _ _ w ⟨rfl, ⟨τ, rfl⟩, hM⟩
     refine CW.cond_dec (p := (((ix x0 v9).Volume) < ((ix x0 (v9 - 1)).Volume)) ∨ ((((ix x0 v9).Volume) = ((ix x0 (v9 - 1)).Volume)) ∧ (((ix x0 v9).Start) < ((((ix x0 (v9 - 1)).Start) + (((ix x0 (v9 - 1)).Data).length : Int)) + 1)))) rfl (fun hc34 => ?_) (fun hc34 => ?_)
     ·
      replace hm := And.left hm hc34
      refine CW.seq <| CW.region <| RW.st (Ex.assign (.int .i64 3) rfl) rfl <| RW.nil <| CW.ret ?_
      refine blockQ_ret (thenQ_ret (thenQ_ret (blockQ_ret (thenQ_ret ?_))))
      refine end_tmp (.inl rfl) rfl (.int .i64 3) rfl ?_
      exact ⟨_, _, (hM.pick [] rfl rfl), 3, hm, rfl, rfl⟩
     ·
      replace hm := And.right hm hc34
      refine CW.skip <| CW.region <| RW.st (Ex.move (.int .i64 v9) rfl) rfl ?_
      obtain ⟨hg35, hm⟩ := hm
      refine RW.st (Ex.add rfl rfl hg35.1 hg35.2) rfl <| RW.st (Ex.assign (.int .i64 (v9 + 1)) rfl) rfl <| RW.nil ?_
      exact And.intro rfl ⟨k10, ⟨v9 + 1, H20, hle8.trans hle21, sl_canon ⟨rfl, rfl, rfl, trivial⟩, (hM.pick [] rfl rfl), (by rw [hrec11]; exact hm)⟩, Nat.lt_succ_self _⟩
  ·
   replace hm := And.right hm hc12
   refine CW.exit ?_
   refine CW.seq <| CW.region <| RW.st (Ex.assign (.int .i64 0) rfl) rfl <| RW.nil <| CW.ret ?_
   refine end_tmp (.inl rfl) rfl (.int .i64 0) rfl ?_
   exact ⟨_, _, hM, 0, hm, rfl, rfl⟩
theorem ref03_SameWrites_lift {H : Hp} (x0 : List api_Write) (x1 : List api_Write) {A1 : Option Addr} {n1 c1 : Nat} {s1 : List Value} (hF1 : Fz (α := api_Write) H A1 n1 c1 x0 s1) {A2 : Option Addr} {n2 c2 : Nat} {s2 : List Value} (hF2 : Fz (α := api_Write) H A2 n2 c2 x1 s2) {Φ : Bool → Prop} (hm : ref03_SameWrites_W x0 x1 Φ) : RetP Tryd.prog 59 #[.slice A1 n1 c1, .slice A2 n2 c2] H (fun _ v L => ∃ y, Φ y ∧ v = .bool y ∧ L = []) := by
 refine RetP.of_code Tryd.func59 rfl (Nat.le_of_ble_eq_true rfl) fun w0 hM => ?_
 refine CW.seq <| CW.region <| RW.st (Ex.assign (.bool false) rfl) rfl <| RW.nil <| CW.seq <| CW.seq <| CW.region <| RW.st (Ex.move (.slice A1 n1 c1) rfl) rfl <| RW.st (Ex.lenN st43.1 rfl hF1.hn) rfl <| RW.st (Ex.move (.slice A2 n2 c2) rfl) rfl <| RW.st (Ex.lenN st43.1 rfl hF2.hn) rfl <| RW.st (Ex.neq rfl rfl) rfl <| RW.nil ?_
 refine CW.cond_dec (p := (x0.length : Int) ≠ (x1.length : Int)) rfl (fun hc3 => ?_) (fun hc3 => ?_)
 ·
  replace hm := And.left hm hc3
  refine CW.seq <| CW.region <| RW.st (Ex.assign (.bool false) rfl) rfl <| RW.nil <| CW.ret ?_
  refine thenQ_ret ?_
  refine end_tmp (.inl rfl) rfl (.bool false) rfl ?_
  exact ⟨_, _, hM, false, hm, rfl, rfl⟩
 ·
  replace hm := And.right hm hc3
  refine CW.skip <| CW.seq <| CW.seq <| CW.region <| RW.st (Ex.assign (.int .i64 0) rfl) rfl <| RW.nil <| CW.block ?_
  obtain ⟨m30, hm⟩ := hm
  skip
  refine CW.loop (β := Nat) (fun n σ w => ∃ (v6 : Int), ∃ Hk4, H.le Hk4 ∧ (∃ τ, σ = sl [(0, .slice A1 n1 c1), (1, .slice A2 n2 c2), (5, .int .i64 v6)] τ) ∧ Mem w0 H w Hk4 [] ∧ LoopN (ref03_SameWrites_L1 x0 x1 Φ) n (v6)) (fun n => n) m30 ⟨0, H, (Hp.le.refl _), sl_canon ⟨rfl, rfl, rfl, trivial⟩, hM, hm⟩ ?_
  rintro k7 _ w ⟨v6, Hk4, hle5, ⟨τ, rfl⟩, hM, hm⟩
  obtain _ | k7 := k7
  · exact hm.elim
  replace hm : (ref03_SameWrites_L1 x0 x1 Φ) (v6) (LoopN (ref03_SameWrites_L1 x0 x1 Φ) k7) := hm
  generalize hrec8 : LoopN (ref03_SameWrites_L1 x0 x1 Φ) k7 = rec1 at hm
  refine CW.seq <| CW.seq <| CW.region <| RW.st (Ex.move (.int .i64 v6) rfl) rfl <| RW.st (Ex.move (.slice A1 n1 c1) rfl) rfl <| RW.st (Ex.lenN st43.1 rfl hF1.hn) rfl <| RW.st (Ex.lss rfl rfl) rfl <| RW.nil ?_
  refine CW.cond_dec (p := v6 < (x0.length : Int)) rfl (fun hc9 => ?_) (fun hc9 => ?_)
  ·
   replace hm := And.left hm hc9
   refine CW.skip <| CW.seq <| CW.block <| CW.seq ?_
   obtain ⟨hg18, hm⟩ := hm
   obtain ⟨_, ⟨A19, n19, c19, s19, rfl, hF19⟩, hx20⟩ := DtL.getI (α := api_Write) (hF1.mono hle5).dat hg18
   obtain ⟨hg21, hm⟩ := hm
   obtain ⟨_, ⟨A22, n22, c22, s22, rfl, hF22⟩, hx23⟩ := DtL.getI (α := api_Write) (hF2.mono hle5).dat hg21
   by_cases hc24 : ((ix x0 v6).Volume) ≠ ((ix x1 v6).Volume)
   ·
    replace hm := And.left hm hc24
    refine CW.drawE 38 [.slice A1 n1 c1, .int .i64 v6, elp A1 (v6.toNat * 3 + 0), elp A1 (v6.toNat * 3 + 0), .int .i64 ((ix x0 v6).Volume), .slice A2 n2 c2, .int .i64 v6, elp A2 (v6.toNat * 3 + 0), elp A2 (v6.toNat * 3 + 0), .int .i64 ((ix x1 v6).Volume), .bool true, .bool true, undef, undef, undef, undef, undef, undef, undef, undef, undef, undef, undef, .bool true, .bool true, undef, undef, undef, undef, undef, undef, undef, undef, undef, undef, undef, undef, .bool true]
     [[(0, none)], [(5, none)], [(17, some 0), (18, some 1)], [(19, some 2)], [(20, some 3)], [(1, none)], [(5, none)], [(22, some 5), (23, some 6)], [(24, some 7)], [(25, some 8)], [(21, some 4), (26, some 9)], [(27, some 10)], [(28, some 11)], [(28, some 11)], [(28, some 11)], [(28, some 11)], [(28, some 11)], [(28, some 11)], [(28, some 11)], [(28, some 11)], [(28, some 11)], [(28, some 11)], [(28, some 11)], [(28, some 11), (39, some 22)], [(40, some 23)], [(41, some 24)], [(41, some 24)], [(41, some 24)], [(41, some 24)], [(41, some 24)], [(41, some 24)], [(41, some 24)], [(41, some 24)], [(41, some 24)], [(41, some 24)], [(41, some 24)], [(41, some 24)], [(41, some 24), (53, some 36)]] [(0, none), (1, none), (5, none), (54, some 37)] (by kernel_rfl) hM (by kernel_rfl) ⟨?_, ?_, ?_, ?_, ?_, ?_, ?_, ?_, ?_, ?_, ?_, ?_, ?_, ?_, ?_, ?_, ?_, ?_, ?_, ?_, ?_, ?_, ?_, ?_, ?_, ?_, ?_, ?_, ?_, ?_, ?_, ?_, ?_, ?_, ?_, ?_, ?_, ?_, trivial⟩ ?_
    · exact One.ex (fun H' τ w hled hM => Ex.move (.slice A1 n1 c1) rfl) rfl (fun _ => rfl) rfl
    · exact One.ex (fun H' τ w hled hM => Ex.move (.int .i64 v6) rfl) rfl (fun _ => rfl) rfl
    · exact One.ex (fun H' τ w hled hM => Ex.index st43 rfl rfl v6.toNat (hF1.ne hg18) hg18.nat (hF1.lt hg18)) rfl (fun _ => rfl) rfl
    · exact One.ex (fun H' τ w hled hM => Ex.fieldE fa100_0 (hF1.ne hg18) rfl) rfl (fun _ => rfl) rfl
    · exact One.ex (fun H' τ w hled hM => Ex.loadE hM (hle5.trans hled) hF1.rdc to3 rfl (hx20 0 _ rfl)) rfl (fun _ => rfl) rfl
    · exact One.ex (fun H' τ w hled hM => Ex.move (.slice A2 n2 c2) rfl) rfl (fun _ => rfl) rfl
    · exact One.ex (fun H' τ w hled hM => Ex.move (.int .i64 v6) rfl) rfl (fun _ => rfl) rfl
    · exact One.ex (fun H' τ w hled hM => Ex.index st43 rfl rfl v6.toNat (hF2.ne hg21) hg21.nat (hF2.lt hg21)) rfl (fun _ => rfl) rfl
    · exact One.ex (fun H' τ w hled hM => Ex.fieldE fa100_0 (hF2.ne hg21) rfl) rfl (fun _ => rfl) rfl
    · exact One.ex (fun H' τ w hled hM => Ex.loadE hM (hle5.trans hled) hF2.rdc to3 rfl (hx23 0 _ rfl)) rfl (fun _ => rfl) rfl
    · exact One.ex (fun H' τ w hled hM => Ex.yes (Ex.neq rfl rfl) hc24) rfl (fun _ => rfl) rfl
    · exact One.ex (fun H' τ w hled hM => Ex.move (.bool true) rfl) rfl (fun _ => rfl) rfl
    · exact One.pass (fun _ => rfl) rfl
    · exact One.pass (fun _ => rfl) rfl
    · exact One.pass (fun _ => rfl) rfl
    · exact One.pass (fun _ => rfl) rfl
    · exact One.pass (fun _ => rfl) rfl
    · exact One.pass (fun _ => rfl) rfl
    · exact One.pass (fun _ => rfl) rfl
    · exact One.pass (fun _ => rfl) rfl
    · exact One.pass (fun _ => rfl) rfl
    · exact One.pass (fun _ => rfl) rfl
    · exact One.pass (fun _ => rfl) rfl
    · exact One.ex (fun H' τ w hled hM => Ex.pickT (.bool true) rfl rfl) rfl (fun _ => rfl) rfl
    · exact One.ex (fun H' τ w hled hM => Ex.move (.bool true) rfl) rfl (fun _ => rfl) rfl
    · exact One.pass (fun _ => rfl) rfl
    · exact One.pass (fun _ => rfl) rfl
    · exact One.pass (fun _ => rfl) rfl
    · exact One.pass (fun _ => rfl) rfl
    · exact One.pass (fun _ => rfl) rfl
    · exact One.pass (fun _ => rfl) rfl
    · exact One.pass (fun _ => rfl) rfl
    · exact One.pass (fun _ => rfl) rfl
    · exact One.pass (fun _ => rfl) rfl
    · exact One.pass (fun _ => rfl) rfl
    · exact One.pass (fun _ => rfl) rfl
    · exact One.pass (fun _ => rfl) rfl
    · exact One.ex (fun H' τ w hled hM => Ex.pickT (.bool true) rfl rfl) rfl (fun _ => rfl) rfl
    intro τ w hM
    change RW _ _ _ _ _ _ _ _ (sl [(0, .slice A1 n1 c1), (1, .slice A2 n2 c2), (5, .int .i64 v6), (54, .bool true)] τ) _
    refine RW.nil <| CW.cond_true rfl <| CW.seq <| CW.region <| RW.st (Ex.assign (.bool false) rfl) rfl <| RW.nil <| CW.ret ?_
    refine blockQ_ret (thenQ_ret (thenQ_ret (blockQ_ret (thenQ_ret ?_))))
    refine end_tmp (.inl rfl) rfl (.bool false) rfl ?_
    exact ⟨_, _, hM, false, hm, rfl, rfl⟩
   ·
    replace hm := And.right hm hc24
    by_cases hc25 : ((ix x0 v6).Start) ≠ ((ix x1 v6).Start)
    ·
     replace hm := And.left hm hc25
     refine CW.drawE 38 [.slice A1 n1 c1, .int .i64 v6, elp A1 (v6.toNat * 3 + 0), elp A1 (v6.toNat * 3 + 0), .int .i64 ((ix x0 v6).Volume), .slice A2 n2 c2, .int .i64 v6, elp A2 (v6.toNat * 3 + 0), elp A2 (v6.toNat * 3 + 0), .int .i64 ((ix x1 v6).Volume), .bool false, .bool false, .slice A1 n1 c1, .int .i64 v6, elp A1 (v6.toNat * 3 + 0), elp A1 (v6.toNat * 3 + 1), .int .i64 ((ix x0 v6).Start), .slice A2 n2 c2, .int .i64 v6, elp A2 (v6.toNat * 3 + 0), elp A2 (v6.toNat * 3 + 1), .int .i64 ((ix x1 v6).Start), .bool true, .bool true, .bool true, undef, undef, undef, undef, undef, undef, undef, undef, undef, undef, undef, undef, .bool true]
      [[(0, none)], [(5, none)], [(17, some 0), (18, some 1)], [(19, some 2)], [(20, some 3)], [(1, none)], [(5, none)], [(22, some 5), (23, some 6)], [(24, some 7)], [(25, some 8)], [(21, some 4), (26, some 9)], [(27, some 10)], [(0, none), (28, some 11)], [(5, none), (28, some 11)], [(28, some 11), (29, some 12), (30, some 13)], [(28, some 11), (31, some 14)], [(28, some 11), (32, some 15)], [(1, none), (28, some 11)], [(5, none), (28, some 11)], [(28, some 11), (34, some 17), (35, some 18)], [(28, some 11), (36, some 19)], [(28, some 11), (37, some 20)], [(28, some 11), (33, some 16), (38, some 21)], [(28, some 11), (39, some 22)], [(40, some 23)], [(41, some 24)], [(41, some 24)], [(41, some 24)], [(41, some 24)], [(41, some 24)], [(41, some 24)], [(41, some 24)], [(41, some 24)], [(41, some 24)], [(41, some 24)], [(41, some 24)], [(41, some 24)], [(41, some 24), (53, some 36)]] [(0, none), (1, none), (5, none), (54, some 37)] (by kernel_rfl) hM (by kernel_rfl) ⟨?_, ?_, ?_, ?_, ?_, ?_, ?_, ?_, ?_, ?_, ?_, ?_, ?_, ?_, ?_, ?_, ?_, ?_, ?_, ?_, ?_, ?_, ?_, ?_, ?_, ?_, ?_, ?_, ?_, ?_, ?_, ?_, ?_, ?_, ?_, ?_, ?_, ?_, trivial⟩ ?_
     · exact One.ex (fun H' τ w hled hM => Ex.move (.slice A1 n1 c1) rfl) rfl (fun _ => rfl) rfl
     · exact One.ex (fun H' τ w hled hM => Ex.move (.int .i64 v6) rfl) rfl (fun _ => rfl) rfl
     · exact One.ex (fun H' τ w hled hM => Ex.index st43 rfl rfl v6.toNat (hF1.ne hg18) hg18.nat (hF1.lt hg18)) rfl (fun _ => rfl) rfl
     · exact One.ex (fun H' τ w hled hM => Ex.fieldE fa100_0 (hF1.ne hg18) rfl) rfl (fun _ => rfl) rfl
     · exact One.ex (fun H' τ w hled hM => Ex.loadE hM (hle5.trans hled) hF1.rdc to3 rfl (hx20 0 _ rfl)) rfl (fun _ => rfl) rfl
     · exact One.ex (fun H' τ w hled hM => Ex.move (.slice A2 n2 c2) rfl) rfl (fun _ => rfl) rfl
     · exact One.ex (fun H' τ w hled hM => Ex.move (.int .i64 v6) rfl) rfl (fun _ => rfl) rfl
     · exact One.ex (fun H' τ w hled hM => Ex.index st43 rfl rfl v6.toNat (hF2.ne hg21) hg21.nat (hF2.lt hg21)) rfl (fun _ => rfl) rfl
     · exact One.ex (fun H' τ w hled hM => Ex.fieldE fa100_0 (hF2.ne hg21) rfl) rfl (fun _ => rfl) rfl
     · exact One.ex (fun H' τ w hled hM => Ex.loadE hM (hle5.trans hled) hF2.rdc to3 rfl (hx23 0 _ rfl)) rfl (fun _ => rfl) rfl
     · exact One.ex (fun H' τ w hled hM => Ex.no (Ex.neq rfl rfl) hc24) rfl (fun _ => rfl) rfl
     · exact One.ex (fun H' τ w hled hM => Ex.move (.bool false) rfl) rfl (fun _ => rfl) rfl
     · exact One.ex (fun H' τ w hled hM => Ex.move (.slice A1 n1 c1) rfl) rfl (fun _ => rfl) rfl
     · exact One.ex (fun H' τ w hled hM => Ex.move (.int .i64 v6) rfl) rfl (fun _ => rfl) rfl
     · exact One.ex (fun H' τ w hled hM => Ex.index st43 rfl rfl v6.toNat (hF1.ne hg18) hg18.nat (hF1.lt hg18)) rfl (fun _ => rfl) rfl
     · exact One.ex (fun H' τ w hled hM => Ex.fieldE fa100_1 (hF1.ne hg18) rfl) rfl (fun _ => rfl) rfl
     · exact One.ex (fun H' τ w hled hM => Ex.loadE hM (hle5.trans hled) hF1.rdc to3 rfl (hx20 1 _ rfl)) rfl (fun _ => rfl) rfl
     · exact One.ex (fun H' τ w hled hM => Ex.move (.slice A2 n2 c2) rfl) rfl (fun _ => rfl) rfl
     · exact One.ex (fun H' τ w hled hM => Ex.move (.int .i64 v6) rfl) rfl (fun _ => rfl) rfl
     · exact One.ex (fun H' τ w hled hM => Ex.index st43 rfl rfl v6.toNat (hF2.ne hg21) hg21.nat (hF2.lt hg21)) rfl (fun _ => rfl) rfl
     · exact One.ex (fun H' τ w hled hM => Ex.fieldE fa100_1 (hF2.ne hg21) rfl) rfl (fun _ => rfl) rfl
     · exact One.ex (fun H' τ w hled hM => Ex.loadE hM (hle5.trans hled) hF2.rdc to3 rfl (hx23 1 _ rfl)) rfl (fun _ => rfl) rfl
     · exact One.ex (fun H' τ w hled hM => Ex.yes (Ex.neq rfl rfl) hc25) rfl (fun _ => rfl) rfl
     · exact One.ex (fun H' τ w hled hM => Ex.pickF (.bool true) rfl rfl) rfl (fun _ => rfl) rfl
     · exact One.ex (fun H' τ w hled hM => Ex.move (.bool true) rfl) rfl (fun _ => rfl) rfl
     · exact One.pass (fun _ => rfl) rfl
     · exact One.pass (fun _ => rfl) rfl
     · exact One.pass (fun _ => rfl) rfl
     · exact One.pass (fun _ => rfl) rfl
     · exact One.pass (fun _ => rfl) rfl
     · exact One.pass (fun _ => rfl) rfl
     · exact One.pass (fun _ => rfl) rfl
     · exact One.pass (fun _ => rfl) rfl
     · exact One.pass (fun _ => rfl) rfl
     · exact One.pass (fun _ => rfl) rfl
     · exact One.pass (fun _ => rfl) rfl
     · exact One.pass (fun _ => rfl) rfl
     · exact One.ex (fun H' τ w hled hM => Ex.pickT (.bool true) rfl rfl) rfl (fun _ => rfl) rfl
     intro τ w hM
     change RW _ _ _ _ _ _ _ _ (sl [(0, .slice A1 n1 c1), (1, .slice A2 n2 c2), (5, .int .i64 v6), (54, .bool true)] τ) _
     refine RW.nil <| CW.cond_true rfl <| CW.seq <| CW.region <| RW.st (Ex.assign (.bool false) rfl) rfl <| RW.nil <| CW.ret ?_
     refine blockQ_ret (thenQ_ret (thenQ_ret (blockQ_ret (thenQ_ret ?_))))
     refine end_tmp (.inl rfl) rfl (.bool false) rfl ?_
     exact ⟨_, _, hM, false, hm, rfl, rfl⟩
    ·
     replace hm := And.right hm hc25
     obtain ⟨v26, hW27, hm⟩ := hm
     refine CW.drawE 38 [.slice A1 n1 c1, .int .i64 v6, elp A1 (v6.toNat * 3 + 0), elp A1 (v6.toNat * 3 + 0), .int .i64 ((ix x0 v6).Volume), .slice A2 n2 c2, .int .i64 v6, elp A2 (v6.toNat * 3 + 0), elp A2 (v6.toNat * 3 + 0), .int .i64 ((ix x1 v6).Volume), .bool false, .bool false, .slice A1 n1 c1, .int .i64 v6, elp A1 (v6.toNat * 3 + 0), elp A1 (v6.toNat * 3 + 1), .int .i64 ((ix x0 v6).Start), .slice A2 n2 c2, .int .i64 v6, elp A2 (v6.toNat * 3 + 0), elp A2 (v6.toNat * 3 + 1), .int .i64 ((ix x1 v6).Start), .bool false, .bool false, .bool false, .slice A1 n1 c1, .int .i64 v6, elp A1 (v6.toNat * 3 + 0), elp A1 (v6.toNat * 3 + 2), .slice A19 n19 c19, .slice A2 n2 c2, .int .i64 v6, elp A2 (v6.toNat * 3 + 0), elp A2 (v6.toNat * 3 + 2), .slice A22 n22 c22, .bool v26, .bool (decide (¬ (v26 = true))), .bool (decide (¬ (v26 = true)))]
      [[(0, none)], [(5, none)], [(17, some 0), (18, some 1)], [(19, some 2)], [(20, some 3)], [(1, none)], [(5, none)], [(22, some 5), (23, some 6)], [(24, some 7)], [(25, some 8)], [(21, some 4), (26, some 9)], [(27, some 10)], [(0, none), (28, some 11)], [(5, none), (28, some 11)], [(28, some 11), (29, some 12), (30, some 13)], [(28, some 11), (31, some 14)], [(28, some 11), (32, some 15)], [(1, none), (28, some 11)], [(5, none), (28, some 11)], [(28, some 11), (34, some 17), (35, some 18)], [(28, some 11), (36, some 19)], [(28, some 11), (37, some 20)], [(28, some 11), (33, some 16), (38, some 21)], [(28, some 11), (39, some 22)], [(40, some 23)], [(0, none), (41, some 24)], [(5, none), (41, some 24)], [(41, some 24), (42, some 25), (43, some 26)], [(41, some 24), (44, some 27)], [(41, some 24), (45, some 28)], [(1, none), (41, some 24)], [(5, none), (41, some 24)], [(41, some 24), (47, some 30), (48, some 31)], [(41, some 24), (49, some 32)], [(41, some 24), (50, some 33)], [(41, some 24), (46, some 29), (51, some 34)], [(41, some 24), (52, some 35)], [(41, some 24), (53, some 36)]] [(0, none), (1, none), (5, none), (54, some 37)] (by kernel_rfl) hM (by kernel_rfl) ⟨?_, ?_, ?_, ?_, ?_, ?_, ?_, ?_, ?_, ?_, ?_, ?_, ?_, ?_, ?_, ?_, ?_, ?_, ?_, ?_, ?_, ?_, ?_, ?_, ?_, ?_, ?_, ?_, ?_, ?_, ?_, ?_, ?_, ?_, ?_, ?_, ?_, ?_, trivial⟩ ?_
     · exact One.ex (fun H' τ w hled hM => Ex.move (.slice A1 n1 c1) rfl) rfl (fun _ => rfl) rfl
     · exact One.ex (fun H' τ w hled hM => Ex.move (.int .i64 v6) rfl) rfl (fun _ => rfl) rfl
     · exact One.ex (fun H' τ w hled hM => Ex.index st43 rfl rfl v6.toNat (hF1.ne hg18) hg18.nat (hF1.lt hg18)) rfl (fun _ => rfl) rfl
     · exact One.ex (fun H' τ w hled hM => Ex.fieldE fa100_0 (hF1.ne hg18) rfl) rfl (fun _ => rfl) rfl
     · exact One.ex (fun H' τ w hled hM => Ex.loadE hM (hle5.trans hled) hF1.rdc to3 rfl (hx20 0 _ rfl)) rfl (fun _ => rfl) rfl
     · exact One.ex (fun H' τ w hled hM => Ex.move (.slice A2 n2 c2) rfl) rfl (fun _ => rfl) rfl
     · exact One.ex (fun H' τ w hled hM => Ex.move (.int .i64 v6) rfl) rfl (fun _ => rfl) rfl
     · exact One.ex (fun H' τ w hled hM => Ex.index st43 rfl rfl v6.toNat (hF2.ne hg21) hg21.nat (hF2.lt hg21)) rfl (fun _ => rfl) rfl
     · exact One.ex (fun H' τ w hled hM => Ex.fieldE fa100_0 (hF2.ne hg21) rfl) rfl (fun _ => rfl) rfl
     · exact One.ex (fun H' τ w hled hM => Ex.loadE hM (hle5.trans hled) hF2.rdc to3 rfl (hx23 0 _ rfl)) rfl (fun _ => rfl) rfl
     · exact One.ex (fun H' τ w hled hM => Ex.no (Ex.neq rfl rfl) hc24) rfl (fun _ => rfl) rfl
     · exact One.ex (fun H' τ w hled hM => Ex.move (.bool false) rfl) rfl (fun _ => rfl) rfl
     · exact One.ex (fun H' τ w hled hM => Ex.move (.slice A1 n1 c1) rfl) rfl (fun _ => rfl) rfl
     · exact One.ex (fun H' τ w hled hM => Ex.move (.int .i64 v6) rfl) rfl (fun _ => rfl) rfl
     · exact One.ex (fun H' τ w hled hM => Ex.index st43 rfl rfl v6.toNat (hF1.ne hg18) hg18.nat (hF1.lt hg18)) rfl (fun _ => rfl) rfl
     · exact One.ex (fun H' τ w hled hM => Ex.fieldE fa100_1 (hF1.ne hg18) rfl) rfl (fun _ => rfl) rfl
     · exact One.ex (fun H' τ w hled hM => Ex.loadE hM (hle5.trans hled) hF1.rdc to3 rfl (hx20 1 _ rfl)) rfl (fun _ => rfl) rfl
     · exact One.ex (fun H' τ w hled hM => Ex.move (.slice A2 n2 c2) rfl) rfl (fun _ => rfl) rfl
     · exact One.ex (fun H' τ w hled hM => Ex.move (.int .i64 v6) rfl) rfl (fun _ => rfl) rfl
     · exact One.ex (fun H' τ w hled hM => Ex.index st43 rfl rfl v6.toNat (hF2.ne hg21) hg21.nat (hF2.lt hg21)) rfl (fun _ => rfl) rfl
     · exact One.ex (fun H' τ w hled hM => Ex.fieldE fa100_1 (hF2.ne hg21) rfl) rfl (fun _ => rfl) rfl
     · exact One.ex (fun H' τ w hled hM => Ex.loadE hM (hle5.trans hled) hF2.rdc to3 rfl (hx23 1 _ rfl)) rfl (fun _ => rfl) rfl
     · exact One.ex (fun H' τ w hled hM => Ex.no (Ex.neq rfl rfl) hc25) rfl (fun _ => rfl) rfl
     · exact One.ex (fun H' τ w hled hM => Ex.pickF (.bool false) rfl rfl) rfl (fun _ => rfl) rfl
     · exact One.ex (fun H' τ w hled hM => Ex.move (.bool false) rfl) rfl (fun _ => rfl) rfl
     · exact One.ex (fun H' τ w hled hM => Ex.move (.slice A1 n1 c1) rfl) rfl (fun _ => rfl) rfl
     · exact One.ex (fun H' τ w hled hM => Ex.move (.int .i64 v6) rfl) rfl (fun _ => rfl) rfl
     · exact One.ex (fun H' τ w hled hM => Ex.index st43 rfl rfl v6.toNat (hF1.ne hg18) hg18.nat (hF1.lt hg18)) rfl (fun _ => rfl) rfl
     · exact One.ex (fun H' τ w hled hM => Ex.fieldE fa100_2 (hF1.ne hg18) rfl) rfl (fun _ => rfl) rfl
     · exact One.ex (fun H' τ w hled hM => Ex.loadE hM (hle5.trans hled) hF1.rdc to61 rfl (hx20 2 _ rfl)) rfl (fun _ => rfl) rfl
     · exact One.ex (fun H' τ w hled hM => Ex.move (.slice A2 n2 c2) rfl) rfl (fun _ => rfl) rfl
     · exact One.ex (fun H' τ w hled hM => Ex.move (.int .i64 v6) rfl) rfl (fun _ => rfl) rfl
     · exact One.ex (fun H' τ w hled hM => Ex.index st43 rfl rfl v6.toNat (hF2.ne hg21) hg21.nat (hF2.lt hg21)) rfl (fun _ => rfl) rfl
     · exact One.ex (fun H' τ w hled hM => Ex.fieldE fa100_2 (hF2.ne hg21) rfl) rfl (fun _ => rfl) rfl
     · exact One.ex (fun H' τ w hled hM => Ex.loadE hM (hle5.trans hled) hF2.rdc to61 rfl (hx23 2 _ rfl)) rfl (fun _ => rfl) rfl
     · exact One.call (ref03_SameSectors_lift ((ix x0 v6).Data) ((ix x1 v6).Data) hF19 hF22 hW27).toV en108 (fun _ => rfl) (fun _ => rfl) (fun _ => rfl) rfl
     · exact One.ex (fun H' τ w hled hM => Ex.not (p := v26 = true) (bvar _)) rfl (fun _ => rfl) rfl
     · exact One.ex (fun H' τ w hled hM => Ex.pickF (.bool (decide (¬ (v26 = true)))) rfl rfl) rfl (fun _ => rfl) rfl
     intro τ w hM
     change RW _ _ _ _ _ _ _ _ (sl [(0, .slice A1 n1 c1), (1, .slice A2 n2 c2), (5, .int .i64 v6), (54, .bool (decide (¬ (v26 = true))))] τ) _
     refine RW.nil ?_
     refine CW.cond_dec (p := ¬ (v26 = true)) rfl (fun hc28 => ?_) (fun hc28 => ?_)
     ·
      replace hm := And.left hm hc28
      refine CW.seq <| CW.region <| RW.st (Ex.assign (.bool false) rfl) rfl <| RW.nil <| CW.ret ?_
      refine blockQ_ret (thenQ_ret (thenQ_ret (blockQ_ret (thenQ_ret ?_))))
      refine end_tmp (.inl rfl) rfl (.bool false) rfl ?_
      exact ⟨_, _, hM, false, hm, rfl, rfl⟩
     ·
      replace hm := And.right hm hc28
      refine CW.skip <| CW.region <| RW.st (Ex.move (.int .i64 v6) rfl) rfl ?_
      obtain ⟨hg29, hm⟩ := hm
      refine RW.st (Ex.add rfl rfl hg29.1 hg29.2) rfl <| RW.st (Ex.assign (.int .i64 (v6 + 1)) rfl) rfl <| RW.nil ?_
      exact And.intro rfl ⟨k7, ⟨v6 + 1, Hk4, hle5.trans (Hp.le.refl _), sl_canon ⟨rfl, rfl, rfl, trivial⟩, hM, (by rw [hrec8]; exact hm)⟩, Nat.lt_succ_self _⟩
  ·
   replace hm := And.right hm hc9
   refine CW.exit ?_
   refine CW.seq <| CW.region <| RW.st (Ex.assign (.bool true) rfl) rfl <| RW.nil <| CW.ret ?_
   refine end_tmp (.inl rfl) rfl (.bool true) rfl ?_
   exact ⟨_, _, hM, true, hm, rfl, rfl⟩
end Go.Proofs.YtahlanamngfkcaaDoor

namespace Go.Proofs.YtahlanamngfkcaaDoor
open Go.RowKit
theorem slices_IndexFunc_int_int__cycle_positions_1_lift {H : Hp} (x0 : List Int) {A1 : Option Addr} {n1 c1 : Nat} {s1 : List Value} (hF1 : Fz (α := Int) H A1 n1 c1 x0 s1) {Φ : Int → Prop} (hm : slices_IndexFunc_int_int__cycle_positions_1_W x0 Φ) : RetP Tryd.prog 157 #[.slice A1 n1 c1, .func (.func 141) #[] #[]] H (fun _ v L => ∃ y, Φ y ∧ v = .int .i64 (y) ∧ L = []) := by
 refine RetP.of_code Tryd.func157 rfl (Nat.le_of_ble_eq_true rfl) fun w0 hM => ?_
 refine CW.seq <| CW.region <| RW.st (Ex.assign (.int .i64 0) rfl) rfl <| RW.nil <| CW.seq <| CW.seq <| CW.region <| RW.st (Ex.move (.slice A1 n1 c1) rfl) rfl <| RW.st (Ex.lenN st40.1 rfl hF1.hn) rfl <| RW.st (Ex.move (.int .i64 0) rfl) rfl <| RW.nil <| CW.block ?_
 obtain ⟨m15, hm⟩ := hm
 skip
 refine CW.loop (β := Nat) (fun n σ w => ∃ (v4 : Int), ∃ Hk2, H.le Hk2 ∧ (∃ τ, σ = sl [(0, .slice A1 n1 c1), (1, .func (.func 141) #[] #[]), (7, .int .i64 ((x0.length : Int))), (8, .int .i64 v4)] τ) ∧ Mem w0 H w Hk2 [] ∧ LoopN (slices_IndexFunc_int_int__cycle_positions_1_L1 x0 Φ) n (v4)) (fun n => n) m15 ⟨0, H, (Hp.le.refl _), sl_canon ⟨rfl, rfl, rfl, rfl, trivial⟩, hM, hm⟩ ?_
 rintro k5 _ w ⟨v4, Hk2, hle3, ⟨τ, rfl⟩, hM, hm⟩
 obtain _ | k5 := k5
 · exact hm.elim
 replace hm : (slices_IndexFunc_int_int__cycle_positions_1_L1 x0 Φ) (v4) (LoopN (slices_IndexFunc_int_int__cycle_positions_1_L1 x0 Φ) k5) := hm
 generalize hrec6 : LoopN (slices_IndexFunc_int_int__cycle_positions_1_L1 x0 Φ) k5 = rec1 at hm
 refine CW.seq <| CW.region <| RW.st (Ex.lss rfl rfl) rfl <| RW.nil <| CW.seq ?_
 refine CW.cond_dec (p := v4 < (x0.length : Int)) rfl (fun hc7 => ?_) (fun hc7 => ?_)
 ·
  replace hm := And.left hm hc7
  refine CW.skip <| CW.seq <| CW.block <| CW.seq <| CW.region <| RW.st (Ex.move (.int .i64 v4) rfl) rfl <| RW.st (Ex.assign (.int .i64 v4) rfl) rfl <| RW.nil <| CW.seq <| CW.region <| RW.st (Ex.move (.func (.func 141) #[] #[]) rfl) rfl <| RW.st (Ex.move (.slice A1 n1 c1) rfl) rfl <| RW.st (Ex.move (.int .i64 v4) rfl) rfl ?_
  obtain ⟨hg8, hm⟩ := hm
  refine RW.st (Ex.index st40 rfl rfl v4.toNat (hF1.ne hg8) hg8.nat (hF1.lt hg8)) rfl ?_
  obtain ⟨_, rfl, hx9⟩ := DtL.getI (α := Int) (hF1.mono hle3).dat hg8
  refine RW.st (Ex.loadE hM hle3 hF1.rdc to3 rfl (hx9 0 _ rfl)) rfl ?_
  refine RW.callP hM (cycle_positions_1_lift (ix x0 v4) hm) en141 rfl rfl rfl rfl ?_; rintro _ w H11 _ hle12 ⟨v10, hm, rfl, rfl⟩ hM
  replace hM : Mem w0 H w H11 [] := hM
  refine RW.nil ?_
  refine CW.cond_b rfl (fun hc13 => ?_) (fun hc13 => ?_)
  ·
   replace hm := And.left hm hc13
   refine CW.seq <| CW.region <| RW.st (Ex.move (.int .i64 v4) rfl) rfl <| RW.st (Ex.assign (.int .i64 v4) rfl) rfl <| RW.nil <| CW.ret ?_
   refine blockQ_ret (thenQ_ret (thenQ_ret (blockQ_ret (thenQ_ret ?_))))
   refine end_tmp (.inl rfl) rfl (.int .i64 v4) rfl ?_
   exact ⟨_, _, hM, v4, hm, rfl, rfl⟩
  ·
   replace hm := And.right hm hc13
   refine CW.skip <| CW.region ?_
   obtain ⟨hg14, hm⟩ := hm
   refine RW.st (Ex.add rfl rfl hg14.1 hg14.2) rfl <| RW.st (Ex.move (.int .i64 (v4 + 1)) rfl) rfl <| RW.nil ?_
   exact And.intro rfl ⟨k5, ⟨v4 + 1, H11, hle3.trans hle12, sl_canon ⟨rfl, rfl, rfl, rfl, trivial⟩, hM, (by rw [hrec6]; exact hm)⟩, Nat.lt_succ_self _⟩
 ·
  replace hm := And.right hm hc7
  refine CW.exit ?_
  refine CW.seq <| CW.region <| RW.st (Ex.assign (.int .i64 ((-1))) rfl) rfl <| RW.nil <| CW.ret ?_
  refine end_tmp (.inl rfl) rfl (.int .i64 ((-1))) rfl ?_
  exact ⟨_, _, hM, (-1), hm, rfl, rfl⟩
theorem ref46_Check_lift {H : Hp} (x0 : api_Point) {A1 : Option Addr} {n1 c1 : Nat} {s1 : List Value} (hF1 : Fz (α := api_Span) H A1 n1 c1 x0.Lineage s1) {A2 : Option Addr} {n2 c2 : Nat} {s2 : List Value} (hF2 : Fz (α := api_Bitmap) H A2 n2 c2 x0.Dirty s2) {A3 : Option Addr} {n3 c3 : Nat} {s3 : List Value} (hF3 : Fz (α := List Sec) H A3 n3 c3 x0.Image s3) {Φ : Int → Prop} (hm : ref46_Check_W x0 Φ) : RetP Tryd.prog 45 #[.agg #[.int .i64 x0.Site, .slice A1 n1 c1, .slice A2 n2 c2, .slice A3 n3 c3]] H (fun _ v L => ∃ y, Φ y ∧ v = .int .i64 (y) ∧ L = []) := by
 refine RetP.of_code Tryd.func45 rfl (Nat.le_of_ble_eq_true rfl) fun w0 hM => ?_
 refine CW.seq <| CW.region ?_
 refine RW.box hM (.agg #[.int .i64 x0.Site, .slice A1 n1 c1, .slice A2 n2 c2, .slice A3 n3 c3]) [.int .i64 x0.Site, .slice A1 n1 c1, .slice A2 n2 c2, .slice A3 n3 c3] rfl rfl rfl rfl ?_; intro b4 w hM
 replace hM : Mem w0 H w H [.box b4 27 [.int .i64 x0.Site, .slice A1 n1 c1, .slice A2 n2 c2, .slice A3 n3 c3]] := hM
 refine RW.st (Ex.assign (.int .i64 0) rfl) rfl <| RW.nil <| CW.seq ?_
 skip
 refine CW.cut (fun D σ w => D = [] ∧ (∃ τ, σ = sl [(1, .pointer (some ⟨b4, 0, none⟩)), (13, .bool (decide ((x0.Site < 0) ∨ (1073741824 < x0.Site))))] τ) ∧ Mem w0 H w H [.box b4 27 [.int .i64 x0.Site, .slice A1 n1 c1, .slice A2 n2 c2, .slice A3 n3 c3]]) ?_ ?_
 ·
  skip
  refine CW.region <| RW.st (Ex.fieldAddr fa27_0 rfl) rfl <| RW.st (Ex.load1 hM 0 to3 rfl rfl rfl) rfl <| RW.st (Ex.lss rfl rfl) rfl <| RW.st (Ex.move (.bool (decide (x0.Site < 0))) rfl) rfl ?_
  refine RW.split 9 (p := x0.Site < 0) rfl (fun hc5 => ?_) (fun hc5 => ?_)
  ·
   skip
   refine RW.pass rfl rfl <| RW.pass rfl rfl <| RW.pass rfl rfl <| RW.st (Ex.pickT (.bool true) rfl rfl) rfl <| RW.nil ?_
   exact And.intro rfl (And.intro (sl_canon ⟨rfl, (congrArg Value.bool (decide_eq_true (.inl hc5)).symm), trivial⟩) hM)
  ·
   skip
   refine RW.st (Ex.fieldAddr fa27_0 rfl) rfl <| RW.st (Ex.load1 hM 0 to3 rfl rfl rfl) rfl <| RW.st (Ex.gtr rfl rfl) rfl <| RW.st (Ex.pickF (.bool (decide (1073741824 < x0.Site))) rfl rfl) rfl <| RW.nil ?_
   exact And.intro rfl (And.intro (sl_canon ⟨rfl, (congrArg Value.bool (decide_eq_decide.2 (imOr hc5 Iff.rfl))), trivial⟩) hM)
 rintro _ _ w ⟨rfl, ⟨τ, rfl⟩, hM⟩
 refine CW.cond_dec (p := (x0.Site < 0) ∨ (1073741824 < x0.Site)) rfl (fun hc6 => ?_) (fun hc6 => ?_)
 ·
  replace hm := And.left hm hc6
  refine CW.seq <| CW.region <| RW.st (Ex.assign (.int .i64 2) rfl) rfl <| RW.nil <| CW.ret ?_
  refine thenQ_ret ?_
  refine end_tmp (.inl rfl) rfl (.int .i64 2) rfl ?_
  exact ⟨_, _, (hM.pick [] rfl rfl), 2, hm, rfl, rfl⟩
 ·
  replace hm := And.right hm hc6
  refine CW.skip <| CW.seq <| CW.seq <| CW.region <| RW.st (Ex.fieldAddr fa27_1 rfl) rfl <| RW.st (Ex.load1 hM 0 to22 rfl rfl rfl) rfl ?_
  refine RW.callP hM (ref46_Lineage_lift x0.Lineage hF1 hm) en96 rfl rfl rfl rfl ?_; rintro _ w H8 _ hle9 ⟨v7, hm, rfl, rfl⟩ hM
  replace hM : Mem w0 H w H8 [.box b4 27 [.int .i64 x0.Site, .slice A1 n1 c1, .slice A2 n2 c2, .slice A3 n3 c3]] := hM
  refine RW.st (Ex.not (p := v7 = true) (bvar _)) rfl <| RW.nil ?_
  refine CW.cond_dec (p := ¬ (v7 = true)) rfl (fun hc10 => ?_) (fun hc10 => ?_)
  ·
   replace hm := And.left hm hc10
   refine CW.seq <| CW.region <| RW.st (Ex.assign (.int .i64 3) rfl) rfl <| RW.nil <| CW.ret ?_
   refine thenQ_ret ?_
   refine end_tmp (.inl rfl) rfl (.int .i64 3) rfl ?_
   exact ⟨_, _, (hM.pick [] rfl rfl), 3, hm, rfl, rfl⟩
  ·
   replace hm := And.right hm hc10
   refine CW.skip <| CW.seq <| CW.seq <| CW.region <| RW.st (Ex.fieldAddr fa27_3 rfl) rfl <| RW.st (Ex.load1 hM 0 to25 rfl rfl rfl) rfl ?_
   refine RW.callP hM (ref07_Check_lift x0.Image (hF3.mono hle9) hm) en97 rfl rfl rfl rfl ?_; rintro _ w H12 _ hle13 ⟨v11, hm, rfl, rfl⟩ hM
   replace hM : Mem w0 H w H12 [.box b4 27 [.int .i64 x0.Site, .slice A1 n1 c1, .slice A2 n2 c2, .slice A3 n3 c3]] := hM
   refine RW.st (Ex.assign (.int .i64 v11) rfl) rfl <| RW.nil <| CW.seq <| CW.region <| RW.st (Ex.move (.int .i64 v11) rfl) rfl <| RW.st (Ex.neq rfl rfl) rfl <| RW.nil ?_
   refine CW.cond_dec (p := v11 ≠ 0) rfl (fun hc14 => ?_) (fun hc14 => ?_)
   ·
    replace hm := And.left hm hc14
    refine CW.seq <| CW.region <| RW.st (Ex.move (.int .i64 v11) rfl) rfl <| RW.st (Ex.assign (.int .i64 v11) rfl) rfl <| RW.nil <| CW.ret ?_
    refine thenQ_ret ?_
    refine end_tmp (.inl rfl) rfl (.int .i64 v11) rfl ?_
    exact ⟨_, _, (hM.pick [] rfl rfl), v11, hm, rfl, rfl⟩
   ·
    replace hm := And.right hm hc14
    refine CW.skip <| CW.seq <| CW.seq <| CW.region <| RW.st (Ex.fieldAddr fa27_2 rfl) rfl <| RW.st (Ex.load1 hM 0 to23 rfl rfl rfl) rfl <| RW.st (Ex.lenN st23.1 rfl hF2.hn) rfl <| RW.st (Ex.fieldAddr fa27_3 rfl) rfl <| RW.st (Ex.load1 hM 0 to25 rfl rfl rfl) rfl <| RW.st (Ex.lenN st25.1 rfl hF3.hn) rfl <| RW.st (Ex.neq rfl rfl) rfl <| RW.nil ?_
    refine CW.cond_dec (p := (x0.Dirty.length : Int) ≠ (x0.Image.length : Int)) rfl (fun hc15 => ?_) (fun hc15 => ?_)
    ·
     replace hm := And.left hm hc15
     refine CW.seq <| CW.region <| RW.st (Ex.assign (.int .i64 6) rfl) rfl <| RW.nil <| CW.ret ?_
     refine thenQ_ret ?_
     refine end_tmp (.inl rfl) rfl (.int .i64 6) rfl ?_
     exact ⟨_, _, (hM.pick [] rfl rfl), 6, hm, rfl, rfl⟩
    ·
     replace hm := And.right hm hc15
     refine CW.skip <| CW.seq <| CW.seq <| CW.region <| RW.st (Ex.assign (.int .i64 0) rfl) rfl <| RW.nil <| CW.block ?_
     obtain ⟨m34, hm⟩ := hm
     skip
     refine CW.loop (β := Nat) (fun n σ w => ∃ (v18 : Int), ∃ Hk16, H12.le Hk16 ∧ (∃ τ, σ = sl [(1, .pointer (some ⟨b4, 0, none⟩)), (4, .int .i64 v18)] τ) ∧ Mem w0 H w Hk16 [.box b4 27 [.int .i64 x0.Site, .slice A1 n1 c1, .slice A2 n2 c2, .slice A3 n3 c3]] ∧ LoopN (ref46_Check_L1 x0 Φ) n (v18)) (fun n => n) m34 ⟨0, H12, (Hp.le.refl _), sl_canon ⟨rfl, rfl, trivial⟩, hM, hm⟩ ?_
     rintro k19 _ w ⟨v18, Hk16, hle17, ⟨τ, rfl⟩, hM, hm⟩
     obtain _ | k19 := k19
     · exact hm.elim
     replace hm : (ref46_Check_L1 x0 Φ) (v18) (LoopN (ref46_Check_L1 x0 Φ) k19) := hm
     generalize hrec20 : LoopN (ref46_Check_L1 x0 Φ) k19 = rec1 at hm
     refine CW.seq <| CW.seq <| CW.region <| RW.st (Ex.move (.int .i64 v18) rfl) rfl <| RW.st (Ex.fieldAddr fa27_2 rfl) rfl <| RW.st (Ex.load1 hM 0 to23 rfl rfl rfl) rfl <| RW.st (Ex.lenN st23.1 rfl hF2.hn) rfl <| RW.st (Ex.lss rfl rfl) rfl <| RW.nil ?_
     refine CW.cond_dec (p := v18 < (x0.Dirty.length : Int)) rfl (fun hc21 => ?_) (fun hc21 => ?_)
     ·
      replace hm := And.left hm hc21
      refine CW.skip <| CW.seq <| CW.block <| CW.seq <| CW.seq <| CW.region <| RW.st (Ex.fieldAddr fa27_2 rfl) rfl <| RW.st (Ex.load1 hM 0 to23 rfl rfl rfl) rfl <| RW.st (Ex.move (.int .i64 v18) rfl) rfl ?_
      obtain ⟨hg22, hm⟩ := hm
      refine RW.st (Ex.index st23 rfl rfl v18.toNat (hF2.ne hg22) hg22.nat (hF2.lt hg22)) rfl ?_
      obtain ⟨_, ⟨A23, n23, c23, s23, rfl, hF23⟩, hx24⟩ := DtL.getI (α := api_Bitmap) (hF2.mono ((hle9.trans hle13).trans hle17)).dat hg22
      refine RW.st (Ex.loadEA hM ((hle9.trans hle13).trans hle17) hF2.rdc [.int .i64 ((ix x0.Dirty v18).Size), .slice A23 n23 c23] ta65 rfl (hF2.ne hg22) rfl (chunk_sub (off := 0) (n := 2) hx24 rfl)) rfl ?_
      refine RW.callP hM (ref02_Check_lift (ix x0.Dirty v18) hF23 hm) en67 rfl rfl rfl rfl ?_; rintro _ w H26 _ hle27 ⟨v25, hm, rfl, rfl⟩ hM
      replace hM : Mem w0 H w H26 [.box b4 27 [.int .i64 x0.Site, .slice A1 n1 c1, .slice A2 n2 c2, .slice A3 n3 c3]] := hM
      refine RW.st (Ex.assign (.int .i64 v25) rfl) rfl <| RW.nil <| CW.seq <| CW.region <| RW.st (Ex.move (.int .i64 v25) rfl) rfl <| RW.st (Ex.neq rfl rfl) rfl <| RW.nil ?_
      refine CW.cond_dec (p := v25 ≠ 0) rfl (fun hc28 => ?_) (fun hc28 => ?_)
      ·
       replace hm := And.left hm hc28
       refine CW.seq <| CW.region <| RW.st (Ex.move (.int .i64 v25) rfl) rfl <| RW.st (Ex.assign (.int .i64 v25) rfl) rfl <| RW.nil <| CW.ret ?_
       refine thenQ_ret (blockQ_ret (thenQ_ret (thenQ_ret (blockQ_ret (thenQ_ret ?_)))))
       refine end_tmp (.inl rfl) rfl (.int .i64 v25) rfl ?_
       exact ⟨_, _, (hM.pick [] rfl rfl), v25, hm, rfl, rfl⟩
      ·
       replace hm := And.right hm hc28
       refine CW.skip <| CW.seq ?_
       obtain ⟨hg29, hm⟩ := hm
       obtain ⟨_, ⟨A30, n30, c30, s30, rfl, hF30⟩, hx31⟩ := DtL.getI (α := List Sec) (hF3.mono (((hle9.trans hle13).trans hle17).trans hle27)).dat hg29
       refine CW.drawE 13 [.pointer (some ⟨b4, 2, none⟩), .slice A2 n2 c2, .int .i64 v18, elp A2 (v18.toNat * 2 + 0), elp A2 (v18.toNat * 2 + 0), .int .i64 ((ix x0.Dirty v18).Size), .pointer (some ⟨b4, 3, none⟩), .slice A3 n3 c3, .int .i64 v18, elp A3 (v18.toNat * 1 + 0), .slice A30 n30 c30, .int .i64 (((ix x0.Image v18).length : Int)), .bool (decide (((ix x0.Dirty v18).Size) ≠ ((ix x0.Image v18).length : Int)))]
        [[(1, none)], [(47, some 0)], [(4, none)], [(48, some 1), (49, some 2)], [(50, some 3)], [(51, some 4)], [(1, none)], [(53, some 6)], [(4, none)], [(54, some 7), (55, some 8)], [(56, some 9)], [(57, some 10)], [(52, some 5), (58, some 11)]] [(1, none), (4, none), (59, some 12)] (by kernel_rfl) hM (by kernel_rfl) ⟨?_, ?_, ?_, ?_, ?_, ?_, ?_, ?_, ?_, ?_, ?_, ?_, ?_, trivial⟩ ?_
       · exact One.ex (fun H' τ w hled hM => Ex.fieldAddr fa27_2 rfl) rfl (fun _ => rfl) rfl
       · exact One.ex (fun H' τ w hled hM => Ex.load1 hM 0 to23 rfl rfl rfl) rfl (fun _ => rfl) rfl
       · exact One.ex (fun H' τ w hled hM => Ex.move (.int .i64 v18) rfl) rfl (fun _ => rfl) rfl
       · exact One.ex (fun H' τ w hled hM => Ex.index st23 rfl rfl v18.toNat (hF2.ne hg22) hg22.nat (hF2.lt hg22)) rfl (fun _ => rfl) rfl
       · exact One.ex (fun H' τ w hled hM => Ex.fieldE fa65_0 (hF2.ne hg22) rfl) rfl (fun _ => rfl) rfl
       · exact One.ex (fun H' τ w hled hM => Ex.loadE hM ((((hle9.trans hle13).trans hle17).trans hle27).trans hled) hF2.rdc to3 rfl (hx24 0 _ rfl)) rfl (fun _ => rfl) rfl
       · exact One.ex (fun H' τ w hled hM => Ex.fieldAddr fa27_3 rfl) rfl (fun _ => rfl) rfl
       · exact One.ex (fun H' τ w hled hM => Ex.load1 hM 0 to25 rfl rfl rfl) rfl (fun _ => rfl) rfl
       · exact One.ex (fun H' τ w hled hM => Ex.move (.int .i64 v18) rfl) rfl (fun _ => rfl) rfl
       · exact One.ex (fun H' τ w hled hM => Ex.index st25 rfl rfl v18.toNat (hF3.ne hg29) hg29.nat (hF3.lt hg29)) rfl (fun _ => rfl) rfl
       · exact One.ex (fun H' τ w hled hM => Ex.loadE hM ((((hle9.trans hle13).trans hle17).trans hle27).trans hled) hF3.rdc to61 rfl (hx31 0 _ rfl)) rfl (fun _ => rfl) rfl
       · exact One.ex (fun H' τ w hled hM => Ex.lenN st61.1 rfl hF30.hn) rfl (fun _ => rfl) rfl
       · exact One.ex (fun H' τ w hled hM => Ex.neq rfl rfl) rfl (fun _ => rfl) rfl
       intro τ w hM
       change RW _ _ _ _ _ _ _ _ (sl [(1, .pointer (some ⟨b4, 0, none⟩)), (4, .int .i64 v18), (59, .bool (decide (((ix x0.Dirty v18).Size) ≠ ((ix x0.Image v18).length : Int))))] τ) _
       refine RW.nil ?_
       refine CW.cond_dec (p := ((ix x0.Dirty v18).Size) ≠ ((ix x0.Image v18).length : Int)) rfl (fun hc32 => ?_) (fun hc32 => ?_)
       ·
        replace hm := And.left hm hc32
        refine CW.seq <| CW.region <| RW.st (Ex.assign (.int .i64 22) rfl) rfl <| RW.nil <| CW.ret ?_
        refine blockQ_ret (thenQ_ret (thenQ_ret (blockQ_ret (thenQ_ret ?_))))
        refine end_tmp (.inl rfl) rfl (.int .i64 22) rfl ?_
        exact ⟨_, _, (hM.pick [] rfl rfl), 22, hm, rfl, rfl⟩
       ·
        replace hm := And.right hm hc32
        refine CW.skip <| CW.region <| RW.st (Ex.move (.int .i64 v18) rfl) rfl ?_
        obtain ⟨hg33, hm⟩ := hm
        refine RW.st (Ex.add rfl rfl hg33.1 hg33.2) rfl <| RW.st (Ex.assign (.int .i64 (v18 + 1)) rfl) rfl <| RW.nil ?_
        exact And.intro rfl ⟨k19, ⟨v18 + 1, H26, hle17.trans hle27, sl_canon ⟨rfl, rfl, trivial⟩, hM, (by rw [hrec20]; exact hm)⟩, Nat.lt_succ_self _⟩
     ·
      replace hm := And.right hm hc21
      refine CW.exit ?_
      refine CW.seq <| CW.region <| RW.st (Ex.assign (.int .i64 0) rfl) rfl <| RW.nil <| CW.ret ?_
      refine end_tmp (.inl rfl) rfl (.int .i64 0) rfl ?_
      exact ⟨_, _, (hM.pick [] rfl rfl), 0, hm, rfl, rfl⟩
theorem ref02_Get_lift {H : Hp} (x0 : api_Bitmap) (x1 : Int) {A1 : Option Addr} {n1 c1 : Nat} {s1 : List Value} (hF1 : Fz (α := BitVec 64) H A1 n1 c1 x0.Words s1) {Φ : Bool → Prop} (hm : ref02_Get_W x0 x1 Φ) : RetP Tryd.prog 27 #[.agg #[.int .i64 x0.Size, .slice A1 n1 c1], .int .i64 x1] H (fun _ v L => ∃ y, Φ y ∧ v = .bool y ∧ L = []) := by
 refine RetP.of_code Tryd.func27 rfl (Nat.le_of_ble_eq_true rfl) fun w0 hM => ?_
 refine CW.seq <| CW.region ?_
 refine RW.box hM (.agg #[.int .i64 x0.Size, .slice A1 n1 c1]) [.int .i64 x0.Size, .slice A1 n1 c1] rfl rfl rfl rfl ?_; intro b2 w hM
 replace hM : Mem w0 H w H [.box b2 65 [.int .i64 x0.Size, .slice A1 n1 c1]] := hM
 refine RW.st (Ex.assign (.bool false) rfl) rfl <| RW.nil <| CW.seq <| CW.region <| RW.st (Ex.loadA hM 0 [.int .i64 x0.Size, .slice A1 n1 c1] ta65 rfl rfl rfl rfl) rfl ?_
 refine RW.callP hM (ref02_Check_lift x0 hF1 hm) en67 rfl rfl rfl rfl ?_; rintro _ w H7 _ hle8 ⟨v6, hm, rfl, rfl⟩ hM
 replace hM : Mem w0 H w H7 [.box b2 65 [.int .i64 x0.Size, .slice A1 n1 c1]] := hM
 refine RW.st (Ex.eql rfl rfl) rfl <| RW.st (Ex.move (.bool (decide (v6 = 0))) rfl) rfl ?_
 refine RW.split 8 (p := v6 = 0) rfl (fun hc9 => ?_) (fun hc9 => ?_)
 ·
  replace hm := And.left hm hc9
  refine RW.st (Ex.move (.int .i64 x1) rfl) rfl <| RW.st (Ex.geq rfl rfl) rfl <| RW.st (Ex.pickT (.bool (decide (0 ≤ x1))) rfl rfl) rfl <| RW.st (Ex.move (.bool (decide (0 ≤ x1))) rfl) rfl ?_
  refine RW.split 12 (p := 0 ≤ x1) rfl (fun hc10 => ?_) (fun hc10 => ?_)
  ·
   replace hm := And.left hm hc10
   refine RW.st (Ex.move (.int .i64 x1) rfl) rfl <| RW.st (Ex.fieldAddr fa65_0 rfl) rfl <| RW.st (Ex.load1 hM 0 to3 rfl rfl rfl) rfl <| RW.st (Ex.lss rfl rfl) rfl <| RW.st (Ex.pickT (.bool (decide (x1 < x0.Size))) rfl rfl) rfl <| RW.st (Ex.move (.bool (decide (x1 < x0.Size))) rfl) rfl ?_
   refine RW.split 18 (p := x1 < x0.Size) rfl (fun hc11 => ?_) (fun hc11 => ?_)
   ·
    replace hm := And.left hm hc11
    refine RW.st (Ex.loadA hM 0 [.int .i64 x0.Size, .slice A1 n1 c1] ta65 rfl rfl rfl rfl) rfl <| RW.st (Ex.move (.int .i64 x1) rfl) rfl ?_
    refine RW.callP hM (ref02_bit_lift x0 x1 (hF1.mono hle8) hm) en68 rfl rfl rfl rfl ?_; rintro _ w H13 _ hle14 ⟨v12, hm, rfl, rfl⟩ hM
    replace hM : Mem w0 H w H13 [.box b2 65 [.int .i64 x0.Size, .slice A1 n1 c1]] := hM
    refine RW.st (Ex.pickT (.bool v12) rfl rfl) rfl <| RW.st (Ex.assign (.bool v12) rfl) rfl <| RW.nil <| CW.ret ?_
    refine end_tmp (.inl rfl) rfl (.bool v12) rfl ?_
    exact ⟨_, _, (hM.pick [] rfl rfl), v12, hm, rfl, rfl⟩
   ·
    replace hm := And.right hm hc11
    refine RW.pass rfl rfl <| RW.pass rfl rfl <| RW.pass rfl rfl <| RW.st (Ex.pickF (.bool false) rfl rfl) rfl <| RW.st (Ex.assign (.bool false) rfl) rfl <| RW.nil <| CW.ret ?_
    refine end_tmp (.inl rfl) rfl (.bool false) rfl ?_
    exact ⟨_, _, (hM.pick [] rfl rfl), false, hm, rfl, rfl⟩
  ·
   replace hm := And.right hm hc10
   refine RW.pass rfl rfl <| RW.pass rfl rfl <| RW.pass rfl rfl <| RW.pass rfl rfl <| RW.st (Ex.pickF (.bool false) rfl rfl) rfl <| RW.st (Ex.move (.bool false) rfl) rfl <| RW.pass rfl rfl <| RW.pass rfl rfl <| RW.pass rfl rfl <| RW.st (Ex.pickF (.bool false) rfl rfl) rfl <| RW.st (Ex.assign (.bool false) rfl) rfl <| RW.nil <| CW.ret ?_
   refine end_tmp (.inl rfl) rfl (.bool false) rfl ?_
   exact ⟨_, _, (hM.pick [] rfl rfl), false, hm, rfl, rfl⟩
 ·
  replace hm := And.right hm hc9
  refine RW.pass rfl rfl <| RW.pass rfl rfl <| RW.st (Ex.pickF (.bool false) rfl rfl) rfl <| RW.st (Ex.move (.bool false) rfl) rfl <| RW.pass rfl rfl <| RW.pass rfl rfl <| RW.pass rfl rfl <| RW.pass rfl rfl <| RW.st (Ex.pickF (.bool false) rfl rfl) rfl <| RW.st (Ex.move (.bool false) rfl) rfl <| RW.pass rfl rfl <| RW.pass rfl rfl <| RW.pass rfl rfl <| RW.st (Ex.pickF (.bool false) rfl rfl) rfl ?_
  refine RW.st (Ex.assign (.bool false) rfl) rfl <| RW.nil <| CW.ret ?_
  refine end_tmp (.inl rfl) rfl (.bool false) rfl ?_
  exact ⟨_, _, (hM.pick [] rfl rfl), false, hm, rfl, rfl⟩
theorem ref23_Check_lift {H : Hp} (x0 : api_Cycle) (x1 : List Int) {A1 : Option Addr} {n1 c1 : Nat} {s1 : List Value} (hF1 : Fz (α := Int) H A1 n1 c1 x0.Positions s1) {A2 : Option Addr} {n2 c2 : Nat} {s2 : List Value} (hF2 : Fz (α := api_Write) H A2 n2 c2 x0.Writes s2) {A3 : Option Addr} {n3 c3 : Nat} {s3 : List Value} (hF3 : Fz (α := Int) H A3 n3 c3 x1 s3) {Φ : Int → Prop} (hm : ref23_Check_W x0 x1 Φ) : RetP Tryd.prog 56 #[.agg #[.int .i64 x0.Base, .int .i64 x0.Number, .int .i64 x0.Time, .slice A1 n1 c1, .slice A2 n2 c2], .slice A3 n3 c3] H (fun _ v L => ∃ y, Φ y ∧ v = .int .i64 (y) ∧ L = []) := by
 refine RetP.of_code Tryd.func56 rfl (Nat.le_of_ble_eq_true rfl) fun w0 hM => ?_
 refine CW.seq <| CW.region ?_
 refine RW.box hM (.agg #[.int .i64 x0.Base, .int .i64 x0.Number, .int .i64 x0.Time, .slice A1 n1 c1, .slice A2 n2 c2]) [.int .i64 x0.Base, .int .i64 x0.Number, .int .i64 x0.Time, .slice A1 n1 c1, .slice A2 n2 c2] rfl rfl rfl rfl ?_; intro b4 w hM
 replace hM : Mem w0 H w H [.box b4 45 [.int .i64 x0.Base, .int .i64 x0.Number, .int .i64 x0.Time, .slice A1 n1 c1, .slice A2 n2 c2]] := hM
 refine RW.st (Ex.assign (.int .i64 0) rfl) rfl <| RW.nil <| CW.seq <| CW.seq <| CW.region <| RW.st (Ex.move (.slice A3 n3 c3) rfl) rfl ?_
 refine RW.callP hM (ref07_Sizes_lift x1 hF3 hm) en73 rfl rfl rfl rfl ?_; rintro _ w H6 _ hle7 ⟨v5, hm, rfl, rfl⟩ hM
 replace hM : Mem w0 H w H6 [.box b4 45 [.int .i64 x0.Base, .int .i64 x0.Number, .int .i64 x0.Time, .slice A1 n1 c1, .slice A2 n2 c2]] := hM
 refine RW.st (Ex.assign (.int .i64 v5) rfl) rfl <| RW.nil <| CW.seq <| CW.region <| RW.st (Ex.move (.int .i64 v5) rfl) rfl <| RW.st (Ex.neq rfl rfl) rfl <| RW.nil ?_
 refine CW.cond_dec (p := v5 ≠ 0) rfl (fun hc8 => ?_) (fun hc8 => ?_)
 ·
  replace hm := And.left hm hc8
  refine CW.seq <| CW.region <| RW.st (Ex.move (.int .i64 v5) rfl) rfl <| RW.st (Ex.assign (.int .i64 v5) rfl) rfl <| RW.nil <| CW.ret ?_
  refine thenQ_ret ?_
  refine end_tmp (.inl rfl) rfl (.int .i64 v5) rfl ?_
  exact ⟨_, _, (hM.pick [] rfl rfl), v5, hm, rfl, rfl⟩
 ·
  replace hm := And.right hm hc8
  refine CW.skip <| CW.seq ?_
  skip
  refine CW.cut (fun D σ w => D = [] ∧ (∃ τ, σ = sl [(1, .slice A3 n3 c3), (2, .pointer (some ⟨b4, 0, none⟩)), (26, .bool (decide ((x0.Base < 0) ∨ ((x0.Number ≤ x0.Base) ∨ (1073741824 < x0.Number)))))] τ) ∧ Mem w0 H w H6 [.box b4 45 [.int .i64 x0.Base, .int .i64 x0.Number, .int .i64 x0.Time, .slice A1 n1 c1, .slice A2 n2 c2]]) ?_ ?_
  ·
   skip
   refine CW.region <| RW.st (Ex.fieldAddr fa45_0 rfl) rfl <| RW.st (Ex.load1 hM 0 to3 rfl rfl rfl) rfl <| RW.st (Ex.lss rfl rfl) rfl <| RW.st (Ex.move (.bool (decide (x0.Base < 0))) rfl) rfl ?_
   refine RW.split 15 (p := x0.Base < 0) rfl (fun hc9 => ?_) (fun hc9 => ?_)
   ·
    skip
    refine RW.pass rfl rfl <| RW.pass rfl rfl <| RW.pass rfl rfl <| RW.pass rfl rfl <| RW.pass rfl rfl <| RW.st (Ex.pickT (.bool true) rfl rfl) rfl <| RW.st (Ex.move (.bool true) rfl) rfl <| RW.pass rfl rfl <| RW.pass rfl rfl <| RW.pass rfl rfl <| RW.st (Ex.pickT (.bool true) rfl rfl) rfl <| RW.nil ?_
    exact And.intro rfl (And.intro (sl_canon ⟨rfl, rfl, (congrArg Value.bool (decide_eq_true (.inl hc9)).symm), trivial⟩) hM)
   ·
    skip
    refine RW.st (Ex.fieldAddr fa45_1 rfl) rfl <| RW.st (Ex.load1 hM 0 to3 rfl rfl rfl) rfl <| RW.st (Ex.fieldAddr fa45_0 rfl) rfl <| RW.st (Ex.load1 hM 0 to3 rfl rfl rfl) rfl <| RW.st (Ex.leq rfl rfl) rfl <| RW.st (Ex.pickF (.bool (decide (x0.Number ≤ x0.Base))) rfl rfl) rfl <| RW.st (Ex.move (.bool (decide (x0.Number ≤ x0.Base))) rfl) rfl ?_
    refine RW.split 22 (p := x0.Number ≤ x0.Base) rfl (fun hc10 => ?_) (fun hc10 => ?_)
    ·
     skip
     refine RW.pass rfl rfl <| RW.pass rfl rfl <| RW.pass rfl rfl <| RW.st (Ex.pickT (.bool true) rfl rfl) rfl <| RW.nil ?_
     exact And.intro rfl (And.intro (sl_canon ⟨rfl, rfl, (congrArg Value.bool (decide_eq_true (.inr (.inl hc10))).symm), trivial⟩) hM)
    ·
     skip
     refine RW.st (Ex.fieldAddr fa45_1 rfl) rfl <| RW.st (Ex.load1 hM 0 to3 rfl rfl rfl) rfl <| RW.st (Ex.gtr rfl rfl) rfl <| RW.st (Ex.pickF (.bool (decide (1073741824 < x0.Number))) rfl rfl) rfl <| RW.nil ?_
     exact And.intro rfl (And.intro (sl_canon ⟨rfl, rfl, (congrArg Value.bool (decide_eq_decide.2 (imOr hc9 (imOr hc10 Iff.rfl)))), trivial⟩) hM)
  rintro _ _ w ⟨rfl, ⟨τ, rfl⟩, hM⟩
  refine CW.cond_dec (p := (x0.Base < 0) ∨ ((x0.Number ≤ x0.Base) ∨ (1073741824 < x0.Number))) rfl (fun hc11 => ?_) (fun hc11 => ?_)
  ·
   replace hm := And.left hm hc11
   refine CW.seq <| CW.region <| RW.st (Ex.assign (.int .i64 2) rfl) rfl <| RW.nil <| CW.ret ?_
   refine thenQ_ret ?_
   refine end_tmp (.inl rfl) rfl (.int .i64 2) rfl ?_
   exact ⟨_, _, (hM.pick [] rfl rfl), 2, hm, rfl, rfl⟩
  ·
   replace hm := And.right hm hc11
   refine CW.skip <| CW.seq ?_
   skip
   refine CW.cut (fun D σ w => D = [] ∧ (∃ τ, σ = sl [(1, .slice A3 n3 c3), (2, .pointer (some ⟨b4, 0, none⟩)), (34, .bool (decide ((x0.Time < 0) ∨ (1073741824 < x0.Time))))] τ) ∧ Mem w0 H w H6 [.box b4 45 [.int .i64 x0.Base, .int .i64 x0.Number, .int .i64 x0.Time, .slice A1 n1 c1, .slice A2 n2 c2]]) ?_ ?_
   ·
    skip
    refine CW.region <| RW.st (Ex.fieldAddr fa45_2 rfl) rfl <| RW.st (Ex.load1 hM 0 to3 rfl rfl rfl) rfl <| RW.st (Ex.lss rfl rfl) rfl <| RW.st (Ex.move (.bool (decide (x0.Time < 0))) rfl) rfl ?_
    refine RW.split 30 (p := x0.Time < 0) rfl (fun hc12 => ?_) (fun hc12 => ?_)
    ·
     skip
     refine RW.pass rfl rfl <| RW.pass rfl rfl <| RW.pass rfl rfl <| RW.st (Ex.pickT (.bool true) rfl rfl) rfl <| RW.nil ?_
     exact And.intro rfl (And.intro (sl_canon ⟨rfl, rfl, (congrArg Value.bool (decide_eq_true (.inl hc12)).symm), trivial⟩) hM)
    ·
     skip
     refine RW.st (Ex.fieldAddr fa45_2 rfl) rfl <| RW.st (Ex.load1 hM 0 to3 rfl rfl rfl) rfl <| RW.st (Ex.gtr rfl rfl) rfl <| RW.st (Ex.pickF (.bool (decide (1073741824 < x0.Time))) rfl rfl) rfl <| RW.nil ?_
     exact And.intro rfl (And.intro (sl_canon ⟨rfl, rfl, (congrArg Value.bool (decide_eq_decide.2 (imOr hc12 Iff.rfl))), trivial⟩) hM)
   rintro _ _ w ⟨rfl, ⟨τ, rfl⟩, hM⟩
   refine CW.cond_dec (p := (x0.Time < 0) ∨ (1073741824 < x0.Time)) rfl (fun hc13 => ?_) (fun hc13 => ?_)
   ·
    replace hm := And.left hm hc13
    refine CW.seq <| CW.region <| RW.st (Ex.assign (.int .i64 24) rfl) rfl <| RW.nil <| CW.ret ?_
    refine thenQ_ret ?_
    refine end_tmp (.inl rfl) rfl (.int .i64 24) rfl ?_
    exact ⟨_, _, (hM.pick [] rfl rfl), 24, hm, rfl, rfl⟩
   ·
    replace hm := And.right hm hc13
    refine CW.skip <| CW.seq <| CW.seq <| CW.region <| RW.st (Ex.fieldAddr fa45_3 rfl) rfl <| RW.st (Ex.load1 hM 0 to40 rfl rfl rfl) rfl <| RW.st (Ex.lenN st40.1 rfl hF1.hn) rfl <| RW.st (Ex.gtr rfl rfl) rfl <| RW.nil ?_
    refine CW.cond_dec (p := 8 < (x0.Positions.length : Int)) rfl (fun hc14 => ?_) (fun hc14 => ?_)
    ·
     replace hm := And.left hm hc14
     refine CW.seq <| CW.region <| RW.st (Ex.assign (.int .i64 6) rfl) rfl <| RW.nil <| CW.ret ?_
     refine thenQ_ret ?_
     refine end_tmp (.inl rfl) rfl (.int .i64 6) rfl ?_
     exact ⟨_, _, (hM.pick [] rfl rfl), 6, hm, rfl, rfl⟩
    ·
     replace hm := And.right hm hc14
     refine CW.skip <| CW.seq <| CW.seq <| CW.region <| RW.st (Ex.fieldAddr fa45_3 rfl) rfl <| RW.st (Ex.load1 hM 0 to40 rfl rfl rfl) rfl ?_
     refine RW.callP hM (ref23_positions_lift x0.Positions (hF1.mono hle7) hm) en106 rfl rfl rfl rfl ?_; rintro _ w H16 _ hle17 ⟨v15, hm, rfl, rfl⟩ hM
     replace hM : Mem w0 H w H16 [.box b4 45 [.int .i64 x0.Base, .int .i64 x0.Number, .int .i64 x0.Time, .slice A1 n1 c1, .slice A2 n2 c2]] := hM
     refine RW.st (Ex.assign (.int .i64 v15) rfl) rfl <| RW.nil <| CW.seq <| CW.region <| RW.st (Ex.move (.int .i64 v15) rfl) rfl <| RW.st (Ex.neq rfl rfl) rfl <| RW.nil ?_
     refine CW.cond_dec (p := v15 ≠ 0) rfl (fun hc18 => ?_) (fun hc18 => ?_)
     ·
      replace hm := And.left hm hc18
      refine CW.seq <| CW.region <| RW.st (Ex.move (.int .i64 v15) rfl) rfl <| RW.st (Ex.assign (.int .i64 v15) rfl) rfl <| RW.nil <| CW.ret ?_
      refine thenQ_ret ?_
      refine end_tmp (.inl rfl) rfl (.int .i64 v15) rfl ?_
      exact ⟨_, _, (hM.pick [] rfl rfl), v15, hm, rfl, rfl⟩
     ·
      replace hm := And.right hm hc18
      refine CW.skip <| CW.seq <| CW.region <| RW.st (Ex.fieldAddr fa45_4 rfl) rfl <| RW.st (Ex.load1 hM 0 to43 rfl rfl rfl) rfl <| RW.st (Ex.move (.slice A3 n3 c3) rfl) rfl ?_
      refine RW.callP hM (ref22_Check_lift x0.Writes x1 (hF2.mono (hle7.trans hle17)) (hF3.mono (hle7.trans hle17)) hm) en107 rfl rfl rfl rfl ?_; rintro _ w H20 _ hle21 ⟨v19, hm, rfl, rfl⟩ hM
      replace hM : Mem w0 H w H20 [.box b4 45 [.int .i64 x0.Base, .int .i64 x0.Number, .int .i64 x0.Time, .slice A1 n1 c1, .slice A2 n2 c2]] := hM
      refine RW.st (Ex.assign (.int .i64 v19) rfl) rfl <| RW.nil <| CW.ret ?_
      refine end_tmp (.inl rfl) rfl (.int .i64 v19) rfl ?_
      exact ⟨_, _, (hM.pick [] rfl rfl), v19, hm, rfl, rfl⟩
theorem ref23_Same_lift {H : Hp} (x0 : api_Cycle) (x1 : api_Cycle) {A1 : Option Addr} {n1 c1 : Nat} {s1 : List Value} (hF1 : Fz (α := Int) H A1 n1 c1 x0.Positions s1) {A2 : Option Addr} {n2 c2 : Nat} {s2 : List Value} (hF2 : Fz (α := api_Write) H A2 n2 c2 x0.Writes s2) {A3 : Option Addr} {n3 c3 : Nat} {s3 : List Value} (hF3 : Fz (α := Int) H A3 n3 c3 x1.Positions s3) {A4 : Option Addr} {n4 c4 : Nat} {s4 : List Value} (hF4 : Fz (α := api_Write) H A4 n4 c4 x1.Writes s4) {Φ : Bool → Prop} (hm : ref23_Same_W x0 x1 Φ) : RetP Tryd.prog 19 #[.agg #[.int .i64 x0.Base, .int .i64 x0.Number, .int .i64 x0.Time, .slice A1 n1 c1, .slice A2 n2 c2], .agg #[.int .i64 x1.Base, .int .i64 x1.Number, .int .i64 x1.Time, .slice A3 n3 c3, .slice A4 n4 c4]] H (fun _ v L => ∃ y, Φ y ∧ v = .bool y ∧ L = []) := by
 refine RetP.of_code Tryd.func19 rfl (Nat.le_of_ble_eq_true rfl) fun w0 hM => ?_
 refine CW.seq <| CW.region ?_
 refine RW.box hM (.agg #[.int .i64 x0.Base, .int .i64 x0.Number, .int .i64 x0.Time, .slice A1 n1 c1, .slice A2 n2 c2]) [.int .i64 x0.Base, .int .i64 x0.Number, .int .i64 x0.Time, .slice A1 n1 c1, .slice A2 n2 c2] rfl rfl rfl rfl ?_; intro b5 w hM
 replace hM : Mem w0 H w H [.box b5 45 [.int .i64 x0.Base, .int .i64 x0.Number, .int .i64 x0.Time, .slice A1 n1 c1, .slice A2 n2 c2]] := hM
 refine RW.box hM (.agg #[.int .i64 x1.Base, .int .i64 x1.Number, .int .i64 x1.Time, .slice A3 n3 c3, .slice A4 n4 c4]) [.int .i64 x1.Base, .int .i64 x1.Number, .int .i64 x1.Time, .slice A3 n3 c3, .slice A4 n4 c4] rfl rfl rfl rfl ?_; intro b6 w hM
 replace hM : Mem w0 H w H [.box b6 45 [.int .i64 x1.Base, .int .i64 x1.Number, .int .i64 x1.Time, .slice A3 n3 c3, .slice A4 n4 c4], .box b5 45 [.int .i64 x0.Base, .int .i64 x0.Number, .int .i64 x0.Time, .slice A1 n1 c1, .slice A2 n2 c2]] := hM
 refine RW.st (Ex.assign (.bool false) rfl) rfl <| RW.nil <| CW.seq <| CW.region <| RW.st (Ex.fieldAddr fa45_0 rfl) rfl <| RW.st (Ex.load1 hM 1 to3 rfl rfl rfl) rfl <| RW.st (Ex.fieldAddr fa45_0 rfl) rfl <| RW.st (Ex.load1 hM 0 to3 rfl rfl rfl) rfl <| RW.st (Ex.eql rfl rfl) rfl <| RW.st (Ex.move (.bool (decide (x0.Base = x1.Base))) rfl) rfl ?_
 refine RW.split 10 (p := x0.Base = x1.Base) rfl (fun hc10 => ?_) (fun hc10 => ?_)
 ·
  replace hm := And.left hm hc10
  refine RW.st (Ex.fieldAddr fa45_1 rfl) rfl <| RW.st (Ex.load1 hM 1 to3 rfl rfl rfl) rfl <| RW.st (Ex.fieldAddr fa45_1 rfl) rfl <| RW.st (Ex.load1 hM 0 to3 rfl rfl rfl) rfl <| RW.st (Ex.eql rfl rfl) rfl <| RW.st (Ex.pickT (.bool (decide (x0.Number = x1.Number))) rfl rfl) rfl <| RW.st (Ex.move (.bool (decide (x0.Number = x1.Number))) rfl) rfl ?_
  refine RW.split 17 (p := x0.Number = x1.Number) rfl (fun hc11 => ?_) (fun hc11 => ?_)
  ·
   replace hm := And.left hm hc11
   refine RW.st (Ex.fieldAddr fa45_2 rfl) rfl <| RW.st (Ex.load1 hM 1 to3 rfl rfl rfl) rfl <| RW.st (Ex.fieldAddr fa45_2 rfl) rfl <| RW.st (Ex.load1 hM 0 to3 rfl rfl rfl) rfl <| RW.st (Ex.eql rfl rfl) rfl <| RW.st (Ex.pickT (.bool (decide (x0.Time = x1.Time))) rfl rfl) rfl <| RW.st (Ex.move (.bool (decide (x0.Time = x1.Time))) rfl) rfl ?_
   refine RW.split 24 (p := x0.Time = x1.Time) rfl (fun hc12 => ?_) (fun hc12 => ?_)
   ·
    replace hm := And.left hm hc12
    refine RW.st (Ex.fieldAddr fa45_3 rfl) rfl <| RW.st (Ex.load1 hM 1 to40 rfl rfl rfl) rfl <| RW.st (Ex.fieldAddr fa45_3 rfl) rfl <| RW.st (Ex.load1 hM 0 to40 rfl rfl rfl) rfl ?_
    refine RW.callP hM (ref23_SameInts_lift x0.Positions x1.Positions hF1 hF3 hm) en58 rfl rfl rfl rfl ?_; rintro _ w H14 _ hle15 ⟨v13, hm, rfl, rfl⟩ hM
    replace hM : Mem w0 H w H14 [.box b6 45 [.int .i64 x1.Base, .int .i64 x1.Number, .int .i64 x1.Time, .slice A3 n3 c3, .slice A4 n4 c4], .box b5 45 [.int .i64 x0.Base, .int .i64 x0.Number, .int .i64 x0.Time, .slice A1 n1 c1, .slice A2 n2 c2]] := hM
    refine RW.st (Ex.pickT (.bool v13) rfl rfl) rfl <| RW.st (Ex.move (.bool v13) rfl) rfl ?_
    refine RW.split 31 (p := v13 = true) (bvar _) (fun hc16 => ?_) (fun hc16 => ?_)
    ·
     replace hm := And.left hm hc16
     refine RW.st (Ex.fieldAddr fa45_4 rfl) rfl <| RW.st (Ex.load1 hM 1 to43 rfl rfl rfl) rfl <| RW.st (Ex.fieldAddr fa45_4 rfl) rfl <| RW.st (Ex.load1 hM 0 to43 rfl rfl rfl) rfl ?_
     refine RW.callP hM (ref03_SameWrites_lift x0.Writes x1.Writes (hF2.mono hle15) (hF4.mono hle15) hm) en59 rfl rfl rfl rfl ?_; rintro _ w H18 _ hle19 ⟨v17, hm, rfl, rfl⟩ hM
     replace hM : Mem w0 H w H18 [.box b6 45 [.int .i64 x1.Base, .int .i64 x1.Number, .int .i64 x1.Time, .slice A3 n3 c3, .slice A4 n4 c4], .box b5 45 [.int .i64 x0.Base, .int .i64 x0.Number, .int .i64 x0.Time, .slice A1 n1 c1, .slice A2 n2 c2]] := hM
     refine RW.st (Ex.pickT (.bool v17) rfl rfl) rfl <| RW.st (Ex.assign (.bool v17) rfl) rfl <| RW.nil <| CW.ret ?_
     refine end_tmp (.inl rfl) rfl (.bool v17) rfl ?_
     exact ⟨_, _, (hM.pick [] rfl rfl), v17, hm, rfl, rfl⟩
    ·
     replace hm := And.right hm hc16
     refine RW.pass rfl rfl <| RW.pass rfl rfl <| RW.pass rfl rfl <| RW.pass rfl rfl <| RW.pass rfl rfl <| RW.st (Ex.pickF (.bool false) rfl rfl) rfl <| RW.st (Ex.assign (.bool false) rfl) rfl <| RW.nil <| CW.ret ?_
     refine end_tmp (.inl rfl) rfl (.bool false) rfl ?_
     exact ⟨_, _, (hM.pick [] rfl rfl), false, hm, rfl, rfl⟩
   ·
    replace hm := And.right hm hc12
    refine RW.pass rfl rfl <| RW.pass rfl rfl <| RW.pass rfl rfl <| RW.pass rfl rfl <| RW.pass rfl rfl <| RW.st (Ex.pickF (.bool false) rfl rfl) rfl <| RW.st (Ex.move (.bool false) rfl) rfl <| RW.pass rfl rfl <| RW.pass rfl rfl <| RW.pass rfl rfl <| RW.pass rfl rfl <| RW.pass rfl rfl <| RW.st (Ex.pickF (.bool false) rfl rfl) rfl <| RW.st (Ex.assign (.bool false) rfl) rfl ?_
    refine RW.nil <| CW.ret ?_
    refine end_tmp (.inl rfl) rfl (.bool false) rfl ?_
    exact ⟨_, _, (hM.pick [] rfl rfl), false, hm, rfl, rfl⟩
  ·
   replace hm := And.right hm hc11
   refine RW.pass rfl rfl <| RW.pass rfl rfl <| RW.pass rfl rfl <| RW.pass rfl rfl <| RW.pass rfl rfl <| RW.st (Ex.pickF (.bool false) rfl rfl) rfl <| RW.st (Ex.move (.bool false) rfl) rfl <| RW.pass rfl rfl <| RW.pass rfl rfl <| RW.pass rfl rfl <| RW.pass rfl rfl <| RW.pass rfl rfl <| RW.st (Ex.pickF (.bool false) rfl rfl) rfl <| RW.st (Ex.move (.bool false) rfl) rfl ?_
   refine RW.pass rfl rfl <| RW.pass rfl rfl <| RW.pass rfl rfl <| RW.pass rfl rfl <| RW.pass rfl rfl <| RW.st (Ex.pickF (.bool false) rfl rfl) rfl <| RW.st (Ex.assign (.bool false) rfl) rfl <| RW.nil <| CW.ret ?_
   refine end_tmp (.inl rfl) rfl (.bool false) rfl ?_
   exact ⟨_, _, (hM.pick [] rfl rfl), false, hm, rfl, rfl⟩
 ·
  replace hm := And.right hm hc10
  refine RW.pass rfl rfl <| RW.pass rfl rfl <| RW.pass rfl rfl <| RW.pass rfl rfl <| RW.pass rfl rfl <| RW.st (Ex.pickF (.bool false) rfl rfl) rfl <| RW.st (Ex.move (.bool false) rfl) rfl <| RW.pass rfl rfl <| RW.pass rfl rfl <| RW.pass rfl rfl <| RW.pass rfl rfl <| RW.pass rfl rfl <| RW.st (Ex.pickF (.bool false) rfl rfl) rfl <| RW.st (Ex.move (.bool false) rfl) rfl ?_
  refine RW.pass rfl rfl <| RW.pass rfl rfl <| RW.pass rfl rfl <| RW.pass rfl rfl <| RW.pass rfl rfl <| RW.st (Ex.pickF (.bool false) rfl rfl) rfl <| RW.st (Ex.move (.bool false) rfl) rfl <| RW.pass rfl rfl <| RW.pass rfl rfl <| RW.pass rfl rfl <| RW.pass rfl rfl <| RW.pass rfl rfl <| RW.st (Ex.pickF (.bool false) rfl rfl) rfl <| RW.st (Ex.assign (.bool false) rfl) rfl ?_
  refine RW.nil <| CW.ret ?_
  refine end_tmp (.inl rfl) rfl (.bool false) rfl ?_
  exact ⟨_, _, (hM.pick [] rfl rfl), false, hm, rfl, rfl⟩
end Go.Proofs.YtahlanamngfkcaaDoor
