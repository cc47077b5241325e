/- Part 5 of the proof of the statement ReverseUndoesCardSaid: lemmas. No condition of its own. -/
import Derived.Test.YtahlanamngfkcaaDoorM4
namespace Go.Proofs.YtahlanamngfkcaaDoor
open Go.RowKit
theorem ref43_Mark_lift {H : Hp} (x0 : List api_Bitmap) (x1 : List api_Write) {A1 : Option Addr} {n1 c1 : Nat} {s1 : List Value} (hF1 : Fz (α := api_Bitmap) H A1 n1 c1 x0 s1) {A2 : Option Addr} {n2 c2 : Nat} {s2 : List Value} (hF2 : Fz (α := api_Write) H A2 n2 c2 x1 s2) {Φ : List api_Bitmap → Prop} (hm : ref43_Mark_W x0 x1 Φ) : RetP Tryd.prog 90 #[.slice A1 n1 c1, .slice A2 n2 c2] H (fun H' v L => ∃ y, Φ y ∧ ∃ A143, ∃ n143, ∃ c143, ∃ s143, v = .slice A143 n143 c143 ∧ DtL (α := api_Bitmap) H' s143 y ∧ n143 = y.length ∧ L = [.row (.slice A143 n143 c143) 65 2 n143 s143]) := by
 refine RetP.of_code Tryd.func90 rfl (Nat.le_of_ble_eq_true rfl) fun w0 hM => ?_
 refine CW.seq <| CW.region <| RW.st (Ex.assign (.slice none 0 0) rfl) rfl <| RW.nil <| CW.seq <| CW.region <| RW.st (Ex.assign (.slice none 0 0) rfl) rfl <| RW.nil <| CW.seq <| CW.seq <| CW.region <| RW.st (Ex.assign (.int .i64 (0)) rfl) rfl <| RW.nil <| CW.block ?_
 obtain ⟨m142, hm⟩ := hm
 skip
 replace hM := hM.nilRow 65 2
 refine CW.loop (β := Nat) (fun n σ w => ∃ (v5 : List api_Bitmap), ∃ (A6 : Option Addr), ∃ (n7 : Nat), ∃ (c8 : Nat), ∃ (s9 : List Value), ∃ (v12 : Int), ∃ Hk3, H.le Hk3 ∧ (∃ τ, σ = sl [(0, .slice A1 n1 c1), (1, .slice A2 n2 c2), (5, .slice A6 n7 c8), (6, .int .i64 (v12))] τ) ∧ Mem w0 H w Hk3 [.row (.slice A6 n7 c8) 65 2 n7 s9] ∧ (DtL (α := api_Bitmap) Hk3 s9 v5) ∧ (n7 = v5.length) ∧ LoopN (ref43_Mark_L1 x0 x1 Φ) n (v5, v12)) (fun n => n) m142 ⟨([] : List api_Bitmap), none, 0, 0, [], 0, H, (Hp.le.refl _), sl_canon ⟨rfl, rfl, rfl, rfl, trivial⟩, hM, (DtL.nil : DtL _ [] ([] : List api_Bitmap)), rfl, hm⟩ ?_
 rintro k13 _ w ⟨v5, A6, n7, c8, s9, v12, Hk3, hle4, ⟨τ, rfl⟩, hM, hd10, hn11, hm⟩
 obtain _ | k13 := k13
 · exact hm.elim
 replace hm : (ref43_Mark_L1 x0 x1 Φ) (v5, v12) (LoopN (ref43_Mark_L1 x0 x1 Φ) k13) := hm
 generalize hrec14 : LoopN (ref43_Mark_L1 x0 x1 Φ) k13 = rec1 at hm
 refine CW.seq <| CW.seq <| CW.region <| RW.st (Ex.move (.int .i64 (v12)) rfl) rfl <| RW.st (Ex.move (.slice A1 n1 c1) rfl) rfl <| RW.st (Ex.lenN st23.1 rfl hF1.hn) rfl <| RW.st (Ex.lss rfl rfl) rfl <| RW.nil ?_
 refine CW.cond_dec (p := v12 < (x0.length : Int)) rfl (fun hc15 => ?_) (fun hc15 => ?_)
 ·
  replace hm := And.left hm hc15
  refine CW.skip <| CW.seq <| CW.block <| CW.region <| RW.st (Ex.move (.slice A6 n7 c8) rfl) rfl <| RW.st (Ex.move (.slice A1 n1 c1) rfl) rfl <| RW.st (Ex.move (.int .i64 (v12)) rfl) rfl ?_
  obtain ⟨hg16, hm⟩ := hm
  refine RW.st (Ex.index st23 rfl rfl v12.toNat (hF1.ne hg16) hg16.nat (hF1.lt hg16)) rfl ?_
  obtain ⟨_, ⟨A17, n17, c17, s17, rfl, hF17⟩, hx18⟩ := DtL.getI (α := api_Bitmap) (hF1.mono hle4).dat hg16
  refine RW.st (Ex.loadEA hM hle4 hF1.rdc [.int .i64 ((ix x0 v12).Size), .slice A17 n17 c17] ta65 rfl (hF1.ne hg16) rfl (chunk_sub (off := 0) (n := 2) hx18 rfl)) rfl ?_
  refine RW.callP hM (ref02_Copy_lift (ix x0 v12) hF17 hm) en129 rfl rfl rfl rfl ?_; rintro _ w H20 _ hle21 ⟨v19, hm, A22, n22, c22, s22, rfl, hd23, hn24, rfl⟩ hM
  replace hM : Mem w0 H w H20 [.row (.slice A22 n22 c22) 151 1 n22 s22, .row (.slice A6 n7 c8) 65 2 n7 s9] := hM
  obtain ⟨H25, hM, hle26, hF27⟩ := hM.giveF (α := BitVec 64) 0 rfl hd23 hn24
  replace hM : Mem w0 H w H25 [.row (.slice A6 n7 c8) 65 2 n7 s9] := hM
  refine RW.buildSlice hM st23 tz65 [(0, .agg #[.int .i64 (v19.Size), .slice A22 n22 c22])] [.int .i64 (v19.Size), .slice A22 n22 c22] (by decide) rfl rfl rfl (by decide) rfl rfl ?_; intro b28 w hM
  have hd29 : DtL H25 [.int .i64 (v19.Size), .slice A22 n22 c22] ([v19] : List api_Bitmap) := (DtL.cons (c1 := [.int .i64 (v19.Size), .slice A22 n22 c22]) ⟨_, _, _, _, rfl, hF27⟩ DtL.nil)
  replace hM : Mem w0 H w H25 [.row (.slice (some ⟨b28, 0, none⟩) 1 1) 65 2 1 [.int .i64 (v19.Size), .slice A22 n22 c22], .row (.slice A6 n7 c8) 65 2 n7 s9] := hM
  obtain ⟨hg36, hm⟩ := hm
  refine RW.appendD (α := api_Bitmap) (xs := v5) (ys := ([v19] : List api_Bitmap)) hM 1 st23 rfl rfl (hd10.mono (hle21.trans hle26)) hn11 rfl (fun j u hj => hM.rowCell (k := 0) rfl rfl hj) hd29 rfl hg36 rfl rfl ?_; intro A30 n31 c32 s33 w hd34 hn35 hM
  replace hM : Mem w0 H w H25 [.row (.slice (some ⟨b28, 0, none⟩) 1 1) 65 2 1 [.int .i64 (v19.Size), .slice A22 n22 c22], .row (.slice A30 n31 c32) 65 2 n31 s33] := hM
  refine RW.st (Ex.assign (.slice A30 n31 c32) rfl) rfl <| RW.nil <| CW.region <| RW.st (Ex.move (.int .i64 (v12)) rfl) rfl ?_
  obtain ⟨hg37, hm⟩ := hm
  refine RW.st (Ex.add rfl rfl hg37.1 hg37.2) rfl <| RW.st (Ex.assign (.int .i64 (v12 + 1)) rfl) rfl <| RW.nil ?_
  exact And.intro rfl ⟨k13, ⟨(v5 ++ ([v19] : List api_Bitmap)), A30, n31, c32, s33, v12 + 1, H25, hle4.trans (hle21.trans hle26), sl_canon ⟨rfl, rfl, rfl, rfl, trivial⟩, (hM.pick [1] rfl rfl), hd34, hn35, (by rw [hrec14]; exact hm)⟩, Nat.lt_succ_self _⟩
 ·
  replace hm := And.right hm hc15
  refine CW.exit ?_
  refine CW.seq <| CW.seq <| CW.region <| RW.st (Ex.assign (.int .i64 (0)) rfl) rfl <| RW.nil <| CW.block ?_
  obtain ⟨m141, hm⟩ := hm
  skip
  refine CW.loop (β := Nat) (fun n σ w => ∃ (v40 : List api_Bitmap), ∃ (A41 : Option Addr), ∃ (n42 : Nat), ∃ (c43 : Nat), ∃ (s44 : List Value), ∃ (v47 : Int), ∃ Hk38, Hk3.le Hk38 ∧ (∃ τ, σ = sl [(1, .slice A2 n2 c2), (5, .slice A41 n42 c43), (7, .int .i64 (v47))] τ) ∧ Mem w0 H w Hk38 [.row (.slice A41 n42 c43) 65 2 n42 s44] ∧ (DtL (α := api_Bitmap) Hk38 s44 v40) ∧ (n42 = v40.length) ∧ LoopN (ref43_Mark_L2 x1 Φ) n (v40, v47)) (fun n => n) m141 ⟨v5, A6, n7, c8, s9, 0, Hk3, (Hp.le.refl _), sl_canon ⟨rfl, rfl, rfl, trivial⟩, hM, hd10, hn11, hm⟩ ?_
  rintro k48 _ w ⟨v40, A41, n42, c43, s44, v47, Hk38, hle39, ⟨τ, rfl⟩, hM, hd45, hn46, hm⟩
  obtain _ | k48 := k48
  · exact hm.elim
  replace hm : (ref43_Mark_L2 x1 Φ) (v40, v47) (LoopN (ref43_Mark_L2 x1 Φ) k48) := hm
  generalize hrec49 : LoopN (ref43_Mark_L2 x1 Φ) k48 = rec2 at hm
  refine CW.seq <| CW.seq <| CW.region <| RW.st (Ex.move (.int .i64 (v47)) rfl) rfl <| RW.st (Ex.move (.slice A2 n2 c2) rfl) rfl <| RW.st (Ex.lenN st43.1 rfl hF2.hn) rfl <| RW.st (Ex.lss rfl rfl) rfl <| RW.nil ?_
  refine CW.cond_dec (p := v47 < (x1.length : Int)) rfl (fun hc50 => ?_) (fun hc50 => ?_)
  ·
   replace hm := And.left hm hc50
   refine CW.skip <| CW.seq <| CW.block <| CW.seq <| CW.region <| RW.st (Ex.move (.slice A2 n2 c2) rfl) rfl <| RW.st (Ex.move (.int .i64 (v47)) rfl) rfl ?_
   obtain ⟨hg61, hm⟩ := hm
   refine RW.st (Ex.index st43 rfl rfl v47.toNat (hF2.ne hg61) hg61.nat (hF2.lt hg61)) rfl ?_
   obtain ⟨_, ⟨A62, n62, c62, s62, rfl, hF62⟩, hx63⟩ := DtL.getI (α := api_Write) (hF2.mono (hle4.trans hle39)).dat hg61
   refine RW.st (Ex.loadEA hM (hle4.trans hle39) hF2.rdc [.int .i64 ((ix x1 v47).Volume), .int .i64 ((ix x1 v47).Start), .slice A62 n62 c62] ta100 rfl (hF2.ne hg61) rfl (chunk_sub (off := 0) (n := 3) hx63 rfl)) rfl ?_
   refine RW.alloc hM tz100 [.int .i64 (0), .int .i64 (0), .slice none 0 0] rfl rfl rfl ?_; intro b64 w hM
   replace hM : Mem w0 H w Hk38 [.box b64 100 [.int .i64 (0), .int .i64 (0), .slice none 0 0], .row (.slice A41 n42 c43) 65 2 n42 s44] := hM
   refine RW.store hM 0 (.agg #[.int .i64 ((ix x1 v47).Volume), .int .i64 ((ix x1 v47).Start), .slice A62 n62 c62]) [.int .i64 ((ix x1 v47).Volume), .int .i64 ((ix x1 v47).Start), .slice A62 n62 c62] [.int .i64 ((ix x1 v47).Volume), .int .i64 ((ix x1 v47).Start), .slice A62 n62 c62] sz100 rfl rfl rfl (oneAll ⟨rfl, rfl, rfl, trivial⟩) rfl (Nat.le_of_ble_eq_true rfl) rfl [.box b64 100 [.int .i64 ((ix x1 v47).Volume), .int .i64 ((ix x1 v47).Start), .slice A62 n62 c62], .row (.slice A41 n42 c43) 65 2 n42 s44] rfl rfl rfl ?_; intro w hM
   refine RW.nil ?_
   obtain ⟨hg74, hm⟩ := hm
   obtain ⟨_, ⟨A75, n75, c75, s75, rfl, hF75⟩, hx76⟩ := DtL.getI (α := api_Bitmap) hd45 hg74
   obtain ⟨v77, hW78, hm⟩ := hm
   refine CW.drawL 19 [17] [(fun Hq us E => us = [.slice A41 n42 c43] ∧ E = [] ∧ True), (fun Hq us E => us = [.pointer (some ⟨b64, 0, none⟩)] ∧ E = [] ∧ True), (fun Hq us E => us = [.int .i64 ((ix x1 v47).Volume)] ∧ E = [] ∧ True), (fun Hq us E => us = [.slice A41 n42 c43] ∧ E = [] ∧ True), (fun Hq us E => us = [.pointer (some ⟨b64, 0, none⟩)] ∧ E = [] ∧ True), (fun Hq us E => us = [.int .i64 ((ix x1 v47).Volume)] ∧ E = [] ∧ True), (fun Hq us E => us = [elp A41 ((((ix x1 v47).Volume).toNat) * 2 + 0)] ∧ E = [] ∧ True), (fun Hq us E => us = [.agg #[.int .i64 ((ix v40 ((ix x1 v47).Volume)).Size), .slice A75 n75 c75]] ∧ E = [] ∧ True), (fun Hq us E => us = [.pointer (some ⟨b64, 1, none⟩)] ∧ E = [] ∧ True), (fun Hq us E => us = [.int .i64 ((ix x1 v47).Start)] ∧ E = [] ∧ True), (fun Hq us E => us = [.pointer (some ⟨b64, 2, none⟩)] ∧ E = [] ∧ True), (fun Hq us E => us = [.slice A62 n62 c62] ∧ E = [] ∧ True), (fun Hq us E => us = [.int .i64 ((((ix x1 v47).Data).length : Int))] ∧ E = [] ∧ True), (fun Hq us E => us = [.agg #[.int .i64 ((ix x1 v47).Start), .int .i64 ((((ix x1 v47).Data).length : Int))]] ∧ E = [] ∧ True), (fun Hq us E => ∃ (A79 : Option Addr), ∃ (n79 : Nat), ∃ (c79 : Nat), ∃ (s79 : List Value), us = [.tuple #[.agg #[.int .i64 (v77.1.Size), .slice A79 n79 c79], .int .i64 (v77.2)]] ∧ E = [] ∧ Fz (α := BitVec 64) Hq A79 n79 c79 v77.1.Words s79 ∧ True), (fun Hq us E => ∃ (A79 : Option Addr), ∃ (n79 : Nat), ∃ (c79 : Nat), ∃ (s79 : List Value), us = [.tuple #[.agg #[.int .i64 (v77.1.Size), .slice A79 n79 c79], .int .i64 (v77.2)], .tuple #[.agg #[.int .i64 (v77.1.Size), .slice A79 n79 c79], .int .i64 (v77.2)]] ∧ E = [] ∧ Fz (α := BitVec 64) Hq A79 n79 c79 v77.1.Words s79 ∧ True), (fun Hq us E => ∃ (A79 : Option Addr), ∃ (n79 : Nat), ∃ (c79 : Nat), ∃ (s79 : List Value), us = [.tuple #[.agg #[.int .i64 (v77.1.Size), .slice A79 n79 c79], .int .i64 (v77.2)], .agg #[.int .i64 (v77.1.Size), .slice A79 n79 c79]] ∧ E = [] ∧ Fz (α := BitVec 64) Hq A79 n79 c79 v77.1.Words s79 ∧ True), (fun Hq us E => us = [.int .i64 (v77.2)] ∧ E = [] ∧ True), (fun Hq us E => us = [elp A41 ((((ix x1 v47).Volume).toNat) * 2 + 0)] ∧ E = [] ∧ True)]
    (fun k => [[0], [1], [2], [3], [4], [5], [6], [7], [8], [9], [10], [11], [12], [13], [14], [14, 15], [15, 16], [17], [18]].getD k []) (fun _ => none) (by kernel_rfl) hM (by kernel_rfl) (by kernel_rfl) (by kernel_rfl) rfl (by simp only [List.forall_mem_cons]; exact ⟨fun _ _ _ _ hle ⟨e1, e2, _⟩ => ⟨e1, e2, trivial⟩, fun _ _ _ _ hle ⟨e1, e2, _⟩ => ⟨e1, e2, trivial⟩, fun _ _ _ _ hle ⟨e1, e2, _⟩ => ⟨e1, e2, trivial⟩, fun _ _ _ _ hle ⟨e1, e2, _⟩ => ⟨e1, e2, trivial⟩, fun _ _ _ _ hle ⟨e1, e2, _⟩ => ⟨e1, e2, trivial⟩, fun _ _ _ _ hle ⟨e1, e2, _⟩ => ⟨e1, e2, trivial⟩, fun _ _ _ _ hle ⟨e1, e2, _⟩ => ⟨e1, e2, trivial⟩, fun _ _ _ _ hle ⟨e1, e2, _⟩ => ⟨e1, e2, trivial⟩, fun _ _ _ _ hle ⟨e1, e2, _⟩ => ⟨e1, e2, trivial⟩, fun _ _ _ _ hle ⟨e1, e2, _⟩ => ⟨e1, e2, trivial⟩, fun _ _ _ _ hle ⟨e1, e2, _⟩ => ⟨e1, e2, trivial⟩, fun _ _ _ _ hle ⟨e1, e2, _⟩ => ⟨e1, e2, trivial⟩, fun _ _ _ _ hle ⟨e1, e2, _⟩ => ⟨e1, e2, trivial⟩, fun _ _ _ _ hle ⟨e1, e2, _⟩ => ⟨e1, e2, trivial⟩, fun _ _ _ _ hle ⟨A79, n79, c79, s79, e1, e2, hF82, _⟩ => ⟨A79, n79, c79, s79, e1, e2, hF82.mono hle, trivial⟩, fun _ _ _ _ hle ⟨A79, n79, c79, s79, e1, e2, hF82, _⟩ => ⟨A79, n79, c79, s79, e1, e2, hF82.mono hle, trivial⟩, fun _ _ _ _ hle ⟨A79, n79, c79, s79, e1, e2, hF82, _⟩ => ⟨A79, n79, c79, s79, e1, e2, hF82.mono hle, trivial⟩, fun _ _ _ _ hle ⟨e1, e2, _⟩ => ⟨e1, e2, trivial⟩, fun _ _ _ _ hle ⟨e1, e2, _⟩ => ⟨e1, e2, trivial⟩, by simp⟩) ⟨?_, ?_, ?_, ?_, ?_, ?_, ?_, ?_, ?_, ?_, ?_, ?_, ?_, ?_, ?_, ?_, ?_, ?_, ?_, trivial⟩ ?_
   ·
    intro H' σ' w R E hle hMR hE0 hE hp hf
    obtain rfl := hE0 rfl
    obtain ⟨τ, rfl⟩ := sl_canon (σ := σ') (l := [(5, .slice A41 n42 c43)]) ⟨(hf 5 (by kernel_rfl)).trans rfl, trivial⟩
    have hM : Mem w0 H w H' [.box b64 100 [.int .i64 ((ix x1 v47).Volume), .int .i64 ((ix x1 v47).Start), .slice A62 n62 c62], .row (.slice A41 n42 c43) 65 2 n42 s44] := hMR.sub (List.sublist_append_right R _)
    exact RW.step (Ex.move (.slice A41 n42 c43) rfl) rfl rfl rfl (RW.nil ⟨rfl, rfl, _, rfl, H', [], Hp.le.refl _, hMR, rfl, rfl, trivial⟩)
   ·
    intro H' σ' w R E hle hMR hE0 hE hp hf
    obtain rfl := hE0 rfl
    obtain ⟨τ, rfl⟩ := sl_canon (σ := σ') (l := [(8, .pointer (some ⟨b64, 0, none⟩))]) ⟨(hf 8 (by kernel_rfl)).trans rfl, trivial⟩
    have hM : Mem w0 H w H' [.box b64 100 [.int .i64 ((ix x1 v47).Volume), .int .i64 ((ix x1 v47).Start), .slice A62 n62 c62], .row (.slice A41 n42 c43) 65 2 n42 s44] := hMR.sub (List.sublist_append_right R _)
    exact RW.step (Ex.fieldAddr fa100_0 rfl) rfl rfl rfl (RW.nil ⟨rfl, rfl, _, rfl, H', [], Hp.le.refl _, hMR, rfl, rfl, trivial⟩)
   ·
    intro H' σ' w R E hle hMR hE0 hE hp hf
    obtain rfl := hE0 rfl
    obtain ⟨_, hg⟩ := hp 1 (by decide) (by kernel_rfl)
    obtain ⟨e83, _, _⟩ := hg.get rfl
    have e84 : σ' 35 = .pointer (some ⟨b64, 0, none⟩) := (List.cons.inj e83).1
    obtain ⟨τ, rfl⟩ := sl_canon (σ := σ') (l := [(35, .pointer (some ⟨b64, 0, none⟩))]) ⟨e84, trivial⟩
    have hM : Mem w0 H w H' [.box b64 100 [.int .i64 ((ix x1 v47).Volume), .int .i64 ((ix x1 v47).Start), .slice A62 n62 c62], .row (.slice A41 n42 c43) 65 2 n42 s44] := hMR.sub (List.sublist_append_right R _)
    exact RW.step (Ex.load1 hM 0 to3 rfl rfl rfl) rfl rfl rfl (RW.nil ⟨rfl, rfl, _, rfl, H', [], Hp.le.refl _, hMR, rfl, rfl, trivial⟩)
   ·
    intro H' σ' w R E hle hMR hE0 hE hp hf
    obtain rfl := hE0 rfl
    obtain ⟨τ, rfl⟩ := sl_canon (σ := σ') (l := [(5, .slice A41 n42 c43)]) ⟨(hf 5 (by kernel_rfl)).trans rfl, trivial⟩
    have hM : Mem w0 H w H' [.box b64 100 [.int .i64 ((ix x1 v47).Volume), .int .i64 ((ix x1 v47).Start), .slice A62 n62 c62], .row (.slice A41 n42 c43) 65 2 n42 s44] := hMR.sub (List.sublist_append_right R _)
    exact RW.step (Ex.move (.slice A41 n42 c43) rfl) rfl rfl rfl (RW.nil ⟨rfl, rfl, _, rfl, H', [], Hp.le.refl _, hMR, rfl, rfl, trivial⟩)
   ·
    intro H' σ' w R E hle hMR hE0 hE hp hf
    obtain rfl := hE0 rfl
    obtain ⟨τ, rfl⟩ := sl_canon (σ := σ') (l := [(8, .pointer (some ⟨b64, 0, none⟩))]) ⟨(hf 8 (by kernel_rfl)).trans rfl, trivial⟩
    have hM : Mem w0 H w H' [.box b64 100 [.int .i64 ((ix x1 v47).Volume), .int .i64 ((ix x1 v47).Start), .slice A62 n62 c62], .row (.slice A41 n42 c43) 65 2 n42 s44] := hMR.sub (List.sublist_append_right R _)
    exact RW.step (Ex.fieldAddr fa100_0 rfl) rfl rfl rfl (RW.nil ⟨rfl, rfl, _, rfl, H', [], Hp.le.refl _, hMR, rfl, rfl, trivial⟩)
   ·
    intro H' σ' w R E hle hMR hE0 hE hp hf
    obtain rfl := hE0 rfl
    obtain ⟨_, hg⟩ := hp 4 (by decide) (by kernel_rfl)
    obtain ⟨e85, _, _⟩ := hg.get rfl
    have e86 : σ' 38 = .pointer (some ⟨b64, 0, none⟩) := (List.cons.inj e85).1
    obtain ⟨τ, rfl⟩ := sl_canon (σ := σ') (l := [(38, .pointer (some ⟨b64, 0, none⟩))]) ⟨e86, trivial⟩
    have hM : Mem w0 H w H' [.box b64 100 [.int .i64 ((ix x1 v47).Volume), .int .i64 ((ix x1 v47).Start), .slice A62 n62 c62], .row (.slice A41 n42 c43) 65 2 n42 s44] := hMR.sub (List.sublist_append_right R _)
    exact RW.step (Ex.load1 hM 0 to3 rfl rfl rfl) rfl rfl rfl (RW.nil ⟨rfl, rfl, _, rfl, H', [], Hp.le.refl _, hMR, rfl, rfl, trivial⟩)
   ·
    intro H' σ' w R E hle hMR hE0 hE hp hf
    obtain rfl := hE0 rfl
    obtain ⟨_, hg⟩ := hp 3 (by decide) (by kernel_rfl)
    obtain ⟨e87, _, _⟩ := hg.get rfl
    have e88 : σ' 37 = .slice A41 n42 c43 := (List.cons.inj e87).1
    obtain ⟨_, hg⟩ := hp 5 (by decide) (by kernel_rfl)
    obtain ⟨e89, _, _⟩ := hg.get rfl
    have e90 : σ' 39 = .int .i64 ((ix x1 v47).Volume) := (List.cons.inj e89).1
    obtain ⟨τ, rfl⟩ := sl_canon (σ := σ') (l := [(37, .slice A41 n42 c43), (39, .int .i64 ((ix x1 v47).Volume))]) ⟨e88, e90, trivial⟩
    have hM : Mem w0 H w H' [.box b64 100 [.int .i64 ((ix x1 v47).Volume), .int .i64 ((ix x1 v47).Start), .slice A62 n62 c62], .row (.slice A41 n42 c43) 65 2 n42 s44] := hMR.sub (List.sublist_append_right R _)
    exact RW.step (Ex.index st23 rfl rfl (((ix x1 v47).Volume).toNat) (hM.rowNeD (α := api_Bitmap) (p := 1) rfl hn46 hg74) hg74.nat (Nat.lt_of_lt_of_eq hg74.lt (hn46).symm)) rfl rfl rfl (RW.nil ⟨rfl, rfl, _, rfl, H', [], Hp.le.refl _, hMR, rfl, rfl, trivial⟩)
   ·
    intro H' σ' w R E hle hMR hE0 hE hp hf
    obtain rfl := hE0 rfl
    obtain ⟨_, hg⟩ := hp 6 (by decide) (by kernel_rfl)
    obtain ⟨e91, _, _⟩ := hg.get rfl
    have e92 : σ' 40 = elp A41 ((((ix x1 v47).Volume).toNat) * 2 + 0) := (List.cons.inj e91).1
    obtain ⟨τ, rfl⟩ := sl_canon (σ := σ') (l := [(40, elp A41 ((((ix x1 v47).Volume).toNat) * 2 + 0))]) ⟨e92, trivial⟩
    have hM : Mem w0 H w H' [.box b64 100 [.int .i64 ((ix x1 v47).Volume), .int .i64 ((ix x1 v47).Start), .slice A62 n62 c62], .row (.slice A41 n42 c43) 65 2 n42 s44] := hMR.sub (List.sublist_append_right R _)
    exact RW.step (Ex.loadRA hM 1 rfl [.int .i64 ((ix v40 ((ix x1 v47).Volume)).Size), .slice A75 n75 c75] ta65 (hM.rowNeD (α := api_Bitmap) (p := 1) rfl hn46 hg74) rfl rfl (chunk_sub (off := 0) (n := 2) hx76 rfl)) rfl rfl rfl (RW.nil ⟨rfl, rfl, _, rfl, H', [], Hp.le.refl _, hMR, rfl, rfl, trivial⟩)
   ·
    intro H' σ' w R E hle hMR hE0 hE hp hf
    obtain rfl := hE0 rfl
    obtain ⟨τ, rfl⟩ := sl_canon (σ := σ') (l := [(8, .pointer (some ⟨b64, 0, none⟩))]) ⟨(hf 8 (by kernel_rfl)).trans rfl, trivial⟩
    have hM : Mem w0 H w H' [.box b64 100 [.int .i64 ((ix x1 v47).Volume), .int .i64 ((ix x1 v47).Start), .slice A62 n62 c62], .row (.slice A41 n42 c43) 65 2 n42 s44] := hMR.sub (List.sublist_append_right R _)
    exact RW.step (Ex.fieldAddr fa100_1 rfl) rfl rfl rfl (RW.nil ⟨rfl, rfl, _, rfl, H', [], Hp.le.refl _, hMR, rfl, rfl, trivial⟩)
   ·
    intro H' σ' w R E hle hMR hE0 hE hp hf
    obtain rfl := hE0 rfl
    obtain ⟨_, hg⟩ := hp 8 (by decide) (by kernel_rfl)
    obtain ⟨e93, _, _⟩ := hg.get rfl
    have e94 : σ' 42 = .pointer (some ⟨b64, 1, none⟩) := (List.cons.inj e93).1
    obtain ⟨τ, rfl⟩ := sl_canon (σ := σ') (l := [(42, .pointer (some ⟨b64, 1, none⟩))]) ⟨e94, trivial⟩
    have hM : Mem w0 H w H' [.box b64 100 [.int .i64 ((ix x1 v47).Volume), .int .i64 ((ix x1 v47).Start), .slice A62 n62 c62], .row (.slice A41 n42 c43) 65 2 n42 s44] := hMR.sub (List.sublist_append_right R _)
    exact RW.step (Ex.load1 hM 0 to3 rfl rfl rfl) rfl rfl rfl (RW.nil ⟨rfl, rfl, _, rfl, H', [], Hp.le.refl _, hMR, rfl, rfl, trivial⟩)
   ·
    intro H' σ' w R E hle hMR hE0 hE hp hf
    obtain rfl := hE0 rfl
    obtain ⟨τ, rfl⟩ := sl_canon (σ := σ') (l := [(8, .pointer (some ⟨b64, 0, none⟩))]) ⟨(hf 8 (by kernel_rfl)).trans rfl, trivial⟩
    have hM : Mem w0 H w H' [.box b64 100 [.int .i64 ((ix x1 v47).Volume), .int .i64 ((ix x1 v47).Start), .slice A62 n62 c62], .row (.slice A41 n42 c43) 65 2 n42 s44] := hMR.sub (List.sublist_append_right R _)
    exact RW.step (Ex.fieldAddr fa100_2 rfl) rfl rfl rfl (RW.nil ⟨rfl, rfl, _, rfl, H', [], Hp.le.refl _, hMR, rfl, rfl, trivial⟩)
   ·
    intro H' σ' w R E hle hMR hE0 hE hp hf
    obtain rfl := hE0 rfl
    obtain ⟨_, hg⟩ := hp 10 (by decide) (by kernel_rfl)
    obtain ⟨e95, _, _⟩ := hg.get rfl
    have e96 : σ' 44 = .pointer (some ⟨b64, 2, none⟩) := (List.cons.inj e95).1
    obtain ⟨τ, rfl⟩ := sl_canon (σ := σ') (l := [(44, .pointer (some ⟨b64, 2, none⟩))]) ⟨e96, trivial⟩
    have hM : Mem w0 H w H' [.box b64 100 [.int .i64 ((ix x1 v47).Volume), .int .i64 ((ix x1 v47).Start), .slice A62 n62 c62], .row (.slice A41 n42 c43) 65 2 n42 s44] := hMR.sub (List.sublist_append_right R _)
    exact RW.step (Ex.load1 hM 0 to61 rfl rfl rfl) rfl rfl rfl (RW.nil ⟨rfl, rfl, _, rfl, H', [], Hp.le.refl _, hMR, rfl, rfl, trivial⟩)
   ·
    intro H' σ' w R E hle hMR hE0 hE hp hf
    obtain rfl := hE0 rfl
    obtain ⟨_, hg⟩ := hp 11 (by decide) (by kernel_rfl)
    obtain ⟨e97, _, _⟩ := hg.get rfl
    have e98 : σ' 45 = .slice A62 n62 c62 := (List.cons.inj e97).1
    obtain ⟨τ, rfl⟩ := sl_canon (σ := σ') (l := [(45, .slice A62 n62 c62)]) ⟨e98, trivial⟩
    have hM : Mem w0 H w H' [.box b64 100 [.int .i64 ((ix x1 v47).Volume), .int .i64 ((ix x1 v47).Start), .slice A62 n62 c62], .row (.slice A41 n42 c43) 65 2 n42 s44] := hMR.sub (List.sublist_append_right R _)
    exact RW.step (Ex.lenN st61.1 rfl hF62.hn) rfl rfl rfl (RW.nil ⟨rfl, rfl, _, rfl, H', [], Hp.le.refl _, hMR, rfl, rfl, trivial⟩)
   ·
    intro H' σ' w R E hle hMR hE0 hE hp hf
    obtain rfl := hE0 rfl
    obtain ⟨_, hg⟩ := hp 9 (by decide) (by kernel_rfl)
    obtain ⟨e99, _, _⟩ := hg.get rfl
    have e100 : σ' 43 = .int .i64 ((ix x1 v47).Start) := (List.cons.inj e99).1
    obtain ⟨_, hg⟩ := hp 12 (by decide) (by kernel_rfl)
    obtain ⟨e101, _, _⟩ := hg.get rfl
    have e102 : σ' 46 = .int .i64 ((((ix x1 v47).Data).length : Int)) := (List.cons.inj e101).1
    obtain ⟨τ, rfl⟩ := sl_canon (σ := σ') (l := [(43, .int .i64 ((ix x1 v47).Start)), (46, .int .i64 ((((ix x1 v47).Data).length : Int)))]) ⟨e100, e102, trivial⟩
    have hM : Mem w0 H w H' [.box b64 100 [.int .i64 ((ix x1 v47).Volume), .int .i64 ((ix x1 v47).Start), .slice A62 n62 c62], .row (.slice A41 n42 c43) 65 2 n42 s44] := hMR.sub (List.sublist_append_right R _)
    exact RW.step (Ex.build bs103 [(0, .int .i64 ((ix x1 v47).Start)), (1, .int .i64 ((((ix x1 v47).Data).length : Int)))] [.int .i64 ((ix x1 v47).Start), .int .i64 ((((ix x1 v47).Data).length : Int))] rfl rfl) rfl rfl rfl (RW.nil ⟨rfl, rfl, _, rfl, H', [], Hp.le.refl _, hMR, rfl, rfl, trivial⟩)
   ·
    intro H' σ' w R E hle hMR hE0 hE hp hf
    obtain rfl := hE0 rfl
    obtain ⟨_, hg⟩ := hp 7 (by decide) (by kernel_rfl)
    obtain ⟨e103, _, _⟩ := hg.get rfl
    have e104 : σ' 41 = .agg #[.int .i64 ((ix v40 ((ix x1 v47).Volume)).Size), .slice A75 n75 c75] := (List.cons.inj e103).1
    obtain ⟨_, hg⟩ := hp 13 (by decide) (by kernel_rfl)
    obtain ⟨e105, _, _⟩ := hg.get rfl
    have e106 : σ' 47 = .agg #[.int .i64 ((ix x1 v47).Start), .int .i64 ((((ix x1 v47).Data).length : Int))] := (List.cons.inj e105).1
    obtain ⟨τ, rfl⟩ := sl_canon (σ := σ') (l := [(41, .agg #[.int .i64 ((ix v40 ((ix x1 v47).Volume)).Size), .slice A75 n75 c75]), (47, .agg #[.int .i64 ((ix x1 v47).Start), .int .i64 ((((ix x1 v47).Data).length : Int))])]) ⟨e104, e106, trivial⟩
    have hM : Mem w0 H w H' [.box b64 100 [.int .i64 ((ix x1 v47).Volume), .int .i64 ((ix x1 v47).Start), .slice A62 n62 c62], .row (.slice A41 n42 c43) 65 2 n42 s44] := hMR.sub (List.sublist_append_right R _)
    refine RW.callP hMR (ref02_Set_lift (ix v40 ((ix x1 v47).Volume)) (api_Extent.mk ((ix x1 v47).Start) (((ix x1 v47).Data).length : Int)) (hF75.mono hle) hW78) en66 rfl rfl rfl rfl ?_; rintro _ w H9 _ hle9 ⟨_, rfl, A79, n79, c79, s79, rfl, hd80, hn81, rfl⟩ hMR
    obtain ⟨H90, hMR, hle90, hF82⟩ := hMR.giveF (α := BitVec 64) 0 rfl hd80 hn81
    exact RW.nil ⟨rfl, rfl, _, rfl, H90, [], (hle9.trans hle90), hMR, A79, n79, c79, s79, rfl, rfl, hF82, trivial⟩
   ·
    intro H' σ' w R E hle hMR hE0 hE hp hf
    obtain rfl := hE0 rfl
    obtain ⟨_, hg⟩ := hp 14 (by decide) (by kernel_rfl)
    obtain ⟨A79, n79, c79, s79, e107, _, hF82, _⟩ := hg.get rfl
    have e108 : σ' 48 = .tuple #[.agg #[.int .i64 (v77.1.Size), .slice A79 n79 c79], .int .i64 (v77.2)] := (List.cons.inj e107).1
    obtain ⟨τ, rfl⟩ := sl_canon (σ := σ') (l := [(48, .tuple #[.agg #[.int .i64 (v77.1.Size), .slice A79 n79 c79], .int .i64 (v77.2)])]) ⟨e108, trivial⟩
    have hM : Mem w0 H w H' [.box b64 100 [.int .i64 ((ix x1 v47).Volume), .int .i64 ((ix x1 v47).Start), .slice A62 n62 c62], .row (.slice A41 n42 c43) 65 2 n42 s44] := hMR.sub (List.sublist_append_right R _)
    exact RW.step (Ex.move (.tuple #[.agg #[.int .i64 (v77.1.Size), .slice A79 n79 c79], .int .i64 (v77.2)]) rfl) rfl rfl rfl (RW.nil ⟨rfl, rfl, _, rfl, H', [], Hp.le.refl _, hMR, A79, n79, c79, s79, rfl, rfl, hF82, trivial⟩)
   ·
    intro H' σ' w R E hle hMR hE0 hE hp hf
    obtain rfl := hE0 rfl
    obtain ⟨_, hg⟩ := hp 15 (by decide) (by kernel_rfl)
    obtain ⟨A79, n79, c79, s79, e109, _, hF82, _⟩ := hg.get rfl
    have e110 : σ' 48 = .tuple #[.agg #[.int .i64 (v77.1.Size), .slice A79 n79 c79], .int .i64 (v77.2)] := (List.cons.inj e109).1
    have e111 : σ' 33 = .tuple #[.agg #[.int .i64 (v77.1.Size), .slice A79 n79 c79], .int .i64 (v77.2)] := (List.cons.inj (List.cons.inj e109).2).1
    obtain ⟨τ, rfl⟩ := sl_canon (σ := σ') (l := [(33, .tuple #[.agg #[.int .i64 (v77.1.Size), .slice A79 n79 c79], .int .i64 (v77.2)])]) ⟨e111, trivial⟩
    have hM : Mem w0 H w H' [.box b64 100 [.int .i64 ((ix x1 v47).Volume), .int .i64 ((ix x1 v47).Start), .slice A62 n62 c62], .row (.slice A41 n42 c43) 65 2 n42 s44] := hMR.sub (List.sublist_append_right R _)
    exact RW.step (Ex.extract rfl rfl) rfl rfl rfl (RW.nil ⟨rfl, rfl, _, rfl, H', [], Hp.le.refl _, hMR, A79, n79, c79, s79, rfl, rfl, hF82, trivial⟩)
   ·
    intro H' σ' w R E hle hMR hE0 hE hp hf
    obtain rfl := hE0 rfl
    obtain ⟨_, hg⟩ := hp 15 (by decide) (by kernel_rfl)
    obtain ⟨A79, n79, c79, s79, e112, _, hF82, _⟩ := hg.get rfl
    have e113 : σ' 48 = .tuple #[.agg #[.int .i64 (v77.1.Size), .slice A79 n79 c79], .int .i64 (v77.2)] := (List.cons.inj e112).1
    have e114 : σ' 33 = .tuple #[.agg #[.int .i64 (v77.1.Size), .slice A79 n79 c79], .int .i64 (v77.2)] := (List.cons.inj (List.cons.inj e112).2).1
    obtain ⟨τ, rfl⟩ := sl_canon (σ := σ') (l := [(33, .tuple #[.agg #[.int .i64 (v77.1.Size), .slice A79 n79 c79], .int .i64 (v77.2)])]) ⟨e114, trivial⟩
    have hM : Mem w0 H w H' [.box b64 100 [.int .i64 ((ix x1 v47).Volume), .int .i64 ((ix x1 v47).Start), .slice A62 n62 c62], .row (.slice A41 n42 c43) 65 2 n42 s44] := hMR.sub (List.sublist_append_right R _)
    exact RW.step (Ex.extract rfl rfl) rfl rfl rfl (RW.nil ⟨rfl, rfl, _, rfl, H', [], Hp.le.refl _, hMR, rfl, rfl, trivial⟩)
   ·
    intro H' σ' w R E hle hMR hE0 hE hp hf
    obtain rfl := hE0 rfl
    obtain ⟨_, hg⟩ := hp 0 (by decide) (by kernel_rfl)
    obtain ⟨e115, _, _⟩ := hg.get rfl
    have e116 : σ' 34 = .slice A41 n42 c43 := (List.cons.inj e115).1
    obtain ⟨_, hg⟩ := hp 2 (by decide) (by kernel_rfl)
    obtain ⟨e117, _, _⟩ := hg.get rfl
    have e118 : σ' 36 = .int .i64 ((ix x1 v47).Volume) := (List.cons.inj e117).1
    obtain ⟨τ, rfl⟩ := sl_canon (σ := σ') (l := [(34, .slice A41 n42 c43), (36, .int .i64 ((ix x1 v47).Volume))]) ⟨e116, e118, trivial⟩
    have hM : Mem w0 H w H' [.box b64 100 [.int .i64 ((ix x1 v47).Volume), .int .i64 ((ix x1 v47).Start), .slice A62 n62 c62], .row (.slice A41 n42 c43) 65 2 n42 s44] := hMR.sub (List.sublist_append_right R _)
    exact RW.step (Ex.index st23 rfl rfl (((ix x1 v47).Volume).toNat) (hM.rowNeD (α := api_Bitmap) (p := 1) rfl hn46 hg74) hg74.nat (Nat.lt_of_lt_of_eq hg74.lt (hn46).symm)) rfl rfl rfl (RW.nil ⟨rfl, rfl, _, rfl, H', [], Hp.le.refl _, hMR, rfl, rfl, trivial⟩)
   ·
    intro H8 σ' w X miss hms hle8 hM hX hX0 hf
    simp [subs] at hms
    rcases hms with rfl | rfl
    ·
     obtain ⟨H119, hH8⟩ : ∃ x, x = H8 := ⟨_, rfl⟩
     subst hH8
     have hle120 := hle8
     obtain ⟨_, g0, y0⟩ := hX 0 (by decide) (by kernel_rfl)
     obtain ⟨_, rfl, _⟩ := g0.get rfl
     replace y0 : X 0 = [] := y0
     obtain ⟨_, g0, y1⟩ := hX 1 (by decide) (by kernel_rfl)
     obtain ⟨_, rfl, _⟩ := g0.get rfl
     replace y1 : X 1 = [] := y1
     obtain ⟨_, g0, y2⟩ := hX 2 (by decide) (by kernel_rfl)
     obtain ⟨_, rfl, _⟩ := g0.get rfl
     replace y2 : X 2 = [] := y2
     obtain ⟨_, g0, y3⟩ := hX 3 (by decide) (by kernel_rfl)
     obtain ⟨_, rfl, _⟩ := g0.get rfl
     replace y3 : X 3 = [] := y3
     obtain ⟨_, g0, y4⟩ := hX 4 (by decide) (by kernel_rfl)
     obtain ⟨_, rfl, _⟩ := g0.get rfl
     replace y4 : X 4 = [] := y4
     obtain ⟨_, g0, y5⟩ := hX 5 (by decide) (by kernel_rfl)
     obtain ⟨_, rfl, _⟩ := g0.get rfl
     replace y5 : X 5 = [] := y5
     obtain ⟨_, g0, y6⟩ := hX 6 (by decide) (by kernel_rfl)
     obtain ⟨_, rfl, _⟩ := g0.get rfl
     replace y6 : X 6 = [] := y6
     obtain ⟨_, g0, y7⟩ := hX 7 (by decide) (by kernel_rfl)
     obtain ⟨_, rfl, _⟩ := g0.get rfl
     replace y7 : X 7 = [] := y7
     obtain ⟨_, g0, y8⟩ := hX 8 (by decide) (by kernel_rfl)
     obtain ⟨_, rfl, _⟩ := g0.get rfl
     replace y8 : X 8 = [] := y8
     obtain ⟨_, g0, y9⟩ := hX 9 (by decide) (by kernel_rfl)
     obtain ⟨_, rfl, _⟩ := g0.get rfl
     replace y9 : X 9 = [] := y9
     obtain ⟨_, g0, y10⟩ := hX 10 (by decide) (by kernel_rfl)
     obtain ⟨_, rfl, _⟩ := g0.get rfl
     replace y10 : X 10 = [] := y10
     obtain ⟨_, g0, y11⟩ := hX 11 (by decide) (by kernel_rfl)
     obtain ⟨_, rfl, _⟩ := g0.get rfl
     replace y11 : X 11 = [] := y11
     obtain ⟨_, g0, y12⟩ := hX 12 (by decide) (by kernel_rfl)
     obtain ⟨_, rfl, _⟩ := g0.get rfl
     replace y12 : X 12 = [] := y12
     obtain ⟨_, g0, y13⟩ := hX 13 (by decide) (by kernel_rfl)
     obtain ⟨_, rfl, _⟩ := g0.get rfl
     replace y13 : X 13 = [] := y13
     obtain ⟨_, g0, y14⟩ := hX 14 (by decide) (by kernel_rfl)
     obtain ⟨A79, n79, c79, s79, e121, rfl, hF82, _⟩ := g0.get rfl
     have e122 : σ' 48 = .tuple #[.agg #[.int .i64 (v77.1.Size), .slice A79 n79 c79], .int .i64 (v77.2)] := (List.cons.inj e121).1
     replace y14 : X 14 = [] := y14
     obtain ⟨_, g0, y15⟩ := hX 15 (by decide) (by kernel_rfl)
     obtain ⟨A79q, n79q, c79q, s79q, e123, rfl, _, _⟩ := g0.get rfl
     have e124 : σ' 48 = .tuple #[.agg #[.int .i64 (v77.1.Size), .slice A79q n79q c79q], .int .i64 (v77.2)] := (List.cons.inj e123).1
     have he_ := e122.symm.trans e124
     have ⟨e125, e126, e127⟩ : A79 = A79q ∧ n79 = n79q ∧ c79 = c79q := by simp at he_; simp [he_]
     subst e125
     subst e126
     subst e127
     have e128 : σ' 33 = .tuple #[.agg #[.int .i64 (v77.1.Size), .slice A79 n79 c79], .int .i64 (v77.2)] := (List.cons.inj (List.cons.inj e123).2).1
     replace y15 : X 15 = [] := y15
     obtain ⟨_, g0, y16⟩ := hX 16 (by decide) (by kernel_rfl)
     obtain ⟨A79q, n79q, c79q, s79q, e129, rfl, _, _⟩ := g0.get rfl
     have e130 : σ' 33 = .tuple #[.agg #[.int .i64 (v77.1.Size), .slice A79q n79q c79q], .int .i64 (v77.2)] := (List.cons.inj e129).1
     have he_ := e128.symm.trans e130
     have ⟨e131, e132, e133⟩ : A79 = A79q ∧ n79 = n79q ∧ c79 = c79q := by simp at he_; simp [he_]
     subst e131
     subst e132
     subst e133
     have e134 : σ' 49 = .agg #[.int .i64 (v77.1.Size), .slice A79 n79 c79] := (List.cons.inj (List.cons.inj e129).2).1
     replace y16 : X 16 = [] := y16
     obtain ⟨_, g0, y17⟩ := hX 17 (by decide) (by kernel_rfl)
     obtain ⟨_, rfl, _⟩ := g0.get rfl
     replace y17 : X 17 = [] := y17
     obtain ⟨_, g0, y18⟩ := hX 18 (by decide) (by kernel_rfl)
     obtain ⟨e135, rfl, _⟩ := g0.get rfl
     have e136 : σ' 51 = elp A41 ((((ix x1 v47).Volume).toNat) * 2 + 0) := (List.cons.inj e135).1
     replace y18 : X 18 = [] := y18
     have hfl : flatX X 19 = [] := by
      show X 0 ++ (X 1 ++ (X 2 ++ (X 3 ++ (X 4 ++ (X 5 ++ (X 6 ++ (X 7 ++ (X 8 ++ (X 9 ++ (X 10 ++ (X 11 ++ (X 12 ++ (X 13 ++ (X 14 ++ (X 15 ++ (X 16 ++ (X 17 ++ (X 18 ++ [])))))))))))))))))) = _
      rw [y0, y1, y2, y3, y4, y5, y6, y7, y8, y9, y10, y11, y12, y13, y14, y15, y16, y17, y18]; rfl
     rw [hfl] at hM
     obtain ⟨τ, rfl⟩ := sl_canon (σ := σ') (l := [(1, .slice A2 n2 c2), (5, .slice A41 n42 c43), (7, .int .i64 (v47)), (49, .agg #[.int .i64 (v77.1.Size), .slice A79 n79 c79]), (51, elp A41 ((((ix x1 v47).Volume).toNat) * 2 + 0))]) ⟨(hf 1 (by kernel_rfl)).trans rfl, (hf 5 (by kernel_rfl)).trans rfl, (hf 7 (by kernel_rfl)).trans rfl, e134, e136, trivial⟩
     replace hM : Mem w0 H w H119 [.box b64 100 [.int .i64 ((ix x1 v47).Volume), .int .i64 ((ix x1 v47).Start), .slice A62 n62 c62], .row (.slice A41 n42 c43) 65 2 n42 s44] := hM
     change RA _ _ _ _ _ _ _ (sl [(1, .slice A2 n2 c2), (5, .slice A41 n42 c43), (7, .int .i64 (v47)), (49, .agg #[.int .i64 (v77.1.Size), .slice A79 n79 c79]), (51, elp A41 ((((ix x1 v47).Volume).toNat) * 2 + 0))] τ) _ 20 _
     refine RA.step [19] (by kernel_rfl) rfl ⟨⟨_, rfl, ?_⟩, trivial⟩
     refine RW.storeD (α := api_Bitmap) (off := 0) (x' := v77.1) hM 1 (hd45.mono hle120) (.agg #[.int .i64 (v77.1.Size), .slice A79 n79 c79]) [.int .i64 (v77.1.Size), .slice A79 n79 c79] sz65 rfl hn46 hg74 (Nat.le_of_ble_eq_true rfl) rfl rfl (oneAll ⟨rfl, rfl, trivial⟩) rfl (fun ch h => rdWhole h ⟨_, _, _, _, rfl, hF82⟩) rfl rfl ?_
     intro s138 w hd139 hM
     replace hM : Mem w0 H w H119 [.box b64 100 [.int .i64 ((ix x1 v47).Volume), .int .i64 ((ix x1 v47).Start), .slice A62 n62 c62], .row (.slice A41 n42 c43) 65 2 n42 s138] := hM
     refine RW.nil ?_
     refine And.intro rfl ?_
     refine RA.done (by kernel_rfl) ?_
     refine CW.region <| RW.st (Ex.move (.int .i64 (v47)) rfl) rfl ?_
     obtain ⟨hg140, hm⟩ := hm
     refine RW.st (Ex.add rfl rfl hg140.1 hg140.2) rfl <| RW.st (Ex.assign (.int .i64 (v47 + 1)) rfl) rfl <| RW.nil ?_
     exact And.intro rfl ⟨k48, ⟨(put v40 ((ix x1 v47).Volume) v77.1), A41, n42, c43, s138, v47 + 1, H119, hle39.trans hle120, sl_canon ⟨rfl, rfl, rfl, trivial⟩, (hM.pick [1] rfl rfl), hd139, (hn46).trans (put_len _ _ _).symm, (by rw [hrec49]; exact hm)⟩, Nat.lt_succ_self _⟩
    ·
     obtain ⟨H119, hH8⟩ : ∃ x, x = H8 := ⟨_, rfl⟩
     subst hH8
     have hle120 := hle8
     obtain ⟨_, g0, y0⟩ := hX 0 (by decide) (by kernel_rfl)
     obtain ⟨_, rfl, _⟩ := g0.get rfl
     replace y0 : X 0 = [] := y0
     obtain ⟨_, g0, y1⟩ := hX 1 (by decide) (by kernel_rfl)
     obtain ⟨_, rfl, _⟩ := g0.get rfl
     replace y1 : X 1 = [] := y1
     obtain ⟨_, g0, y2⟩ := hX 2 (by decide) (by kernel_rfl)
     obtain ⟨_, rfl, _⟩ := g0.get rfl
     replace y2 : X 2 = [] := y2
     obtain ⟨_, g0, y3⟩ := hX 3 (by decide) (by kernel_rfl)
     obtain ⟨_, rfl, _⟩ := g0.get rfl
     replace y3 : X 3 = [] := y3
     obtain ⟨_, g0, y4⟩ := hX 4 (by decide) (by kernel_rfl)
     obtain ⟨_, rfl, _⟩ := g0.get rfl
     replace y4 : X 4 = [] := y4
     obtain ⟨_, g0, y5⟩ := hX 5 (by decide) (by kernel_rfl)
     obtain ⟨_, rfl, _⟩ := g0.get rfl
     replace y5 : X 5 = [] := y5
     obtain ⟨_, g0, y6⟩ := hX 6 (by decide) (by kernel_rfl)
     obtain ⟨_, rfl, _⟩ := g0.get rfl
     replace y6 : X 6 = [] := y6
     obtain ⟨_, g0, y7⟩ := hX 7 (by decide) (by kernel_rfl)
     obtain ⟨_, rfl, _⟩ := g0.get rfl
     replace y7 : X 7 = [] := y7
     obtain ⟨_, g0, y8⟩ := hX 8 (by decide) (by kernel_rfl)
     obtain ⟨_, rfl, _⟩ := g0.get rfl
     replace y8 : X 8 = [] := y8
     obtain ⟨_, g0, y9⟩ := hX 9 (by decide) (by kernel_rfl)
     obtain ⟨_, rfl, _⟩ := g0.get rfl
     replace y9 : X 9 = [] := y9
     obtain ⟨_, g0, y10⟩ := hX 10 (by decide) (by kernel_rfl)
     obtain ⟨_, rfl, _⟩ := g0.get rfl
     replace y10 : X 10 = [] := y10
     obtain ⟨_, g0, y11⟩ := hX 11 (by decide) (by kernel_rfl)
     obtain ⟨_, rfl, _⟩ := g0.get rfl
     replace y11 : X 11 = [] := y11
     obtain ⟨_, g0, y12⟩ := hX 12 (by decide) (by kernel_rfl)
     obtain ⟨_, rfl, _⟩ := g0.get rfl
     replace y12 : X 12 = [] := y12
     obtain ⟨_, g0, y13⟩ := hX 13 (by decide) (by kernel_rfl)
     obtain ⟨_, rfl, _⟩ := g0.get rfl
     replace y13 : X 13 = [] := y13
     obtain ⟨_, g0, y14⟩ := hX 14 (by decide) (by kernel_rfl)
     obtain ⟨A79, n79, c79, s79, e121, rfl, hF82, _⟩ := g0.get rfl
     have e122 : σ' 48 = .tuple #[.agg #[.int .i64 (v77.1.Size), .slice A79 n79 c79], .int .i64 (v77.2)] := (List.cons.inj e121).1
     replace y14 : X 14 = [] := y14
     obtain ⟨_, g0, y15⟩ := hX 15 (by decide) (by kernel_rfl)
     obtain ⟨A79q, n79q, c79q, s79q, e123, rfl, _, _⟩ := g0.get rfl
     have e124 : σ' 48 = .tuple #[.agg #[.int .i64 (v77.1.Size), .slice A79q n79q c79q], .int .i64 (v77.2)] := (List.cons.inj e123).1
     have he_ := e122.symm.trans e124
     have ⟨e125, e126, e127⟩ : A79 = A79q ∧ n79 = n79q ∧ c79 = c79q := by simp at he_; simp [he_]
     subst e125
     subst e126
     subst e127
     have e128 : σ' 33 = .tuple #[.agg #[.int .i64 (v77.1.Size), .slice A79 n79 c79], .int .i64 (v77.2)] := (List.cons.inj (List.cons.inj e123).2).1
     replace y15 : X 15 = [] := y15
     obtain ⟨_, g0, y16⟩ := hX 16 (by decide) (by kernel_rfl)
     obtain ⟨A79q, n79q, c79q, s79q, e129, rfl, _, _⟩ := g0.get rfl
     have e130 : σ' 33 = .tuple #[.agg #[.int .i64 (v77.1.Size), .slice A79q n79q c79q], .int .i64 (v77.2)] := (List.cons.inj e129).1
     have he_ := e128.symm.trans e130
     have ⟨e131, e132, e133⟩ : A79 = A79q ∧ n79 = n79q ∧ c79 = c79q := by simp at he_; simp [he_]
     subst e131
     subst e132
     subst e133
     have e134 : σ' 49 = .agg #[.int .i64 (v77.1.Size), .slice A79 n79 c79] := (List.cons.inj (List.cons.inj e129).2).1
     replace y16 : X 16 = [] := y16
     have y17 : X 17 = [] := hX0 17 (by decide) (by kernel_rfl)
     obtain ⟨_, g0, y18⟩ := hX 18 (by decide) (by kernel_rfl)
     obtain ⟨e135, rfl, _⟩ := g0.get rfl
     have e136 : σ' 51 = elp A41 ((((ix x1 v47).Volume).toNat) * 2 + 0) := (List.cons.inj e135).1
     replace y18 : X 18 = [] := y18
     have hfl : flatX X 19 = [] := by
      show X 0 ++ (X 1 ++ (X 2 ++ (X 3 ++ (X 4 ++ (X 5 ++ (X 6 ++ (X 7 ++ (X 8 ++ (X 9 ++ (X 10 ++ (X 11 ++ (X 12 ++ (X 13 ++ (X 14 ++ (X 15 ++ (X 16 ++ (X 17 ++ (X 18 ++ [])))))))))))))))))) = _
      rw [y0, y1, y2, y3, y4, y5, y6, y7, y8, y9, y10, y11, y12, y13, y14, y15, y16, y17, y18]; rfl
     rw [hfl] at hM
     obtain ⟨τ, rfl⟩ := sl_canon (σ := σ') (l := [(1, .slice A2 n2 c2), (5, .slice A41 n42 c43), (7, .int .i64 (v47)), (33, .tuple #[.agg #[.int .i64 (v77.1.Size), .slice A79 n79 c79], .int .i64 (v77.2)]), (49, .agg #[.int .i64 (v77.1.Size), .slice A79 n79 c79]), (51, elp A41 ((((ix x1 v47).Volume).toNat) * 2 + 0))]) ⟨(hf 1 (by kernel_rfl)).trans rfl, (hf 5 (by kernel_rfl)).trans rfl, (hf 7 (by kernel_rfl)).trans rfl, e128, e134, e136, trivial⟩
     replace hM : Mem w0 H w H119 [.box b64 100 [.int .i64 ((ix x1 v47).Volume), .int .i64 ((ix x1 v47).Start), .slice A62 n62 c62], .row (.slice A41 n42 c43) 65 2 n42 s44] := hM
     change RA _ _ _ _ _ _ _ (sl [(1, .slice A2 n2 c2), (5, .slice A41 n42 c43), (7, .int .i64 (v47)), (33, .tuple #[.agg #[.int .i64 (v77.1.Size), .slice A79 n79 c79], .int .i64 (v77.2)]), (49, .agg #[.int .i64 (v77.1.Size), .slice A79 n79 c79]), (51, elp A41 ((((ix x1 v47).Volume).toNat) * 2 + 0))] τ) _ 20 _
     refine RA.step [17, 19] (by kernel_rfl) rfl ⟨⟨_, rfl, ?_⟩, ⟨_, rfl, ?_⟩, trivial⟩
     ·
      refine RW.st (Ex.extract rfl rfl) rfl <| RW.nil ?_
      refine And.intro rfl ?_
      refine RA.step [19] (by kernel_rfl) rfl ⟨⟨_, rfl, ?_⟩, trivial⟩
      refine RW.storeD (α := api_Bitmap) (off := 0) (x' := v77.1) hM 1 (hd45.mono hle120) (.agg #[.int .i64 (v77.1.Size), .slice A79 n79 c79]) [.int .i64 (v77.1.Size), .slice A79 n79 c79] sz65 rfl hn46 hg74 (Nat.le_of_ble_eq_true rfl) rfl rfl (oneAll ⟨rfl, rfl, trivial⟩) rfl (fun ch h => rdWhole h ⟨_, _, _, _, rfl, hF82⟩) rfl rfl ?_
      intro s138 w hd139 hM
      replace hM : Mem w0 H w H119 [.box b64 100 [.int .i64 ((ix x1 v47).Volume), .int .i64 ((ix x1 v47).Start), .slice A62 n62 c62], .row (.slice A41 n42 c43) 65 2 n42 s138] := hM
      refine RW.nil ?_
      refine And.intro rfl ?_
      refine RA.done (by kernel_rfl) ?_
      refine CW.region <| RW.st (Ex.move (.int .i64 (v47)) rfl) rfl ?_
      obtain ⟨hg140, hm⟩ := hm
      refine RW.st (Ex.add rfl rfl hg140.1 hg140.2) rfl <| RW.st (Ex.assign (.int .i64 (v47 + 1)) rfl) rfl <| RW.nil ?_
      exact And.intro rfl ⟨k48, ⟨(put v40 ((ix x1 v47).Volume) v77.1), A41, n42, c43, s138, v47 + 1, H119, hle39.trans hle120, sl_canon ⟨rfl, rfl, rfl, trivial⟩, (hM.pick [1] rfl rfl), hd139, (hn46).trans (put_len _ _ _).symm, (by rw [hrec49]; exact hm)⟩, Nat.lt_succ_self _⟩
     ·
      refine RW.storeD (α := api_Bitmap) (off := 0) (x' := v77.1) hM 1 (hd45.mono hle120) (.agg #[.int .i64 (v77.1.Size), .slice A79 n79 c79]) [.int .i64 (v77.1.Size), .slice A79 n79 c79] sz65 rfl hn46 hg74 (Nat.le_of_ble_eq_true rfl) rfl rfl (oneAll ⟨rfl, rfl, trivial⟩) rfl (fun ch h => rdWhole h ⟨_, _, _, _, rfl, hF82⟩) rfl rfl ?_
      intro s138 w hd139 hM
      replace hM : Mem w0 H w H119 [.box b64 100 [.int .i64 ((ix x1 v47).Volume), .int .i64 ((ix x1 v47).Start), .slice A62 n62 c62], .row (.slice A41 n42 c43) 65 2 n42 s138] := hM
      refine RW.nil ?_
      refine And.intro rfl ?_
      refine RA.step [17] (by kernel_rfl) rfl ⟨⟨_, rfl, ?_⟩, trivial⟩
      refine RW.st (Ex.extract rfl rfl) rfl <| RW.nil ?_
      refine And.intro rfl ?_
      refine RA.done (by kernel_rfl) ?_
      refine CW.region <| RW.st (Ex.move (.int .i64 (v47)) rfl) rfl ?_
      obtain ⟨hg140, hm⟩ := hm
      refine RW.st (Ex.add rfl rfl hg140.1 hg140.2) rfl <| RW.st (Ex.assign (.int .i64 (v47 + 1)) rfl) rfl <| RW.nil ?_
      exact And.intro rfl ⟨k48, ⟨(put v40 ((ix x1 v47).Volume) v77.1), A41, n42, c43, s138, v47 + 1, H119, hle39.trans hle120, sl_canon ⟨rfl, rfl, rfl, trivial⟩, (hM.pick [1] rfl rfl), hd139, (hn46).trans (put_len _ _ _).symm, (by rw [hrec49]; exact hm)⟩, Nat.lt_succ_self _⟩
  ·
   replace hm := And.right hm hc50
   refine CW.exit ?_
   refine CW.seq <| CW.region <| RW.st (Ex.move (.slice A41 n42 c43) rfl) rfl <| RW.st (Ex.assign (.slice A41 n42 c43) rfl) rfl <| RW.nil <| CW.ret ?_
   refine end_tmp (.inl rfl) rfl (.slice A41 n42 c43) rfl ?_
   exact ⟨_, _, hM, v40, hm, A41, n42, c43, s44, rfl, hd45, hn46, rfl⟩
theorem image_Check_lift {H : Hp} (x0 : List (List Sec)) {A1 : Option Addr} {n1 c1 : Nat} {s1 : List Value} (hF1 : Fz (α := List Sec) H A1 n1 c1 x0 s1) {Φ : Int → Prop} (hm : image_Check_W x0 Φ) : RetP Tryd.prog 62 #[.slice A1 n1 c1] H (fun _ v L => ∃ y, Φ y ∧ v = .int .i64 (y) ∧ L = []) := by
 refine RetP.of_code Tryd.func62 rfl (Nat.le_of_ble_eq_true rfl) fun w0 hM => ?_
 refine CW.seq <| CW.region <| RW.st (Ex.assign (.int .i64 (0)) rfl) rfl <| RW.nil <| CW.seq <| CW.region <| RW.st (Ex.move (.slice A1 n1 c1) rfl) rfl ?_
 refine RW.callP hM (image_sizes_lift x0 hF1 hm) en111 rfl rfl rfl rfl ?_; rintro _ w H3 _ hle4 ⟨v2, hm, A5, n5, c5, s5, rfl, hd6, hn7, rfl⟩ hM
 replace hM : Mem w0 H w H3 [.row (.slice A5 n5 c5) 3 1 n5 s5] := hM
 have hM1 := hM
 obtain ⟨H8, hM, hle9, hF10⟩ := hM.giveF (α := Int) 0 rfl hd6 hn7
 replace hM : Mem w0 H w H8 [] := hM
 refine RW.callB hM1 hM (image_checkSizes_lift v2 hF10 hm) en110 rfl rfl rfl rfl ?_; clear hM hM1; intro v11 w hm hM
 replace hM : Mem w0 H w H3 [.row (.slice A5 n5 c5) 3 1 n5 s5] := hM
 refine RW.st (Ex.assign (.int .i64 (v11)) rfl) rfl <| RW.nil <| CW.ret ?_
 refine end_tmp (.inl rfl) rfl (.int .i64 (v11)) rfl ?_
 exact ⟨_, _, (hM.pick [] rfl rfl), v11, hm, rfl, rfl⟩
theorem delta_marked_lift {H : Hp} (hT : TabH H 0) (x0 : api_Point) (x1 : api_Point) {A1 : Option Addr} {n1 c1 : Nat} {s1 : List Value} (_ : Fz (α := api_Span) H A1 n1 c1 x0.Lineage s1) {A2 : Option Addr} {n2 c2 : Nat} {s2 : List Value} (hF2 : Fz (α := api_Bitmap) H A2 n2 c2 x0.Dirty s2) {A3 : Option Addr} {n3 c3 : Nat} {s3 : List Value} (_ : Fz (α := List Sec) H A3 n3 c3 x0.Image s3) {A4 : Option Addr} {n4 c4 : Nat} {s4 : List Value} (_ : Fz (α := api_Span) H A4 n4 c4 x1.Lineage s4) {A5 : Option Addr} {n5 c5 : Nat} {s5 : List Value} (hF5 : Fz (α := api_Bitmap) H A5 n5 c5 x1.Dirty s5) {A6 : Option Addr} {n6 c6 : Nat} {s6 : List Value} (_ : Fz (α := List Sec) H A6 n6 c6 x1.Image s6) {Φ : List (List api_Extent) → Prop} (hm : delta_marked_W x0 x1 Φ) : RetP Tryd.prog 99 #[.agg #[.int .i64 (x0.Site), .slice A1 n1 c1, .slice A2 n2 c2, .slice A3 n3 c3], .agg #[.int .i64 (x1.Site), .slice A4 n4 c4, .slice A5 n5 c5, .slice A6 n6 c6]] H (fun H' v L => ∃ y, Φ y ∧ ∃ A110, ∃ n110, ∃ c110, ∃ s110, v = .slice A110 n110 c110 ∧ DtL (α := List api_Extent) H' s110 y ∧ n110 = y.length ∧ L = [.row (.slice A110 n110 c110) 68 1 n110 s110]) := by
 refine RetP.of_code Tryd.func99 rfl (Nat.le_of_ble_eq_true rfl) fun w0 hM => ?_
 refine CW.seq <| CW.region ?_
 refine RW.box hM (.agg #[.int .i64 (x0.Site), .slice A1 n1 c1, .slice A2 n2 c2, .slice A3 n3 c3]) [.int .i64 (x0.Site), .slice A1 n1 c1, .slice A2 n2 c2, .slice A3 n3 c3] rfl rfl rfl rfl ?_; intro b7 w hM
 replace hM : Mem w0 H w H [.box b7 27 [.int .i64 (x0.Site), .slice A1 n1 c1, .slice A2 n2 c2, .slice A3 n3 c3]] := hM
 refine RW.box hM (.agg #[.int .i64 (x1.Site), .slice A4 n4 c4, .slice A5 n5 c5, .slice A6 n6 c6]) [.int .i64 (x1.Site), .slice A4 n4 c4, .slice A5 n5 c5, .slice A6 n6 c6] rfl rfl rfl rfl ?_; intro b8 w hM
 replace hM : Mem w0 H w H [.box b8 27 [.int .i64 (x1.Site), .slice A4 n4 c4, .slice A5 n5 c5, .slice A6 n6 c6], .box b7 27 [.int .i64 (x0.Site), .slice A1 n1 c1, .slice A2 n2 c2, .slice A3 n3 c3]] := hM
 refine RW.st (Ex.assign (.slice none 0 0) rfl) rfl <| RW.nil <| CW.seq <| CW.region <| RW.st (Ex.fieldAddr fa27_2 rfl) rfl <| RW.st (Ex.load1 hM 1 to23 rfl rfl rfl) rfl <| RW.st (Ex.lenN st23.1 rfl hF2.hn) rfl ?_
 obtain ⟨hg15, hm⟩ := hm
 obtain ⟨hg16, hm⟩ := hm
 refine RW.makeD (α := List api_Extent) (x0 := ([] : List api_Extent)) hM st30 tz68 [.slice none 0 0] rfl (fun _ => ⟨_, _, _, _, rfl, Fz.nil⟩) rfl rfl hg15 hg16 rfl rfl ?_; intro b9 n10 s12 w hd13 hn14 hM
 replace hM : Mem w0 H w H [.row (.slice (some ⟨b9, 0, none⟩) n10 n10) 68 1 n10 s12, .box b8 27 [.int .i64 (x1.Site), .slice A4 n4 c4, .slice A5 n5 c5, .slice A6 n6 c6], .box b7 27 [.int .i64 (x0.Site), .slice A1 n1 c1, .slice A2 n2 c2, .slice A3 n3 c3]] := hM
 refine RW.st (Ex.assign (.slice (some ⟨b9, 0, none⟩) n10 n10) rfl) rfl <| RW.nil <| CW.seq <| CW.seq <| CW.region <| RW.st (Ex.move (.slice (some ⟨b9, 0, none⟩) n10 n10) rfl) rfl <| RW.st (Ex.lenN st30.1 rfl hn14) rfl <| RW.st (Ex.move (.int .i64 (0)) rfl) rfl <| RW.nil <| CW.block ?_
 obtain ⟨m109, hm⟩ := hm
 skip
 refine CW.loop (β := Nat) (fun n σ w => ∃ (v19 : List (List api_Extent)), ∃ (A20 : Option Addr), ∃ (n21 : Nat), ∃ (c22 : Nat), ∃ (s23 : List Value), ∃ (v26 : Int), ∃ Hk17, H.le Hk17 ∧ (∃ τ, σ = sl [(2, .pointer (some ⟨b7, 0, none⟩)), (3, .pointer (some ⟨b8, 0, none⟩)), (5, .slice A20 n21 c22), (14, .int .i64 (((List.replicate (x0.Dirty.length : Int).toNat ([] : List api_Extent)).length : Int))), (15, .int .i64 (v26))] τ) ∧ Mem w0 H w Hk17 [.box b7 27 [.int .i64 (x0.Site), .slice A1 n1 c1, .slice A2 n2 c2, .slice A3 n3 c3], .box b8 27 [.int .i64 (x1.Site), .slice A4 n4 c4, .slice A5 n5 c5, .slice A6 n6 c6], .row (.slice A20 n21 c22) 68 1 n21 s23] ∧ (DtL (α := List api_Extent) Hk17 s23 v19) ∧ (n21 = v19.length) ∧ LoopN (delta_marked_L1 x0 x1 Φ) n (v19, v26)) (fun n => n) m109 ⟨(List.replicate (x0.Dirty.length : Int).toNat ([] : List api_Extent)), (some ⟨b9, 0, none⟩), n10, n10, s12, 0, H, (Hp.le.refl _), sl_canon ⟨rfl, rfl, rfl, rfl, rfl, trivial⟩, (hM.pick [2, 1, 0] rfl rfl), hd13, hn14, hm⟩ ?_
 rintro k27 _ w ⟨v19, A20, n21, c22, s23, v26, Hk17, hle18, ⟨τ, rfl⟩, hM, hd24, hn25, hm⟩
 obtain _ | k27 := k27
 · exact hm.elim
 replace hm : (delta_marked_L1 x0 x1 Φ) (v19, v26) (LoopN (delta_marked_L1 x0 x1 Φ) k27) := hm
 generalize hrec28 : LoopN (delta_marked_L1 x0 x1 Φ) k27 = rec1 at hm
 refine CW.seq <| CW.region <| RW.st (Ex.lss rfl rfl) rfl <| RW.nil <| CW.seq ?_
 refine CW.cond_dec (p := v26 < ((List.replicate (x0.Dirty.length : Int).toNat ([] : List api_Extent)).length : Int)) rfl (fun hc29 => ?_) (fun hc29 => ?_)
 ·
  replace hm := And.left hm hc29
  refine CW.skip <| CW.seq <| CW.block <| CW.seq <| CW.region <| RW.st (Ex.move (.int .i64 (v26)) rfl) rfl <| RW.st (Ex.assign (.int .i64 (v26)) rfl) rfl <| RW.nil <| CW.seq ?_
  obtain ⟨hg30, hm⟩ := hm
  obtain ⟨_, ⟨A31, n31, c31, s31, rfl, hF31⟩, hx32⟩ := DtL.getI (α := api_Bitmap) (hF2.mono hle18).dat hg30
  obtain ⟨hg33, hm⟩ := hm
  obtain ⟨_, ⟨A34, n34, c34, s34, rfl, hF34⟩, hx35⟩ := DtL.getI (α := api_Bitmap) (hF5.mono hle18).dat hg33
  obtain ⟨v36, hW37, hm⟩ := hm
  refine CW.drawL 17 [] [(fun Hq us E => us = [.pointer (some ⟨b7, 2, none⟩)] ∧ E = [] ∧ True), (fun Hq us E => us = [.slice A2 n2 c2] ∧ E = [] ∧ True), (fun Hq us E => us = [.int .i64 (v26)] ∧ E = [] ∧ True), (fun Hq us E => us = [elp A2 (v26.toNat * 2 + 0)] ∧ E = [] ∧ True), (fun Hq us E => us = [.agg #[.int .i64 ((ix x0.Dirty v26).Size), .slice A31 n31 c31]] ∧ E = [] ∧ True), (fun Hq us E => us = [.pointer (some ⟨b8, 2, none⟩)] ∧ E = [] ∧ True), (fun Hq us E => us = [.slice A5 n5 c5] ∧ E = [] ∧ True), (fun Hq us E => us = [.int .i64 (v26)] ∧ E = [] ∧ True), (fun Hq us E => us = [elp A5 (v26.toNat * 2 + 0)] ∧ E = [] ∧ True), (fun Hq us E => us = [.agg #[.int .i64 ((ix x1.Dirty v26).Size), .slice A34 n34 c34]] ∧ E = [] ∧ True), (fun Hq us E => ∃ (A38 : Option Addr), ∃ (n38 : Nat), ∃ (c38 : Nat), ∃ (s38 : List Value), us = [.tuple #[.agg #[.int .i64 (v36.1.Size), .slice A38 n38 c38], .int .i64 (v36.2)]] ∧ E = [] ∧ Fz (α := BitVec 64) Hq A38 n38 c38 v36.1.Words s38 ∧ True), (fun Hq us E => ∃ (A38 : Option Addr), ∃ (n38 : Nat), ∃ (c38 : Nat), ∃ (s38 : List Value), us = [.tuple #[.agg #[.int .i64 (v36.1.Size), .slice A38 n38 c38], .int .i64 (v36.2)], .tuple #[.agg #[.int .i64 (v36.1.Size), .slice A38 n38 c38], .int .i64 (v36.2)]] ∧ E = [] ∧ Fz (α := BitVec 64) Hq A38 n38 c38 v36.1.Words s38 ∧ True), (fun Hq us E => ∃ (A38 : Option Addr), ∃ (n38 : Nat), ∃ (c38 : Nat), ∃ (s38 : List Value), us = [.tuple #[.agg #[.int .i64 (v36.1.Size), .slice A38 n38 c38], .int .i64 (v36.2)], .agg #[.int .i64 (v36.1.Size), .slice A38 n38 c38]] ∧ E = [] ∧ Fz (α := BitVec 64) Hq A38 n38 c38 v36.1.Words s38 ∧ True), (fun Hq us E => us = [.int .i64 (v36.2)] ∧ E = [] ∧ True), (fun Hq us E => ∃ (b42 : Nat), us = [.pointer (some ⟨b42, 0, none⟩)] ∧ E = [.box b42 65 [.int .i64 (0), .slice none 0 0]] ∧ True), (fun Hq us E => ∃ (A38 : Option Addr), ∃ (n38 : Nat), ∃ (c38 : Nat), ∃ (s38 : List Value), ∃ (b42 : Nat), us = [.agg #[.int .i64 (v36.1.Size), .slice A38 n38 c38], .pointer (some ⟨b42, 0, none⟩)] ∧ E = [.box b42 65 [.int .i64 (v36.1.Size), .slice A38 n38 c38]] ∧ Fz (α := BitVec 64) Hq A38 n38 c38 v36.1.Words s38 ∧ True), (fun Hq us E => us = [.int .i64 (v36.2)] ∧ E = [] ∧ True)]
   (fun k => [[0], [1], [2], [3], [4], [5], [6], [7], [8], [9], [10], [10, 11], [11, 12], [13], [14], [12, 14], [16]].getD k []) (fun k => [none, none, none, none, none, none, none, none, none, none, none, none, none, none, none, some 14, none].getD k none) (by kernel_rfl) hM (by kernel_rfl) (by kernel_rfl) (by kernel_rfl) rfl (by simp only [List.forall_mem_cons]; exact ⟨fun _ _ _ _ hle ⟨e1, e2, _⟩ => ⟨e1, e2, trivial⟩, fun _ _ _ _ hle ⟨e1, e2, _⟩ => ⟨e1, e2, trivial⟩, fun _ _ _ _ hle ⟨e1, e2, _⟩ => ⟨e1, e2, trivial⟩, fun _ _ _ _ hle ⟨e1, e2, _⟩ => ⟨e1, e2, trivial⟩, fun _ _ _ _ hle ⟨e1, e2, _⟩ => ⟨e1, e2, trivial⟩, fun _ _ _ _ hle ⟨e1, e2, _⟩ => ⟨e1, e2, trivial⟩, fun _ _ _ _ hle ⟨e1, e2, _⟩ => ⟨e1, e2, trivial⟩, fun _ _ _ _ hle ⟨e1, e2, _⟩ => ⟨e1, e2, trivial⟩, fun _ _ _ _ hle ⟨e1, e2, _⟩ => ⟨e1, e2, trivial⟩, fun _ _ _ _ hle ⟨e1, e2, _⟩ => ⟨e1, e2, trivial⟩, fun _ _ _ _ hle ⟨A38, n38, c38, s38, e1, e2, hF41, _⟩ => ⟨A38, n38, c38, s38, e1, e2, hF41.mono hle, trivial⟩, fun _ _ _ _ hle ⟨A38, n38, c38, s38, e1, e2, hF41, _⟩ => ⟨A38, n38, c38, s38, e1, e2, hF41.mono hle, trivial⟩, fun _ _ _ _ hle ⟨A38, n38, c38, s38, e1, e2, hF41, _⟩ => ⟨A38, n38, c38, s38, e1, e2, hF41.mono hle, trivial⟩, fun _ _ _ _ hle ⟨e1, e2, _⟩ => ⟨e1, e2, trivial⟩, fun _ _ _ _ hle ⟨b42, e1, e2, _⟩ => ⟨b42, e1, e2, trivial⟩, fun _ _ _ _ hle ⟨A38, n38, c38, s38, b42, e1, e2, hF41, _⟩ => ⟨A38, n38, c38, s38, b42, e1, e2, hF41.mono hle, trivial⟩, fun _ _ _ _ hle ⟨e1, e2, _⟩ => ⟨e1, e2, trivial⟩, by simp⟩) ⟨?_, ?_, ?_, ?_, ?_, ?_, ?_, ?_, ?_, ?_, ?_, ?_, ?_, ?_, ?_, ?_, ?_, trivial⟩ ?_
  ·
   intro H' σ' w R E hle hMR hE0 hE hp hf
   obtain rfl := hE0 rfl
   obtain ⟨τ, rfl⟩ := sl_canon (σ := σ') (l := [(2, .pointer (some ⟨b7, 0, none⟩))]) ⟨(hf 2 (by kernel_rfl)).trans rfl, trivial⟩
   have hM : Mem w0 H w H' [.box b7 27 [.int .i64 (x0.Site), .slice A1 n1 c1, .slice A2 n2 c2, .slice A3 n3 c3], .box b8 27 [.int .i64 (x1.Site), .slice A4 n4 c4, .slice A5 n5 c5, .slice A6 n6 c6], .row (.slice A20 n21 c22) 68 1 n21 s23] := hMR.sub (List.sublist_append_right R _)
   exact RW.step (Ex.fieldAddr fa27_2 rfl) rfl rfl rfl (RW.nil ⟨rfl, rfl, _, rfl, H', [], Hp.le.refl _, hMR, rfl, rfl, trivial⟩)
  ·
   intro H' σ' w R E hle hMR hE0 hE hp hf
   obtain rfl := hE0 rfl
   obtain ⟨_, hg⟩ := hp 0 (by decide) (by kernel_rfl)
   obtain ⟨e43, _, _⟩ := hg.get rfl
   have e44 : σ' 19 = .pointer (some ⟨b7, 2, none⟩) := (List.cons.inj e43).1
   obtain ⟨τ, rfl⟩ := sl_canon (σ := σ') (l := [(19, .pointer (some ⟨b7, 2, none⟩))]) ⟨e44, trivial⟩
   have hM : Mem w0 H w H' [.box b7 27 [.int .i64 (x0.Site), .slice A1 n1 c1, .slice A2 n2 c2, .slice A3 n3 c3], .box b8 27 [.int .i64 (x1.Site), .slice A4 n4 c4, .slice A5 n5 c5, .slice A6 n6 c6], .row (.slice A20 n21 c22) 68 1 n21 s23] := hMR.sub (List.sublist_append_right R _)
   exact RW.step (Ex.load1 hM 0 to23 rfl rfl rfl) rfl rfl rfl (RW.nil ⟨rfl, rfl, _, rfl, H', [], Hp.le.refl _, hMR, rfl, rfl, trivial⟩)
  ·
   intro H' σ' w R E hle hMR hE0 hE hp hf
   obtain rfl := hE0 rfl
   obtain ⟨τ, rfl⟩ := sl_canon (σ := σ') (l := [(6, .int .i64 (v26))]) ⟨(hf 6 (by kernel_rfl)).trans rfl, trivial⟩
   have hM : Mem w0 H w H' [.box b7 27 [.int .i64 (x0.Site), .slice A1 n1 c1, .slice A2 n2 c2, .slice A3 n3 c3], .box b8 27 [.int .i64 (x1.Site), .slice A4 n4 c4, .slice A5 n5 c5, .slice A6 n6 c6], .row (.slice A20 n21 c22) 68 1 n21 s23] := hMR.sub (List.sublist_append_right R _)
   exact RW.step (Ex.move (.int .i64 (v26)) rfl) rfl rfl rfl (RW.nil ⟨rfl, rfl, _, rfl, H', [], Hp.le.refl _, hMR, rfl, rfl, trivial⟩)
  ·
   intro H' σ' w R E hle hMR hE0 hE hp hf
   obtain rfl := hE0 rfl
   obtain ⟨_, hg⟩ := hp 1 (by decide) (by kernel_rfl)
   obtain ⟨e45, _, _⟩ := hg.get rfl
   have e46 : σ' 20 = .slice A2 n2 c2 := (List.cons.inj e45).1
   obtain ⟨_, hg⟩ := hp 2 (by decide) (by kernel_rfl)
   obtain ⟨e47, _, _⟩ := hg.get rfl
   have e48 : σ' 21 = .int .i64 (v26) := (List.cons.inj e47).1
   obtain ⟨τ, rfl⟩ := sl_canon (σ := σ') (l := [(20, .slice A2 n2 c2), (21, .int .i64 (v26))]) ⟨e46, e48, trivial⟩
   have hM : Mem w0 H w H' [.box b7 27 [.int .i64 (x0.Site), .slice A1 n1 c1, .slice A2 n2 c2, .slice A3 n3 c3], .box b8 27 [.int .i64 (x1.Site), .slice A4 n4 c4, .slice A5 n5 c5, .slice A6 n6 c6], .row (.slice A20 n21 c22) 68 1 n21 s23] := hMR.sub (List.sublist_append_right R _)
   exact RW.step (Ex.index st23 rfl rfl v26.toNat (hF2.ne hg30) hg30.nat (hF2.lt hg30)) rfl rfl rfl (RW.nil ⟨rfl, rfl, _, rfl, H', [], Hp.le.refl _, hMR, rfl, rfl, trivial⟩)
  ·
   intro H' σ' w R E hle hMR hE0 hE hp hf
   obtain rfl := hE0 rfl
   obtain ⟨_, hg⟩ := hp 3 (by decide) (by kernel_rfl)
   obtain ⟨e49, _, _⟩ := hg.get rfl
   have e50 : σ' 22 = elp A2 (v26.toNat * 2 + 0) := (List.cons.inj e49).1
   obtain ⟨τ, rfl⟩ := sl_canon (σ := σ') (l := [(22, elp A2 (v26.toNat * 2 + 0))]) ⟨e50, trivial⟩
   have hM : Mem w0 H w H' [.box b7 27 [.int .i64 (x0.Site), .slice A1 n1 c1, .slice A2 n2 c2, .slice A3 n3 c3], .box b8 27 [.int .i64 (x1.Site), .slice A4 n4 c4, .slice A5 n5 c5, .slice A6 n6 c6], .row (.slice A20 n21 c22) 68 1 n21 s23] := hMR.sub (List.sublist_append_right R _)
   exact RW.step (Ex.loadEA hM (hle18.trans hle) hF2.rdc [.int .i64 ((ix x0.Dirty v26).Size), .slice A31 n31 c31] ta65 rfl (hF2.ne hg30) rfl (chunk_sub (off := 0) (n := 2) hx32 rfl)) rfl rfl rfl (RW.nil ⟨rfl, rfl, _, rfl, H', [], Hp.le.refl _, hMR, rfl, rfl, trivial⟩)
  ·
   intro H' σ' w R E hle hMR hE0 hE hp hf
   obtain rfl := hE0 rfl
   obtain ⟨τ, rfl⟩ := sl_canon (σ := σ') (l := [(3, .pointer (some ⟨b8, 0, none⟩))]) ⟨(hf 3 (by kernel_rfl)).trans rfl, trivial⟩
   have hM : Mem w0 H w H' [.box b7 27 [.int .i64 (x0.Site), .slice A1 n1 c1, .slice A2 n2 c2, .slice A3 n3 c3], .box b8 27 [.int .i64 (x1.Site), .slice A4 n4 c4, .slice A5 n5 c5, .slice A6 n6 c6], .row (.slice A20 n21 c22) 68 1 n21 s23] := hMR.sub (List.sublist_append_right R _)
   exact RW.step (Ex.fieldAddr fa27_2 rfl) rfl rfl rfl (RW.nil ⟨rfl, rfl, _, rfl, H', [], Hp.le.refl _, hMR, rfl, rfl, trivial⟩)
  ·
   intro H' σ' w R E hle hMR hE0 hE hp hf
   obtain rfl := hE0 rfl
   obtain ⟨_, hg⟩ := hp 5 (by decide) (by kernel_rfl)
   obtain ⟨e51, _, _⟩ := hg.get rfl
   have e52 : σ' 24 = .pointer (some ⟨b8, 2, none⟩) := (List.cons.inj e51).1
   obtain ⟨τ, rfl⟩ := sl_canon (σ := σ') (l := [(24, .pointer (some ⟨b8, 2, none⟩))]) ⟨e52, trivial⟩
   have hM : Mem w0 H w H' [.box b7 27 [.int .i64 (x0.Site), .slice A1 n1 c1, .slice A2 n2 c2, .slice A3 n3 c3], .box b8 27 [.int .i64 (x1.Site), .slice A4 n4 c4, .slice A5 n5 c5, .slice A6 n6 c6], .row (.slice A20 n21 c22) 68 1 n21 s23] := hMR.sub (List.sublist_append_right R _)
   exact RW.step (Ex.load1 hM 1 to23 rfl rfl rfl) rfl rfl rfl (RW.nil ⟨rfl, rfl, _, rfl, H', [], Hp.le.refl _, hMR, rfl, rfl, trivial⟩)
  ·
   intro H' σ' w R E hle hMR hE0 hE hp hf
   obtain rfl := hE0 rfl
   obtain ⟨τ, rfl⟩ := sl_canon (σ := σ') (l := [(6, .int .i64 (v26))]) ⟨(hf 6 (by kernel_rfl)).trans rfl, trivial⟩
   have hM : Mem w0 H w H' [.box b7 27 [.int .i64 (x0.Site), .slice A1 n1 c1, .slice A2 n2 c2, .slice A3 n3 c3], .box b8 27 [.int .i64 (x1.Site), .slice A4 n4 c4, .slice A5 n5 c5, .slice A6 n6 c6], .row (.slice A20 n21 c22) 68 1 n21 s23] := hMR.sub (List.sublist_append_right R _)
   exact RW.step (Ex.move (.int .i64 (v26)) rfl) rfl rfl rfl (RW.nil ⟨rfl, rfl, _, rfl, H', [], Hp.le.refl _, hMR, rfl, rfl, trivial⟩)
  ·
   intro H' σ' w R E hle hMR hE0 hE hp hf
   obtain rfl := hE0 rfl
   obtain ⟨_, hg⟩ := hp 6 (by decide) (by kernel_rfl)
   obtain ⟨e53, _, _⟩ := hg.get rfl
   have e54 : σ' 25 = .slice A5 n5 c5 := (List.cons.inj e53).1
   obtain ⟨_, hg⟩ := hp 7 (by decide) (by kernel_rfl)
   obtain ⟨e55, _, _⟩ := hg.get rfl
   have e56 : σ' 26 = .int .i64 (v26) := (List.cons.inj e55).1
   obtain ⟨τ, rfl⟩ := sl_canon (σ := σ') (l := [(25, .slice A5 n5 c5), (26, .int .i64 (v26))]) ⟨e54, e56, trivial⟩
   have hM : Mem w0 H w H' [.box b7 27 [.int .i64 (x0.Site), .slice A1 n1 c1, .slice A2 n2 c2, .slice A3 n3 c3], .box b8 27 [.int .i64 (x1.Site), .slice A4 n4 c4, .slice A5 n5 c5, .slice A6 n6 c6], .row (.slice A20 n21 c22) 68 1 n21 s23] := hMR.sub (List.sublist_append_right R _)
   exact RW.step (Ex.index st23 rfl rfl v26.toNat (hF5.ne hg33) hg33.nat (hF5.lt hg33)) rfl rfl rfl (RW.nil ⟨rfl, rfl, _, rfl, H', [], Hp.le.refl _, hMR, rfl, rfl, trivial⟩)
  ·
   intro H' σ' w R E hle hMR hE0 hE hp hf
   obtain rfl := hE0 rfl
   obtain ⟨_, hg⟩ := hp 8 (by decide) (by kernel_rfl)
   obtain ⟨e57, _, _⟩ := hg.get rfl
   have e58 : σ' 27 = elp A5 (v26.toNat * 2 + 0) := (List.cons.inj e57).1
   obtain ⟨τ, rfl⟩ := sl_canon (σ := σ') (l := [(27, elp A5 (v26.toNat * 2 + 0))]) ⟨e58, trivial⟩
   have hM : Mem w0 H w H' [.box b7 27 [.int .i64 (x0.Site), .slice A1 n1 c1, .slice A2 n2 c2, .slice A3 n3 c3], .box b8 27 [.int .i64 (x1.Site), .slice A4 n4 c4, .slice A5 n5 c5, .slice A6 n6 c6], .row (.slice A20 n21 c22) 68 1 n21 s23] := hMR.sub (List.sublist_append_right R _)
   exact RW.step (Ex.loadEA hM (hle18.trans hle) hF5.rdc [.int .i64 ((ix x1.Dirty v26).Size), .slice A34 n34 c34] ta65 rfl (hF5.ne hg33) rfl (chunk_sub (off := 0) (n := 2) hx35 rfl)) rfl rfl rfl (RW.nil ⟨rfl, rfl, _, rfl, H', [], Hp.le.refl _, hMR, rfl, rfl, trivial⟩)
  ·
   intro H' σ' w R E hle hMR hE0 hE hp hf
   obtain rfl := hE0 rfl
   obtain ⟨_, hg⟩ := hp 4 (by decide) (by kernel_rfl)
   obtain ⟨e59, _, _⟩ := hg.get rfl
   have e60 : σ' 23 = .agg #[.int .i64 ((ix x0.Dirty v26).Size), .slice A31 n31 c31] := (List.cons.inj e59).1
   obtain ⟨_, hg⟩ := hp 9 (by decide) (by kernel_rfl)
   obtain ⟨e61, _, _⟩ := hg.get rfl
   have e62 : σ' 28 = .agg #[.int .i64 ((ix x1.Dirty v26).Size), .slice A34 n34 c34] := (List.cons.inj e61).1
   obtain ⟨τ, rfl⟩ := sl_canon (σ := σ') (l := [(23, .agg #[.int .i64 ((ix x0.Dirty v26).Size), .slice A31 n31 c31]), (28, .agg #[.int .i64 ((ix x1.Dirty v26).Size), .slice A34 n34 c34])]) ⟨e60, e62, trivial⟩
   have hM : Mem w0 H w H' [.box b7 27 [.int .i64 (x0.Site), .slice A1 n1 c1, .slice A2 n2 c2, .slice A3 n3 c3], .box b8 27 [.int .i64 (x1.Site), .slice A4 n4 c4, .slice A5 n5 c5, .slice A6 n6 c6], .row (.slice A20 n21 c22) 68 1 n21 s23] := hMR.sub (List.sublist_append_right R _)
   refine RW.callP hMR (bitmap_Or_lift (ix x0.Dirty v26) (ix x1.Dirty v26) (hF31.mono hle) (hF34.mono hle) hW37) en82 rfl rfl rfl rfl ?_; rintro _ w H9 _ hle9 ⟨_, rfl, A38, n38, c38, s38, rfl, hd39, hn40, rfl⟩ hMR
   obtain ⟨H90, hMR, hle90, hF41⟩ := hMR.giveF (α := BitVec 64) 0 rfl hd39 hn40
   exact RW.nil ⟨rfl, rfl, _, rfl, H90, [], (hle9.trans hle90), hMR, A38, n38, c38, s38, rfl, rfl, hF41, trivial⟩
  ·
   intro H' σ' w R E hle hMR hE0 hE hp hf
   obtain rfl := hE0 rfl
   obtain ⟨_, hg⟩ := hp 10 (by decide) (by kernel_rfl)
   obtain ⟨A38, n38, c38, s38, e63, _, hF41, _⟩ := hg.get rfl
   have e64 : σ' 29 = .tuple #[.agg #[.int .i64 (v36.1.Size), .slice A38 n38 c38], .int .i64 (v36.2)] := (List.cons.inj e63).1
   obtain ⟨τ, rfl⟩ := sl_canon (σ := σ') (l := [(29, .tuple #[.agg #[.int .i64 (v36.1.Size), .slice A38 n38 c38], .int .i64 (v36.2)])]) ⟨e64, trivial⟩
   have hM : Mem w0 H w H' [.box b7 27 [.int .i64 (x0.Site), .slice A1 n1 c1, .slice A2 n2 c2, .slice A3 n3 c3], .box b8 27 [.int .i64 (x1.Site), .slice A4 n4 c4, .slice A5 n5 c5, .slice A6 n6 c6], .row (.slice A20 n21 c22) 68 1 n21 s23] := hMR.sub (List.sublist_append_right R _)
   exact RW.step (Ex.move (.tuple #[.agg #[.int .i64 (v36.1.Size), .slice A38 n38 c38], .int .i64 (v36.2)]) rfl) rfl rfl rfl (RW.nil ⟨rfl, rfl, _, rfl, H', [], Hp.le.refl _, hMR, A38, n38, c38, s38, rfl, rfl, hF41, trivial⟩)
  ·
   intro H' σ' w R E hle hMR hE0 hE hp hf
   obtain rfl := hE0 rfl
   obtain ⟨_, hg⟩ := hp 11 (by decide) (by kernel_rfl)
   obtain ⟨A38, n38, c38, s38, e65, _, hF41, _⟩ := hg.get rfl
   have e66 : σ' 29 = .tuple #[.agg #[.int .i64 (v36.1.Size), .slice A38 n38 c38], .int .i64 (v36.2)] := (List.cons.inj e65).1
   have e67 : σ' 18 = .tuple #[.agg #[.int .i64 (v36.1.Size), .slice A38 n38 c38], .int .i64 (v36.2)] := (List.cons.inj (List.cons.inj e65).2).1
   obtain ⟨τ, rfl⟩ := sl_canon (σ := σ') (l := [(18, .tuple #[.agg #[.int .i64 (v36.1.Size), .slice A38 n38 c38], .int .i64 (v36.2)])]) ⟨e67, trivial⟩
   have hM : Mem w0 H w H' [.box b7 27 [.int .i64 (x0.Site), .slice A1 n1 c1, .slice A2 n2 c2, .slice A3 n3 c3], .box b8 27 [.int .i64 (x1.Site), .slice A4 n4 c4, .slice A5 n5 c5, .slice A6 n6 c6], .row (.slice A20 n21 c22) 68 1 n21 s23] := hMR.sub (List.sublist_append_right R _)
   exact RW.step (Ex.extract rfl rfl) rfl rfl rfl (RW.nil ⟨rfl, rfl, _, rfl, H', [], Hp.le.refl _, hMR, A38, n38, c38, s38, rfl, rfl, hF41, trivial⟩)
  ·
   intro H' σ' w R E hle hMR hE0 hE hp hf
   obtain rfl := hE0 rfl
   obtain ⟨_, hg⟩ := hp 11 (by decide) (by kernel_rfl)
   obtain ⟨A38, n38, c38, s38, e68, _, hF41, _⟩ := hg.get rfl
   have e69 : σ' 29 = .tuple #[.agg #[.int .i64 (v36.1.Size), .slice A38 n38 c38], .int .i64 (v36.2)] := (List.cons.inj e68).1
   have e70 : σ' 18 = .tuple #[.agg #[.int .i64 (v36.1.Size), .slice A38 n38 c38], .int .i64 (v36.2)] := (List.cons.inj (List.cons.inj e68).2).1
   obtain ⟨τ, rfl⟩ := sl_canon (σ := σ') (l := [(18, .tuple #[.agg #[.int .i64 (v36.1.Size), .slice A38 n38 c38], .int .i64 (v36.2)])]) ⟨e70, trivial⟩
   have hM : Mem w0 H w H' [.box b7 27 [.int .i64 (x0.Site), .slice A1 n1 c1, .slice A2 n2 c2, .slice A3 n3 c3], .box b8 27 [.int .i64 (x1.Site), .slice A4 n4 c4, .slice A5 n5 c5, .slice A6 n6 c6], .row (.slice A20 n21 c22) 68 1 n21 s23] := hMR.sub (List.sublist_append_right R _)
   exact RW.step (Ex.extract rfl rfl) rfl rfl rfl (RW.nil ⟨rfl, rfl, _, rfl, H', [], Hp.le.refl _, hMR, rfl, rfl, trivial⟩)
  ·
   intro H' σ' w R E hle hMR hE0 hE hp hf
   obtain rfl := hE0 rfl
   obtain ⟨τ, rfl⟩ := sl_canon (σ := σ') (l := []) trivial
   have hM : Mem w0 H w H' [.box b7 27 [.int .i64 (x0.Site), .slice A1 n1 c1, .slice A2 n2 c2, .slice A3 n3 c3], .box b8 27 [.int .i64 (x1.Site), .slice A4 n4 c4, .slice A5 n5 c5, .slice A6 n6 c6], .row (.slice A20 n21 c22) 68 1 n21 s23] := hMR.sub (List.sublist_append_right R _)
   refine RW.alloc hMR tz65 [.int .i64 (0), .slice none 0 0] rfl rfl rfl ?_; intro b42 w hMR
   exact RW.nil ⟨rfl, rfl, _, rfl, H', [.box b42 65 [.int .i64 (0), .slice none 0 0]], Hp.le.refl _, hMR, b42, rfl, rfl, trivial⟩
  ·
   intro H' σ' w R E hle hMR hE0 hE hp hf
   obtain ⟨b42, e71, rfl, _⟩ := (hE 14 rfl).get rfl
   have e72 : σ' 7 = .pointer (some ⟨b42, 0, none⟩) := (List.cons.inj e71).1
   obtain ⟨_, hg⟩ := hp 12 (by decide) (by kernel_rfl)
   obtain ⟨A38, n38, c38, s38, e73, _, hF41, _⟩ := hg.get rfl
   have e74 : σ' 18 = .tuple #[.agg #[.int .i64 (v36.1.Size), .slice A38 n38 c38], .int .i64 (v36.2)] := (List.cons.inj e73).1
   have e75 : σ' 30 = .agg #[.int .i64 (v36.1.Size), .slice A38 n38 c38] := (List.cons.inj (List.cons.inj e73).2).1
   obtain ⟨τ, rfl⟩ := sl_canon (σ := σ') (l := [(30, .agg #[.int .i64 (v36.1.Size), .slice A38 n38 c38]), (7, .pointer (some ⟨b42, 0, none⟩))]) ⟨e75, e72, trivial⟩
   refine RW.store hMR 0 (.agg #[.int .i64 (v36.1.Size), .slice A38 n38 c38]) [.int .i64 (v36.1.Size), .slice A38 n38 c38] [.int .i64 (v36.1.Size), .slice A38 n38 c38] sz65 rfl rfl rfl (oneAll ⟨rfl, rfl, trivial⟩) rfl (Nat.le_of_ble_eq_true rfl) rfl (.box b42 65 [.int .i64 (v36.1.Size), .slice A38 n38 c38] :: (R ++ [.box b7 27 [.int .i64 (x0.Site), .slice A1 n1 c1, .slice A2 n2 c2, .slice A3 n3 c3], .box b8 27 [.int .i64 (x1.Site), .slice A4 n4 c4, .slice A5 n5 c5, .slice A6 n6 c6], .row (.slice A20 n21 c22) 68 1 n21 s23])) rfl rfl rfl ?_; intro w hMR
   exact RW.nil ⟨rfl, rfl, _, rfl, H', [.box b42 65 [.int .i64 (v36.1.Size), .slice A38 n38 c38]], Hp.le.refl _, hMR, A38, n38, c38, s38, b42, rfl, rfl, hF41, trivial⟩
  ·
   intro H' σ' w R E hle hMR hE0 hE hp hf
   obtain rfl := hE0 rfl
   obtain ⟨_, hg⟩ := hp 13 (by decide) (by kernel_rfl)
   obtain ⟨e76, _, _⟩ := hg.get rfl
   have e77 : σ' 31 = .int .i64 (v36.2) := (List.cons.inj e76).1
   obtain ⟨τ, rfl⟩ := sl_canon (σ := σ') (l := [(31, .int .i64 (v36.2))]) ⟨e77, trivial⟩
   have hM : Mem w0 H w H' [.box b7 27 [.int .i64 (x0.Site), .slice A1 n1 c1, .slice A2 n2 c2, .slice A3 n3 c3], .box b8 27 [.int .i64 (x1.Site), .slice A4 n4 c4, .slice A5 n5 c5, .slice A6 n6 c6], .row (.slice A20 n21 c22) 68 1 n21 s23] := hMR.sub (List.sublist_append_right R _)
   exact RW.step (Ex.assign (.int .i64 (v36.2)) rfl) rfl rfl rfl (RW.nil ⟨rfl, rfl, _, rfl, H', [], Hp.le.refl _, hMR, rfl, rfl, trivial⟩)
  ·
   intro H8 σ' w X miss hms hle8 hM hX hX0 hf
   simp [subs] at hms
   rcases hms with rfl
   ·
    obtain ⟨H78, hH8⟩ : ∃ x, x = H8 := ⟨_, rfl⟩
    subst hH8
    have hle79 := hle8
    obtain ⟨_, g0, y0⟩ := hX 0 (by decide) (by kernel_rfl)
    obtain ⟨_, rfl, _⟩ := g0.get rfl
    replace y0 : X 0 = [] := y0
    obtain ⟨_, g0, y1⟩ := hX 1 (by decide) (by kernel_rfl)
    obtain ⟨_, rfl, _⟩ := g0.get rfl
    replace y1 : X 1 = [] := y1
    obtain ⟨_, g0, y2⟩ := hX 2 (by decide) (by kernel_rfl)
    obtain ⟨_, rfl, _⟩ := g0.get rfl
    replace y2 : X 2 = [] := y2
    obtain ⟨_, g0, y3⟩ := hX 3 (by decide) (by kernel_rfl)
    obtain ⟨_, rfl, _⟩ := g0.get rfl
    replace y3 : X 3 = [] := y3
    obtain ⟨_, g0, y4⟩ := hX 4 (by decide) (by kernel_rfl)
    obtain ⟨_, rfl, _⟩ := g0.get rfl
    replace y4 : X 4 = [] := y4
    obtain ⟨_, g0, y5⟩ := hX 5 (by decide) (by kernel_rfl)
    obtain ⟨_, rfl, _⟩ := g0.get rfl
    replace y5 : X 5 = [] := y5
    obtain ⟨_, g0, y6⟩ := hX 6 (by decide) (by kernel_rfl)
    obtain ⟨_, rfl, _⟩ := g0.get rfl
    replace y6 : X 6 = [] := y6
    obtain ⟨_, g0, y7⟩ := hX 7 (by decide) (by kernel_rfl)
    obtain ⟨_, rfl, _⟩ := g0.get rfl
    replace y7 : X 7 = [] := y7
    obtain ⟨_, g0, y8⟩ := hX 8 (by decide) (by kernel_rfl)
    obtain ⟨_, rfl, _⟩ := g0.get rfl
    replace y8 : X 8 = [] := y8
    obtain ⟨_, g0, y9⟩ := hX 9 (by decide) (by kernel_rfl)
    obtain ⟨_, rfl, _⟩ := g0.get rfl
    replace y9 : X 9 = [] := y9
    obtain ⟨_, g0, y10⟩ := hX 10 (by decide) (by kernel_rfl)
    obtain ⟨A38, n38, c38, s38, e80, rfl, hF41, _⟩ := g0.get rfl
    have e81 : σ' 29 = .tuple #[.agg #[.int .i64 (v36.1.Size), .slice A38 n38 c38], .int .i64 (v36.2)] := (List.cons.inj e80).1
    replace y10 : X 10 = [] := y10
    obtain ⟨_, g0, y11⟩ := hX 11 (by decide) (by kernel_rfl)
    obtain ⟨A38q, n38q, c38q, s38q, e82, rfl, _, _⟩ := g0.get rfl
    have e83 : σ' 29 = .tuple #[.agg #[.int .i64 (v36.1.Size), .slice A38q n38q c38q], .int .i64 (v36.2)] := (List.cons.inj e82).1
    have he_ := e81.symm.trans e83
    have ⟨e84, e85, e86⟩ : A38 = A38q ∧ n38 = n38q ∧ c38 = c38q := by simp at he_; simp [he_]
    subst e84
    subst e85
    subst e86
    have e87 : σ' 18 = .tuple #[.agg #[.int .i64 (v36.1.Size), .slice A38 n38 c38], .int .i64 (v36.2)] := (List.cons.inj (List.cons.inj e82).2).1
    replace y11 : X 11 = [] := y11
    obtain ⟨_, g0, y12⟩ := hX 12 (by decide) (by kernel_rfl)
    obtain ⟨A38q, n38q, c38q, s38q, e88, rfl, _, _⟩ := g0.get rfl
    have e89 : σ' 18 = .tuple #[.agg #[.int .i64 (v36.1.Size), .slice A38q n38q c38q], .int .i64 (v36.2)] := (List.cons.inj e88).1
    have he_ := e87.symm.trans e89
    have ⟨e90, e91, e92⟩ : A38 = A38q ∧ n38 = n38q ∧ c38 = c38q := by simp at he_; simp [he_]
    subst e90
    subst e91
    subst e92
    have e93 : σ' 30 = .agg #[.int .i64 (v36.1.Size), .slice A38 n38 c38] := (List.cons.inj (List.cons.inj e88).2).1
    replace y12 : X 12 = [] := y12
    obtain ⟨_, g0, y13⟩ := hX 13 (by decide) (by kernel_rfl)
    obtain ⟨_, rfl, _⟩ := g0.get rfl
    replace y13 : X 13 = [] := y13
    obtain ⟨_, g0, y14⟩ := hX 14 (by decide) (by kernel_rfl)
    obtain ⟨_, _, rfl, _⟩ := g0.get rfl
    replace y14 : X 14 = [] := y14
    obtain ⟨_, g0, y15⟩ := hX 15 (by decide) (by kernel_rfl)
    obtain ⟨A38q, n38q, c38q, s38q, b42, e94, rfl, _, _⟩ := g0.get rfl
    have e95 : σ' 30 = .agg #[.int .i64 (v36.1.Size), .slice A38q n38q c38q] := (List.cons.inj e94).1
    have he_ := e93.symm.trans e95
    have ⟨e96, e97, e98⟩ : A38 = A38q ∧ n38 = n38q ∧ c38 = c38q := by simp at he_; simp [he_]
    subst e96
    subst e97
    subst e98
    have e99 : σ' 7 = .pointer (some ⟨b42, 0, none⟩) := (List.cons.inj (List.cons.inj e94).2).1
    replace y15 : X 15 = [.box b42 65 [.int .i64 (v36.1.Size), .slice A38 n38 c38]] := y15
    obtain ⟨_, g0, y16⟩ := hX 16 (by decide) (by kernel_rfl)
    obtain ⟨_, rfl, _⟩ := g0.get rfl
    replace y16 : X 16 = [] := y16
    have hfl : flatX X 17 = [.box b42 65 [.int .i64 (v36.1.Size), .slice A38 n38 c38]] := by
     show X 0 ++ (X 1 ++ (X 2 ++ (X 3 ++ (X 4 ++ (X 5 ++ (X 6 ++ (X 7 ++ (X 8 ++ (X 9 ++ (X 10 ++ (X 11 ++ (X 12 ++ (X 13 ++ (X 14 ++ (X 15 ++ (X 16 ++ [])))))))))))))))) = _
     rw [y0, y1, y2, y3, y4, y5, y6, y7, y8, y9, y10, y11, y12, y13, y14, y15, y16]; rfl
    rw [hfl] at hM
    obtain ⟨τ, rfl⟩ := sl_canon (σ := σ') (l := [(2, .pointer (some ⟨b7, 0, none⟩)), (3, .pointer (some ⟨b8, 0, none⟩)), (5, .slice A20 n21 c22), (6, .int .i64 (v26)), (7, .pointer (some ⟨b42, 0, none⟩)), (14, .int .i64 (((List.replicate (x0.Dirty.length : Int).toNat ([] : List api_Extent)).length : Int))), (15, .int .i64 (v26))]) ⟨(hf 2 (by kernel_rfl)).trans rfl, (hf 3 (by kernel_rfl)).trans rfl, (hf 5 (by kernel_rfl)).trans rfl, (hf 6 (by kernel_rfl)).trans rfl, e99, (hf 14 (by kernel_rfl)).trans rfl, (hf 15 (by kernel_rfl)).trans rfl, trivial⟩
    replace hM : Mem w0 H w H78 [.box b42 65 [.int .i64 (v36.1.Size), .slice A38 n38 c38], .box b7 27 [.int .i64 (x0.Site), .slice A1 n1 c1, .slice A2 n2 c2, .slice A3 n3 c3], .box b8 27 [.int .i64 (x1.Site), .slice A4 n4 c4, .slice A5 n5 c5, .slice A6 n6 c6], .row (.slice A20 n21 c22) 68 1 n21 s23] := hM
    change RA _ _ _ _ _ _ _ (sl [(2, .pointer (some ⟨b7, 0, none⟩)), (3, .pointer (some ⟨b8, 0, none⟩)), (5, .slice A20 n21 c22), (6, .int .i64 (v26)), (7, .pointer (some ⟨b42, 0, none⟩)), (14, .int .i64 (((List.replicate (x0.Dirty.length : Int).toNat ([] : List api_Extent)).length : Int))), (15, .int .i64 (v26))] τ) _ 17 _
    refine RA.done (by kernel_rfl) ?_
    refine CW.region <| RW.st (Ex.move (.slice A20 n21 c22) rfl) rfl <| RW.st (Ex.move (.int .i64 (v26)) rfl) rfl <| RW.st (Ex.loadA hM 0 [.int .i64 (v36.1.Size), .slice A38 n38 c38] ta65 rfl rfl rfl rfl) rfl ?_
    refine RW.callP hM (bitmap_Extents_lift (hT.mono (hle18.trans hle79)) v36.1 hF41 hm) en44 rfl rfl rfl rfl ?_; rintro _ w H101 _ hle102 ⟨v100, hm, A103, n103, c103, s103, rfl, hF103, rfl⟩ hM
    replace hM : Mem w0 H w H101 [.box b42 65 [.int .i64 (v36.1.Size), .slice A38 n38 c38], .box b7 27 [.int .i64 (x0.Site), .slice A1 n1 c1, .slice A2 n2 c2, .slice A3 n3 c3], .box b8 27 [.int .i64 (x1.Site), .slice A4 n4 c4, .slice A5 n5 c5, .slice A6 n6 c6], .row (.slice A20 n21 c22) 68 1 n21 s23] := hM
    obtain ⟨hg104, hm⟩ := hm
    refine RW.st (Ex.index st30 rfl rfl v26.toNat (hM.rowNeD (α := List api_Extent) (p := 3) rfl hn25 hg104) hg104.nat (Nat.lt_of_lt_of_eq hg104.lt (hn25).symm)) rfl ?_
    refine RW.storeD (α := List api_Extent) (off := 0) (x' := v100) hM 3 (hd24.mono (hle79.trans hle102)) (.slice A103 n103 c103) [.slice A103 n103 c103] sz68 rfl hn25 hg104 (Nat.le_of_ble_eq_true rfl) rfl rfl (oneAll ⟨rfl, trivial⟩) rfl (fun ch h => rdWhole h ⟨_, _, _, _, rfl, hF103⟩) rfl rfl ?_
    intro s106 w hd107 hM
    replace hM : Mem w0 H w H101 [.box b42 65 [.int .i64 (v36.1.Size), .slice A38 n38 c38], .box b7 27 [.int .i64 (x0.Site), .slice A1 n1 c1, .slice A2 n2 c2, .slice A3 n3 c3], .box b8 27 [.int .i64 (x1.Site), .slice A4 n4 c4, .slice A5 n5 c5, .slice A6 n6 c6], .row (.slice A20 n21 c22) 68 1 n21 s106] := hM
    refine RW.nil <| CW.region ?_
    obtain ⟨hg108, hm⟩ := hm
    refine RW.st (Ex.add rfl rfl hg108.1 hg108.2) rfl <| RW.st (Ex.move (.int .i64 (v26 + 1)) rfl) rfl <| RW.nil ?_
    exact And.intro rfl ⟨k27, ⟨(put v19 v26 v100), A20, n21, c22, s106, v26 + 1, H101, hle18.trans (hle79.trans hle102), sl_canon ⟨rfl, rfl, rfl, rfl, rfl, trivial⟩, (hM.pick [1, 2, 3] rfl rfl), hd107, (hn25).trans (put_len _ _ _).symm, (by rw [hrec28]; exact hm)⟩, Nat.lt_succ_self _⟩
 ·
  replace hm := And.right hm hc29
  refine CW.exit ?_
  refine CW.seq <| CW.region <| RW.st (Ex.move (.slice A20 n21 c22) rfl) rfl <| RW.st (Ex.assign (.slice A20 n21 c22) rfl) rfl <| RW.nil <| CW.ret ?_
  refine end_tmp (.inl rfl) rfl (.slice A20 n21 c22) rfl ?_
  exact ⟨_, _, (hM.pick [2] rfl rfl), v19, hm, A20, n21, c22, s23, rfl, hd24, hn25, rfl⟩
theorem image_New_lift {H : Hp} (x0 : List Int) {A1 : Option Addr} {n1 c1 : Nat} {s1 : List Value} (hF1 : Fz (α := Int) H A1 n1 c1 x0 s1) {Φ : List (List Sec) × Int → Prop} (hm : image_New_W x0 Φ) : RetP Tryd.prog 102 #[.slice A1 n1 c1] H (fun H' v L => ∃ y, Φ y ∧ ∃ A19, ∃ n19, ∃ c19, ∃ s19, v = .tuple #[.slice A19 n19 c19, .int .i64 (y.2)] ∧ Fz (α := List Sec) H' A19 n19 c19 y.1 s19 ∧ L = []) := by
 refine RetP.of_code Tryd.func102 rfl (Nat.le_of_ble_eq_true rfl) fun w0 hM => ?_
 refine CW.seq <| CW.region <| RW.st (Ex.assign (.slice none 0 0) rfl) rfl <| RW.st (Ex.assign (.int .i64 (0)) rfl) rfl <| RW.nil <| CW.seq <| CW.seq <| CW.region <| RW.st (Ex.move (.slice A1 n1 c1) rfl) rfl ?_
 refine RW.callP hM (image_checkSizes_lift x0 hF1 hm) en110 rfl rfl rfl rfl ?_; rintro _ w H3 _ hle4 ⟨v2, hm, rfl, rfl⟩ hM
 replace hM : Mem w0 H w H3 [] := hM
 refine RW.st (Ex.assign (.int .i64 (v2)) rfl) rfl <| RW.nil <| CW.seq <| CW.region <| RW.st (Ex.move (.int .i64 (v2)) rfl) rfl <| RW.st (Ex.neq rfl rfl) rfl <| RW.nil ?_
 refine CW.cond_dec (p := v2 ≠ 0) rfl (fun hc5 => ?_) (fun hc5 => ?_)
 ·
  replace hm := And.left hm hc5
  refine CW.seq <| CW.region <| RW.st (Ex.move (.int .i64 (v2)) rfl) rfl <| RW.st (Ex.assign (.slice none 0 0) rfl) rfl <| RW.st (Ex.assign (.int .i64 (v2)) rfl) rfl <| RW.nil <| CW.ret ?_
  refine thenQ_ret ?_
  refine end_tmp2 (.inl rfl) rfl (.slice none 0 0) (.int .i64 (v2)) rfl rfl ?_
  exact ⟨_, _, hM, (([] : List (List Sec)), v2), hm, none, 0, 0, [], rfl, Fz.nil, rfl⟩
 ·
  replace hm := And.right hm hc5
  refine CW.skip <| CW.seq <| CW.region <| RW.st (Ex.move (.slice A1 n1 c1) rfl) rfl ?_
  refine RW.callP hM (image_mapped_int_api_Sector__image_New_1_lift x0 (hF1.mono hle4) hm) en138 rfl rfl rfl rfl ?_; rintro _ w H7 _ hle8 ⟨v6, hm, A9, n9, c9, s9, rs10, rfl, hd11, hn12, rfl⟩ hM
  replace hM := Mem.toTail (a := [.row (.slice A9 n9 c9) 61 1 n9 s9]) (b := rs10) (c := []) hM
  replace hM : Mem w0 H w H7 (.row (.slice A9 n9 c9) 61 1 n9 s9 :: rs10) := hM
  refine RW.st (Ex.assign (.slice A9 n9 c9) rfl) rfl <| RW.st (Ex.assign (.int .i64 (0)) rfl) rfl <| RW.nil <| CW.ret ?_
  obtain ⟨H13, hM, hle14, hd15⟩ := DeepL.flat (es := [.row (.slice A9 n9 c9) 61 1 n9 s9]) hM hd11
  replace hM : Mem w0 H w H13 [.row (.slice A9 n9 c9) 61 1 n9 s9] := hM
  obtain ⟨H16, hM, hle17, hF18⟩ := hM.giveF (α := List Sec) 0 rfl hd15 hn12
  replace hM : Mem w0 H w H16 [] := hM
  refine end_tmp2 (.inl rfl) rfl (.slice A9 n9 c9) (.int .i64 (0)) rfl rfl ?_
  exact ⟨_, _, hM, (v6, 0), hm, A9, n9, c9, s9, rfl, hF18, rfl⟩
theorem cycle_positions_lift {H : Hp} (x0 : List Int) (x1 : Int) {A1 : Option Addr} {n1 c1 : Nat} {s1 : List Value} (hF1 : Fz (α := Int) H A1 n1 c1 x0 s1) {Φ : Int → Prop} (hm : cycle_positions_W x0 x1 Φ) : RetP Tryd.prog 104 #[.slice A1 n1 c1, .int .i64 (x1)] H (fun _ v L => ∃ y, Φ y ∧ v = .int .i64 (y) ∧ L = []) := by
 refine RetP.of_code Tryd.func104 rfl (Nat.le_of_ble_eq_true rfl) fun w0 hM => ?_
 refine CW.seq <| CW.region <| RW.st (Ex.assign (.int .i64 (0)) rfl) rfl <| RW.nil <| CW.seq <| CW.seq <| CW.region <| RW.st (Ex.move (.slice A1 n1 c1) rfl) rfl <| RW.st (Ex.lenN st40.1 rfl hF1.hn) rfl <| RW.st (Ex.move (.int .i64 (x1)) rfl) rfl ?_
 refine RW.callP hM (cycle_in_lift (x0.length : Int) x1 8 hm) en103 rfl rfl rfl rfl ?_; rintro _ w H3 _ hle4 ⟨v2, hm, rfl, rfl⟩ hM
 replace hM : Mem w0 H w H3 [] := hM
 refine RW.st (Ex.not (p := v2 = true) (bvar _)) rfl <| RW.nil ?_
 refine CW.cond_dec (p := ¬ (v2 = true)) rfl (fun hc5 => ?_) (fun hc5 => ?_)
 ·
  replace hm := And.left hm hc5
  refine CW.seq <| CW.region <| RW.st (Ex.assign (.int .i64 (6)) rfl) rfl <| RW.nil <| CW.ret ?_
  refine thenQ_ret ?_
  refine end_tmp (.inl rfl) rfl (.int .i64 (6)) rfl ?_
  exact ⟨_, _, hM, 6, hm, rfl, rfl⟩
 ·
  replace hm := And.right hm hc5
  refine CW.skip <| CW.seq <| CW.seq <| CW.region <| RW.st (Ex.move (.slice A1 n1 c1) rfl) rfl ?_
  refine RW.callP hM (slices_ContainsFunc_int_int__cycle_positions_1_lift x0 (hF1.mono hle4) hm) en140 rfl rfl rfl rfl ?_; rintro _ w H7 _ hle8 ⟨v6, hm, rfl, rfl⟩ hM
  replace hM : Mem w0 H w H7 [] := hM
  refine RW.nil ?_
  refine CW.cond_b rfl (fun hc9 => ?_) (fun hc9 => ?_)
  ·
   replace hm := And.left hm hc9
   refine CW.seq <| CW.region <| RW.st (Ex.assign (.int .i64 (2)) rfl) rfl <| RW.nil <| CW.ret ?_
   refine thenQ_ret ?_
   refine end_tmp (.inl rfl) rfl (.int .i64 (2)) rfl ?_
   exact ⟨_, _, hM, 2, hm, rfl, rfl⟩
  ·
   replace hm := And.right hm hc9
   refine CW.skip <| CW.seq <| CW.region <| RW.st (Ex.assign (.int .i64 (0)) rfl) rfl <| RW.nil <| CW.ret ?_
   refine end_tmp (.inl rfl) rfl (.int .i64 (0)) rfl ?_
   exact ⟨_, _, hM, 0, hm, rfl, rfl⟩
end Go.Proofs.YtahlanamngfkcaaDoor

namespace Go.Proofs.YtahlanamngfkcaaDoor
open Go.RowKit
theorem ref46_between_lift {H : Hp} (x0 : api_Point) (x1 : api_Point) {A1 : Option Addr} {n1 c1 : Nat} {s1 : List Value} (hF1 : Fz (α := api_Span) H A1 n1 c1 x0.Lineage s1) {A2 : Option Addr} {n2 c2 : Nat} {s2 : List Value} (hF2 : Fz (α := api_Bitmap) H A2 n2 c2 x0.Dirty s2) {A3 : Option Addr} {n3 c3 : Nat} {s3 : List Value} (hF3 : Fz (α := List Sec) H A3 n3 c3 x0.Image s3) {A4 : Option Addr} {n4 c4 : Nat} {s4 : List Value} (hF4 : Fz (α := api_Span) H A4 n4 c4 x1.Lineage s4) {A5 : Option Addr} {n5 c5 : Nat} {s5 : List Value} (hF5 : Fz (α := api_Bitmap) H A5 n5 c5 x1.Dirty s5) {A6 : Option Addr} {n6 c6 : Nat} {s6 : List Value} (hF6 : Fz (α := List Sec) H A6 n6 c6 x1.Image s6) {Φ : List (List api_Extent) × Int → Prop} (hm : ref46_between_W x0 x1 Φ) : RetP Tryd.prog 101 #[.agg #[.int .i64 (x0.Site), .slice A1 n1 c1, .slice A2 n2 c2, .slice A3 n3 c3], .agg #[.int .i64 (x1.Site), .slice A4 n4 c4, .slice A5 n5 c5, .slice A6 n6 c6]] H (fun H' v L => ∃ y, Φ y ∧ ∃ A96, ∃ n96, ∃ c96, ∃ s96, v = .tuple #[.slice A96 n96 c96, .int .i64 (y.2)] ∧ DtL (α := List api_Extent) H' s96 y.1 ∧ n96 = y.1.length ∧ L = [.row (.slice A96 n96 c96) 68 1 n96 s96]) := by
 refine RetP.of_code Tryd.func101 rfl (Nat.le_of_ble_eq_true rfl) fun w0 hM => ?_
 refine CW.seq <| CW.region ?_
 refine RW.box hM (.agg #[.int .i64 (x0.Site), .slice A1 n1 c1, .slice A2 n2 c2, .slice A3 n3 c3]) [.int .i64 (x0.Site), .slice A1 n1 c1, .slice A2 n2 c2, .slice A3 n3 c3] rfl rfl rfl rfl ?_; intro b7 w hM
 replace hM : Mem w0 H w H [.box b7 27 [.int .i64 (x0.Site), .slice A1 n1 c1, .slice A2 n2 c2, .slice A3 n3 c3]] := hM
 refine RW.box hM (.agg #[.int .i64 (x1.Site), .slice A4 n4 c4, .slice A5 n5 c5, .slice A6 n6 c6]) [.int .i64 (x1.Site), .slice A4 n4 c4, .slice A5 n5 c5, .slice A6 n6 c6] rfl rfl rfl rfl ?_; intro b8 w hM
 replace hM : Mem w0 H w H [.box b8 27 [.int .i64 (x1.Site), .slice A4 n4 c4, .slice A5 n5 c5, .slice A6 n6 c6], .box b7 27 [.int .i64 (x0.Site), .slice A1 n1 c1, .slice A2 n2 c2, .slice A3 n3 c3]] := hM
 refine RW.st (Ex.assign (.slice none 0 0) rfl) rfl <| RW.st (Ex.assign (.int .i64 (0)) rfl) rfl <| RW.nil <| CW.seq <| CW.region <| RW.st (Ex.assign (.slice none 0 0) rfl) rfl <| RW.nil <| CW.seq <| CW.region <| RW.st (Ex.assign (.int .i64 (0)) rfl) rfl <| RW.nil <| CW.seq <| CW.seq <| CW.region ?_
 refine RW.st (Ex.assign (.int .i64 (0)) rfl) rfl <| RW.nil <| CW.block ?_
 obtain ⟨m95, hm⟩ := hm
 skip
 replace hM := hM.nilRow 68 1
 refine CW.loop (β := Nat) (fun n σ w => ∃ (v11 : List (List api_Extent)), ∃ (A12 : Option Addr), ∃ (n13 : Nat), ∃ (c14 : Nat), ∃ (s15 : List Value), ∃ (v18 : Int), ∃ (v19 : Int), ∃ Hk9, H.le Hk9 ∧ (∃ τ, σ = sl [(2, .pointer (some ⟨b7, 0, none⟩)), (3, .pointer (some ⟨b8, 0, none⟩)), (6, .slice A12 n13 c14), (7, .int .i64 (v18)), (8, .int .i64 (v19))] τ) ∧ Mem w0 H w Hk9 [.box b7 27 [.int .i64 (x0.Site), .slice A1 n1 c1, .slice A2 n2 c2, .slice A3 n3 c3], .box b8 27 [.int .i64 (x1.Site), .slice A4 n4 c4, .slice A5 n5 c5, .slice A6 n6 c6], .row (.slice A12 n13 c14) 68 1 n13 s15] ∧ (DtL (α := List api_Extent) Hk9 s15 v11) ∧ (n13 = v11.length) ∧ LoopN (ref46_between_L1 x0 x1 Φ) n (v11, v18, v19)) (fun n => n) m95 ⟨([] : List (List api_Extent)), none, 0, 0, [], 0, 0, H, (Hp.le.refl _), sl_canon ⟨rfl, rfl, rfl, rfl, rfl, trivial⟩, (hM.pick [2, 1, 0] rfl rfl), (DtL.nil : DtL _ [] ([] : List (List api_Extent))), rfl, hm⟩ ?_
 rintro k20 _ w ⟨v11, A12, n13, c14, s15, v18, v19, Hk9, hle10, ⟨τ, rfl⟩, hM, hd16, hn17, hm⟩
 obtain _ | k20 := k20
 · exact hm.elim
 replace hm : (ref46_between_L1 x0 x1 Φ) (v11, v18, v19) (LoopN (ref46_between_L1 x0 x1 Φ) k20) := hm
 generalize hrec21 : LoopN (ref46_between_L1 x0 x1 Φ) k20 = rec1 at hm
 refine CW.seq <| CW.seq <| CW.region <| RW.st (Ex.move (.int .i64 (v19)) rfl) rfl <| RW.st (Ex.fieldAddr fa27_3 rfl) rfl <| RW.st (Ex.load1 hM 0 to25 rfl rfl rfl) rfl <| RW.st (Ex.lenN st25.1 rfl hF3.hn) rfl <| RW.st (Ex.lss rfl rfl) rfl <| RW.nil ?_
 refine CW.cond_dec (p := v19 < (x0.Image.length : Int)) rfl (fun hc22 => ?_) (fun hc22 => ?_)
 ·
  replace hm := And.left hm hc22
  refine CW.skip <| CW.seq <| CW.block <| CW.seq <| CW.region <| RW.st (Ex.assign (.slice none 0 0) rfl) rfl <| RW.nil <| CW.seq <| CW.seq <| CW.region <| RW.st (Ex.assign (.int .i64 (0)) rfl) rfl <| RW.nil <| CW.block ?_
  obtain ⟨m94, hm⟩ := hm
  skip
  replace hM := hM.nilRow 103 2
  refine CW.loop (β := Nat) (fun n σ w => ∃ (v25 : Int), ∃ (v26 : List api_Extent), ∃ (A27 : Option Addr), ∃ (n28 : Nat), ∃ (c29 : Nat), ∃ (s30 : List Value), ∃ (v33 : Int), ∃ Hk23, Hk9.le Hk23 ∧ (∃ τ, σ = sl [(2, .pointer (some ⟨b7, 0, none⟩)), (3, .pointer (some ⟨b8, 0, none⟩)), (6, .slice A12 n13 c14), (7, .int .i64 (v25)), (8, .int .i64 (v19)), (9, .slice A27 n28 c29), (10, .int .i64 (v33))] τ) ∧ Mem w0 H w Hk23 [.box b7 27 [.int .i64 (x0.Site), .slice A1 n1 c1, .slice A2 n2 c2, .slice A3 n3 c3], .box b8 27 [.int .i64 (x1.Site), .slice A4 n4 c4, .slice A5 n5 c5, .slice A6 n6 c6], .row (.slice A12 n13 c14) 68 1 n13 s15, .row (.slice A27 n28 c29) 103 2 n28 s30] ∧ (DtL (α := api_Extent) Hk23 s30 v26) ∧ (n28 = v26.length) ∧ LoopN (ref46_between_L2 x0 x1 v11 v19 rec1 Φ) n (v25, v26, v33)) (fun n => n) m94 ⟨v18, ([] : List api_Extent), none, 0, 0, [], 0, Hk9, (Hp.le.refl _), sl_canon ⟨rfl, rfl, rfl, rfl, rfl, rfl, rfl, trivial⟩, (hM.pick [1, 2, 3, 0] rfl rfl), (DtL.nil : DtL _ [] ([] : List api_Extent)), rfl, hm⟩ ?_
  rintro k34 _ w ⟨v25, v26, A27, n28, c29, s30, v33, Hk23, hle24, ⟨τ, rfl⟩, hM, hd31, hn32, hm⟩
  obtain _ | k34 := k34
  · exact hm.elim
  replace hm : (ref46_between_L2 x0 x1 v11 v19 rec1 Φ) (v25, v26, v33) (LoopN (ref46_between_L2 x0 x1 v11 v19 rec1 Φ) k34) := hm
  generalize hrec35 : LoopN (ref46_between_L2 x0 x1 v11 v19 rec1 Φ) k34 = rec2 at hm
  refine CW.seq <| CW.seq <| CW.region <| RW.st (Ex.move (.int .i64 (v33)) rfl) rfl <| RW.st (Ex.fieldAddr fa27_3 rfl) rfl <| RW.st (Ex.load1 hM 0 to25 rfl rfl rfl) rfl <| RW.st (Ex.move (.int .i64 (v19)) rfl) rfl ?_
  obtain ⟨hg36, hm⟩ := hm
  refine RW.st (Ex.index st25 rfl rfl v19.toNat (hF3.ne hg36) hg36.nat (hF3.lt hg36)) rfl ?_
  obtain ⟨_, ⟨A37, n37, c37, s37, rfl, hF37⟩, hx38⟩ := DtL.getI (α := List Sec) (hF3.mono (hle10.trans hle24)).dat hg36
  refine RW.st (Ex.loadE hM (hle10.trans hle24) hF3.rdc to61 rfl (hx38 0 _ rfl)) rfl <| RW.st (Ex.lenN st61.1 rfl hF37.hn) rfl <| RW.st (Ex.lss rfl rfl) rfl <| RW.nil ?_
  refine CW.cond_dec (p := v33 < ((ix x0.Image v19).length : Int)) rfl (fun hc39 => ?_) (fun hc39 => ?_)
  ·
   replace hm := And.left hm hc39
   refine CW.skip <| CW.seq <| CW.block <| CW.seq <| CW.seq <| CW.region <| RW.st (Ex.loadA hM 0 [.int .i64 (x0.Site), .slice A1 n1 c1, .slice A2 n2 c2, .slice A3 n3 c3] ta27 rfl rfl rfl rfl) rfl <| RW.st (Ex.loadA hM 1 [.int .i64 (x1.Site), .slice A4 n4 c4, .slice A5 n5 c5, .slice A6 n6 c6] ta27 rfl rfl rfl rfl) rfl <| RW.st (Ex.move (.int .i64 (v19)) rfl) rfl <| RW.st (Ex.move (.int .i64 (v33)) rfl) rfl ?_
   refine RW.callP hM (ref46_marked_lift x0 x1 v19 v33 (hF1.mono (hle10.trans hle24)) (hF2.mono (hle10.trans hle24)) (hF3.mono (hle10.trans hle24)) (hF4.mono (hle10.trans hle24)) (hF5.mono (hle10.trans hle24)) (hF6.mono (hle10.trans hle24)) hm) en137 rfl rfl rfl rfl ?_; rintro _ w H52 _ hle53 ⟨v51, hm, rfl, rfl⟩ hM
   replace hM : Mem w0 H w H52 [.box b7 27 [.int .i64 (x0.Site), .slice A1 n1 c1, .slice A2 n2 c2, .slice A3 n3 c3], .box b8 27 [.int .i64 (x1.Site), .slice A4 n4 c4, .slice A5 n5 c5, .slice A6 n6 c6], .row (.slice A12 n13 c14) 68 1 n13 s15, .row (.slice A27 n28 c29) 103 2 n28 s30] := hM
   refine RW.st (Ex.not (p := v51 = true) (bvar _)) rfl <| RW.nil ?_
   refine CW.cond_dec (p := ¬ (v51 = true)) rfl (fun hc54 => ?_) (fun hc54 => ?_)
   ·
    replace hm := And.left hm hc54
    refine CW.exit ?_
    refine CW.region <| RW.st (Ex.move (.int .i64 (v33)) rfl) rfl ?_
    obtain ⟨hg55, hm⟩ := hm
    refine RW.st (Ex.add rfl rfl hg55.1 hg55.2) rfl <| RW.st (Ex.assign (.int .i64 (v33 + 1)) rfl) rfl <| RW.nil ?_
    exact And.intro rfl ⟨k34, ⟨v25, v26, A27, n28, c29, s30, v33 + 1, H52, hle24.trans hle53, sl_canon ⟨rfl, rfl, rfl, rfl, rfl, rfl, rfl, trivial⟩, hM, (hd31.mono hle53), hn32, (by rw [hrec35]; exact hm)⟩, Nat.lt_succ_self _⟩
   ·
    replace hm := And.right hm hc54
    refine CW.skip <| CW.seq <| CW.region <| RW.st (Ex.move (.int .i64 (v25)) rfl) rfl ?_
    obtain ⟨hg56, hm⟩ := hm
    refine RW.st (Ex.add rfl rfl hg56.1 hg56.2) rfl <| RW.st (Ex.assign (.int .i64 (v25 + 1)) rfl) rfl <| RW.nil <| CW.seq <| CW.region <| RW.st (Ex.move (.slice A27 n28 c29) rfl) rfl <| RW.st (Ex.lenN st68.1 rfl hn32) rfl <| RW.st (Ex.assign (.int .i64 ((v26.length : Int))) rfl) rfl <| RW.nil ?_
    obtain ⟨hG80, hm⟩ := hm
    refine CW.cut (fun D σ w => D = [] ∧ (∃ τ, σ = sl [(2, .pointer (some ⟨b7, 0, none⟩)), (3, .pointer (some ⟨b8, 0, none⟩)), (6, .slice A12 n13 c14), (7, .int .i64 (v25 + 1)), (8, .int .i64 (v19)), (9, .slice A27 n28 c29), (10, .int .i64 (v33)), (11, .int .i64 ((v26.length : Int))), (57, .bool (decide ((0 < (v26.length : Int)) ∧ ((((ix v26 ((v26.length : Int) - 1)).Start) + ((ix v26 ((v26.length : Int) - 1)).Count)) = v33))))] τ) ∧ Mem w0 H w H52 [.box b7 27 [.int .i64 (x0.Site), .slice A1 n1 c1, .slice A2 n2 c2, .slice A3 n3 c3], .box b8 27 [.int .i64 (x1.Site), .slice A4 n4 c4, .slice A5 n5 c5, .slice A6 n6 c6], .row (.slice A12 n13 c14) 68 1 n13 s15, .row (.slice A27 n28 c29) 103 2 n28 s30]) ?_ ?_
    ·
     replace hm := hG80
     by_cases hc57 : 0 < (v26.length : Int)
     ·
      replace hm := hm hc57
      obtain ⟨hg58, hm⟩ := hm
      obtain ⟨hg59, hm⟩ := hm
      obtain ⟨_, rfl, hx60⟩ := DtL.getI (α := api_Extent) (hd31.mono hle53) hg59
      have hg61 := hm
      refine CW.drawE 19 [.int .i64 ((v26.length : Int)), .bool true, .bool true, .slice A27 n28 c29, .int .i64 ((v26.length : Int)), .int .i64 ((v26.length : Int) - 1), elp A27 ((((v26.length : Int) - 1).toNat) * 2 + 0), elp A27 ((((v26.length : Int) - 1).toNat) * 2 + 0), .int .i64 ((ix v26 ((v26.length : Int) - 1)).Start), .slice A27 n28 c29, .int .i64 ((v26.length : Int)), .int .i64 ((v26.length : Int) - 1), elp A27 ((((v26.length : Int) - 1).toNat) * 2 + 0), elp A27 ((((v26.length : Int) - 1).toNat) * 2 + 1), .int .i64 ((ix v26 ((v26.length : Int) - 1)).Count), .int .i64 (((ix v26 ((v26.length : Int) - 1)).Start) + ((ix v26 ((v26.length : Int) - 1)).Count)), .int .i64 (v33), .bool (decide ((((ix v26 ((v26.length : Int) - 1)).Start) + ((ix v26 ((v26.length : Int) - 1)).Count)) = v33)), .bool (decide ((((ix v26 ((v26.length : Int) - 1)).Start) + ((ix v26 ((v26.length : Int) - 1)).Count)) = v33))]
       [[(11, none)], [(39, some 0)], [(40, some 1)], [(9, none), (41, some 2)], [(11, none), (41, some 2)], [(41, some 2), (43, some 4)], [(41, some 2), (42, some 3), (44, some 5)], [(41, some 2), (45, some 6)], [(41, some 2), (46, some 7)], [(9, none), (41, some 2)], [(11, none), (41, some 2)], [(41, some 2), (49, some 10)], [(41, some 2), (48, some 9), (50, some 11)], [(41, some 2), (51, some 12)], [(41, some 2), (52, some 13)], [(41, some 2), (47, some 8), (53, some 14)], [(10, none), (41, some 2)], [(41, some 2), (54, some 15), (55, some 16)], [(41, some 2), (56, some 17)]] [(2, none), (3, none), (6, none), (7, none), (8, none), (9, none), (10, none), (11, none), (57, some 18)] (by kernel_rfl) hM (by kernel_rfl) ⟨?_, ?_, ?_, ?_, ?_, ?_, ?_, ?_, ?_, ?_, ?_, ?_, ?_, ?_, ?_, ?_, ?_, ?_, ?_, trivial⟩ ?_
      · exact One.ex (fun H' τ w hled hM => Ex.move (.int .i64 ((v26.length : Int))) rfl) rfl (fun _ => rfl) rfl
      · exact One.ex (fun H' τ w hled hM => Ex.yes (Ex.gtr rfl rfl) hc57) rfl (fun _ => rfl) rfl
      · exact One.ex (fun H' τ w hled hM => Ex.move (.bool true) rfl) rfl (fun _ => rfl) rfl
      · exact One.ex (fun H' τ w hled hM => Ex.move (.slice A27 n28 c29) rfl) rfl (fun _ => rfl) rfl
      · exact One.ex (fun H' τ w hled hM => Ex.move (.int .i64 ((v26.length : Int))) rfl) rfl (fun _ => rfl) rfl
      · exact One.ex (fun H' τ w hled hM => Ex.sub rfl rfl hg58.1 hg58.2) rfl (fun _ => rfl) rfl
      · exact One.ex (fun H' τ w hled hM => Ex.index st68 rfl rfl (((v26.length : Int) - 1).toNat) (hM.rowNeD (α := api_Extent) (p := 3) rfl hn32 hg59) hg59.nat (Nat.lt_of_lt_of_eq hg59.lt (hn32).symm)) rfl (fun _ => rfl) rfl
      · exact One.ex (fun H' τ w hled hM => Ex.fieldE fa103_0 (hM.rowNeD (α := api_Extent) (p := 3) rfl hn32 hg59) rfl) rfl (fun _ => rfl) rfl
      · exact One.ex (fun H' τ w hled hM => Ex.loadR hM 3 rfl to3 (hM.rowNeD (α := api_Extent) (p := 3) rfl hn32 hg59) rfl (hx60 0 _ rfl)) rfl (fun _ => rfl) rfl
      · exact One.ex (fun H' τ w hled hM => Ex.move (.slice A27 n28 c29) rfl) rfl (fun _ => rfl) rfl
      · exact One.ex (fun H' τ w hled hM => Ex.move (.int .i64 ((v26.length : Int))) rfl) rfl (fun _ => rfl) rfl
      · exact One.ex (fun H' τ w hled hM => Ex.sub rfl rfl hg58.1 hg58.2) rfl (fun _ => rfl) rfl
      · exact One.ex (fun H' τ w hled hM => Ex.index st68 rfl rfl (((v26.length : Int) - 1).toNat) (hM.rowNeD (α := api_Extent) (p := 3) rfl hn32 hg59) hg59.nat (Nat.lt_of_lt_of_eq hg59.lt (hn32).symm)) rfl (fun _ => rfl) rfl
      · exact One.ex (fun H' τ w hled hM => Ex.fieldE fa103_1 (hM.rowNeD (α := api_Extent) (p := 3) rfl hn32 hg59) rfl) rfl (fun _ => rfl) rfl
      · exact One.ex (fun H' τ w hled hM => Ex.loadR hM 3 rfl to3 (hM.rowNeD (α := api_Extent) (p := 3) rfl hn32 hg59) rfl (hx60 1 _ rfl)) rfl (fun _ => rfl) rfl
      · exact One.ex (fun H' τ w hled hM => Ex.add rfl rfl hg61.1 hg61.2) rfl (fun _ => rfl) rfl
      · exact One.ex (fun H' τ w hled hM => Ex.move (.int .i64 (v33)) rfl) rfl (fun _ => rfl) rfl
      · exact One.ex (fun H' τ w hled hM => Ex.eql rfl rfl) rfl (fun _ => rfl) rfl
      · exact One.ex (fun H' τ w hled hM => Ex.pickT (.bool (decide ((((ix v26 ((v26.length : Int) - 1)).Start) + ((ix v26 ((v26.length : Int) - 1)).Count)) = v33))) rfl rfl) rfl (fun _ => rfl) rfl
      intro τ w hM
      change RW _ _ _ _ _ _ _ _ (sl [(2, .pointer (some ⟨b7, 0, none⟩)), (3, .pointer (some ⟨b8, 0, none⟩)), (6, .slice A12 n13 c14), (7, .int .i64 (v25 + 1)), (8, .int .i64 (v19)), (9, .slice A27 n28 c29), (10, .int .i64 (v33)), (11, .int .i64 ((v26.length : Int))), (57, .bool (decide ((((ix v26 ((v26.length : Int) - 1)).Start) + ((ix v26 ((v26.length : Int) - 1)).Count)) = v33)))] τ) _
      refine RW.nil ?_
      exact And.intro rfl (And.intro (sl_canon ⟨rfl, rfl, rfl, rfl, rfl, rfl, rfl, rfl, (congrArg Value.bool (decide_eq_decide.2 (imAnd hc57 Iff.rfl))), trivial⟩) hM)
     ·
      skip
      refine CW.drawE 19 [.int .i64 ((v26.length : Int)), .bool false, .bool false, undef, undef, undef, undef, undef, undef, undef, undef, undef, undef, undef, undef, undef, undef, undef, .bool false]
       [[(11, none)], [(39, some 0)], [(40, some 1)], [(41, some 2)], [(41, some 2)], [(41, some 2)], [(41, some 2)], [(41, some 2)], [(41, some 2)], [(41, some 2)], [(41, some 2)], [(41, some 2)], [(41, some 2)], [(41, some 2)], [(41, some 2)], [(41, some 2)], [(41, some 2)], [(41, some 2)], [(41, some 2), (56, some 17)]] [(2, none), (3, none), (6, none), (7, none), (8, none), (9, none), (10, none), (11, none), (57, some 18)] (by kernel_rfl) hM (by kernel_rfl) ⟨?_, ?_, ?_, ?_, ?_, ?_, ?_, ?_, ?_, ?_, ?_, ?_, ?_, ?_, ?_, ?_, ?_, ?_, ?_, trivial⟩ ?_
      · exact One.ex (fun H' τ w hled hM => Ex.move (.int .i64 ((v26.length : Int))) rfl) rfl (fun _ => rfl) rfl
      · exact One.ex (fun H' τ w hled hM => Ex.no (Ex.gtr rfl rfl) hc57) rfl (fun _ => rfl) rfl
      · exact One.ex (fun H' τ w hled hM => Ex.move (.bool false) rfl) rfl (fun _ => rfl) rfl
      · exact One.pass (fun _ => rfl) rfl
      · exact One.pass (fun _ => rfl) rfl
      · exact One.pass (fun _ => rfl) rfl
      · exact One.pass (fun _ => rfl) rfl
      · exact One.pass (fun _ => rfl) rfl
      · exact One.pass (fun _ => rfl) rfl
      · exact One.pass (fun _ => rfl) rfl
      · exact One.pass (fun _ => rfl) rfl
      · exact One.pass (fun _ => rfl) rfl
      · exact One.pass (fun _ => rfl) rfl
      · exact One.pass (fun _ => rfl) rfl
      · exact One.pass (fun _ => rfl) rfl
      · exact One.pass (fun _ => rfl) rfl
      · exact One.pass (fun _ => rfl) rfl
      · exact One.pass (fun _ => rfl) rfl
      · exact One.ex (fun H' τ w hled hM => Ex.pickF (.bool false) rfl rfl) rfl (fun _ => rfl) rfl
      intro τ w hM
      change RW _ _ _ _ _ _ _ _ (sl [(2, .pointer (some ⟨b7, 0, none⟩)), (3, .pointer (some ⟨b8, 0, none⟩)), (6, .slice A12 n13 c14), (7, .int .i64 (v25 + 1)), (8, .int .i64 (v19)), (9, .slice A27 n28 c29), (10, .int .i64 (v33)), (11, .int .i64 ((v26.length : Int))), (57, .bool false)] τ) _
      refine RW.nil ?_
      exact And.intro rfl (And.intro (sl_canon ⟨rfl, rfl, rfl, rfl, rfl, rfl, rfl, rfl, (congrArg Value.bool (decide_eq_false (fun q => hc57 q.1)).symm), trivial⟩) hM)
    rintro _ _ w ⟨rfl, ⟨τ, rfl⟩, hM⟩
    refine CW.cond_dec (p := (0 < (v26.length : Int)) ∧ ((((ix v26 ((v26.length : Int) - 1)).Start) + ((ix v26 ((v26.length : Int) - 1)).Count)) = v33)) rfl (fun hc62 => ?_) (fun hc62 => ?_)
    ·
     replace hm := And.left hm hc62
     refine CW.region <| RW.st (Ex.move (.slice A27 n28 c29) rfl) rfl <| RW.st (Ex.move (.int .i64 ((v26.length : Int))) rfl) rfl ?_
     obtain ⟨hg63, hm⟩ := hm
     refine RW.st (Ex.sub rfl rfl hg63.1 hg63.2) rfl ?_
     obtain ⟨hg64, hm⟩ := hm
     refine RW.st (Ex.index st68 rfl rfl (((v26.length : Int) - 1).toNat) (hM.rowNeD (α := api_Extent) (p := 3) rfl hn32 hg64) hg64.nat (Nat.lt_of_lt_of_eq hg64.lt (hn32).symm)) rfl <| RW.st (Ex.fieldE fa103_1 (hM.rowNeD (α := api_Extent) (p := 3) rfl hn32 hg64) rfl) rfl ?_
     obtain ⟨_, rfl, hx65⟩ := DtL.getI (α := api_Extent) (hd31.mono hle53) hg64
     refine RW.st (Ex.loadR hM 3 rfl to3 (hM.rowNeD (α := api_Extent) (p := 3) rfl hn32 hg64) rfl (hx65 1 _ rfl)) rfl ?_
     obtain ⟨hg66, hm⟩ := hm
     refine RW.st (Ex.add rfl rfl hg66.1 hg66.2) rfl <| RW.st (Ex.index st68 rfl rfl (((v26.length : Int) - 1).toNat) (hM.rowNeD (α := api_Extent) (p := 3) rfl hn32 hg64) hg64.nat (Nat.lt_of_lt_of_eq hg64.lt (hn32).symm)) rfl <| RW.st (Ex.fieldE fa103_1 (hM.rowNeD (α := api_Extent) (p := 3) rfl hn32 hg64) rfl) rfl ?_
     refine RW.storeD (α := api_Extent) (off := 1) (x' := (api_Extent.mk ((ix v26 ((v26.length : Int) - 1)).Start) (((ix v26 ((v26.length : Int) - 1)).Count) + 1))) hM 3 (hd31.mono hle53) (.int .i64 (((ix v26 ((v26.length : Int) - 1)).Count) + 1)) [.int .i64 (((ix v26 ((v26.length : Int) - 1)).Count) + 1)] sz3 rfl hn32 hg64 (Nat.le_of_ble_eq_true rfl) rfl rfl (oneAll ⟨rfl, trivial⟩) rfl (fun ch h => by obtain rfl := h; exact rfl) rfl rfl ?_
     intro s67 w hd68 hM
     replace hM : Mem w0 H w H52 [.box b7 27 [.int .i64 (x0.Site), .slice A1 n1 c1, .slice A2 n2 c2, .slice A3 n3 c3], .box b8 27 [.int .i64 (x1.Site), .slice A4 n4 c4, .slice A5 n5 c5, .slice A6 n6 c6], .row (.slice A12 n13 c14) 68 1 n13 s15, .row (.slice A27 n28 c29) 103 2 n28 s67] := hM
     refine RW.nil <| CW.region <| RW.st (Ex.move (.int .i64 (v33)) rfl) rfl ?_
     obtain ⟨hg69, hm⟩ := hm
     refine RW.st (Ex.add rfl rfl hg69.1 hg69.2) rfl <| RW.st (Ex.assign (.int .i64 (v33 + 1)) rfl) rfl <| RW.nil ?_
     exact And.intro rfl ⟨k34, ⟨v25 + 1, (put v26 ((v26.length : Int) - 1) (api_Extent.mk ((ix v26 ((v26.length : Int) - 1)).Start) (((ix v26 ((v26.length : Int) - 1)).Count) + 1))), A27, n28, c29, s67, v33 + 1, H52, hle24.trans hle53, sl_canon ⟨rfl, rfl, rfl, rfl, rfl, rfl, rfl, trivial⟩, hM, hd68, (hn32).trans (put_len _ _ _).symm, (by rw [hrec35]; exact hm)⟩, Nat.lt_succ_self _⟩
    ·
     replace hm := And.right hm hc62
     refine CW.region <| RW.st (Ex.move (.slice A27 n28 c29) rfl) rfl <| RW.st (Ex.move (.int .i64 (v33)) rfl) rfl <| RW.st (Ex.build bs103 [(0, .int .i64 (v33)), (1, .int .i64 (1))] [.int .i64 (v33), .int .i64 (1)] rfl rfl) rfl ?_
     refine RW.buildSlice hM st68 tz103 [(0, .agg #[.int .i64 (v33), .int .i64 (1)])] [.int .i64 (v33), .int .i64 (1)] (by decide) rfl rfl rfl (by decide) rfl rfl ?_; intro b70 w hM
     have hd71 : DtL H52 [.int .i64 (v33), .int .i64 (1)] ([(api_Extent.mk v33 1)] : List api_Extent) := (DtL.cons (c1 := [.int .i64 (v33), .int .i64 (1)]) rfl DtL.nil)
     replace hM : Mem w0 H w H52 [.row (.slice (some ⟨b70, 0, none⟩) 1 1) 103 2 1 [.int .i64 (v33), .int .i64 (1)], .box b7 27 [.int .i64 (x0.Site), .slice A1 n1 c1, .slice A2 n2 c2, .slice A3 n3 c3], .box b8 27 [.int .i64 (x1.Site), .slice A4 n4 c4, .slice A5 n5 c5, .slice A6 n6 c6], .row (.slice A12 n13 c14) 68 1 n13 s15, .row (.slice A27 n28 c29) 103 2 n28 s30] := hM
     obtain ⟨hg78, hm⟩ := hm
     refine RW.appendD (α := api_Extent) (xs := v26) (ys := ([(api_Extent.mk v33 1)] : List api_Extent)) hM 4 st68 rfl rfl (hd31.mono hle53) hn32 rfl (fun j u hj => hM.rowCell (k := 0) rfl rfl hj) hd71 rfl hg78 rfl rfl ?_; intro A72 n73 c74 s75 w hd76 hn77 hM
     replace hM : Mem w0 H w H52 [.row (.slice (some ⟨b70, 0, none⟩) 1 1) 103 2 1 [.int .i64 (v33), .int .i64 (1)], .box b7 27 [.int .i64 (x0.Site), .slice A1 n1 c1, .slice A2 n2 c2, .slice A3 n3 c3], .box b8 27 [.int .i64 (x1.Site), .slice A4 n4 c4, .slice A5 n5 c5, .slice A6 n6 c6], .row (.slice A12 n13 c14) 68 1 n13 s15, .row (.slice A72 n73 c74) 103 2 n73 s75] := hM
     refine RW.st (Ex.assign (.slice A72 n73 c74) rfl) rfl <| RW.nil <| CW.region <| RW.st (Ex.move (.int .i64 (v33)) rfl) rfl ?_
     obtain ⟨hg79, hm⟩ := hm
     refine RW.st (Ex.add rfl rfl hg79.1 hg79.2) rfl <| RW.st (Ex.assign (.int .i64 (v33 + 1)) rfl) rfl <| RW.nil ?_
     exact And.intro rfl ⟨k34, ⟨v25 + 1, (v26 ++ ([(api_Extent.mk v33 1)] : List api_Extent)), A72, n73, c74, s75, v33 + 1, H52, hle24.trans hle53, sl_canon ⟨rfl, rfl, rfl, rfl, rfl, rfl, rfl, trivial⟩, (hM.pick [1, 2, 3, 4] rfl rfl), hd76, hn77, (by rw [hrec35]; exact hm)⟩, Nat.lt_succ_self _⟩
  ·
   replace hm := And.right hm hc39
   refine CW.exit ?_
   refine CW.region <| RW.st (Ex.move (.slice A12 n13 c14) rfl) rfl <| RW.st (Ex.move (.slice A27 n28 c29) rfl) rfl ?_
   obtain ⟨H81, hM, hle82, hF83⟩ := hM.giveF (α := api_Extent) 3 rfl hd31 hn32
   replace hM : Mem w0 H w H81 [.box b7 27 [.int .i64 (x0.Site), .slice A1 n1 c1, .slice A2 n2 c2, .slice A3 n3 c3], .box b8 27 [.int .i64 (x1.Site), .slice A4 n4 c4, .slice A5 n5 c5, .slice A6 n6 c6], .row (.slice A12 n13 c14) 68 1 n13 s15] := hM
   refine RW.buildSlice hM st30 tz68 [(0, .slice A27 n28 c29)] [.slice A27 n28 c29] (by decide) rfl rfl rfl (by decide) rfl rfl ?_; intro b84 w hM
   have hd85 : DtL H81 [.slice A27 n28 c29] ([v26] : List (List api_Extent)) := (DtL.cons (c1 := [.slice A27 n28 c29]) ⟨_, _, _, _, rfl, hF83⟩ DtL.nil)
   replace hM : Mem w0 H w H81 [.row (.slice (some ⟨b84, 0, none⟩) 1 1) 68 1 1 [.slice A27 n28 c29], .box b7 27 [.int .i64 (x0.Site), .slice A1 n1 c1, .slice A2 n2 c2, .slice A3 n3 c3], .box b8 27 [.int .i64 (x1.Site), .slice A4 n4 c4, .slice A5 n5 c5, .slice A6 n6 c6], .row (.slice A12 n13 c14) 68 1 n13 s15] := hM
   obtain ⟨hg92, hm⟩ := hm
   refine RW.appendD (α := List api_Extent) (xs := v11) (ys := ([v26] : List (List api_Extent))) hM 3 st30 rfl rfl (hd16.mono (hle24.trans hle82)) hn17 rfl (fun j u hj => hM.rowCell (k := 0) rfl rfl hj) hd85 rfl hg92 rfl rfl ?_; intro A86 n87 c88 s89 w hd90 hn91 hM
   replace hM : Mem w0 H w H81 [.row (.slice (some ⟨b84, 0, none⟩) 1 1) 68 1 1 [.slice A27 n28 c29], .box b7 27 [.int .i64 (x0.Site), .slice A1 n1 c1, .slice A2 n2 c2, .slice A3 n3 c3], .box b8 27 [.int .i64 (x1.Site), .slice A4 n4 c4, .slice A5 n5 c5, .slice A6 n6 c6], .row (.slice A86 n87 c88) 68 1 n87 s89] := hM
   refine RW.st (Ex.assign (.slice A86 n87 c88) rfl) rfl <| RW.nil <| CW.region <| RW.st (Ex.move (.int .i64 (v19)) rfl) rfl ?_
   obtain ⟨hg93, hm⟩ := hm
   refine RW.st (Ex.add rfl rfl hg93.1 hg93.2) rfl <| RW.st (Ex.assign (.int .i64 (v19 + 1)) rfl) rfl <| RW.nil ?_
   exact And.intro rfl ⟨k20, ⟨(v11 ++ ([v26] : List (List api_Extent))), A86, n87, c88, s89, v25, v19 + 1, H81, hle10.trans (hle24.trans hle82), sl_canon ⟨rfl, rfl, rfl, rfl, rfl, trivial⟩, (hM.pick [1, 2, 3] rfl rfl), hd90, hn91, (by rw [hrec21]; exact hm)⟩, Nat.lt_succ_self _⟩
 ·
  replace hm := And.right hm hc22
  refine CW.exit ?_
  refine CW.seq <| CW.region <| RW.st (Ex.move (.slice A12 n13 c14) rfl) rfl <| RW.st (Ex.move (.int .i64 (v18)) rfl) rfl <| RW.st (Ex.assign (.slice A12 n13 c14) rfl) rfl <| RW.st (Ex.assign (.int .i64 (v18)) rfl) rfl <| RW.nil <| CW.ret ?_
  refine end_tmp2 (.inl rfl) rfl (.slice A12 n13 c14) (.int .i64 (v18)) rfl rfl ?_
  exact ⟨_, _, (hM.pick [2] rfl rfl), (v11, v18), hm, A12, n13, c14, s15, rfl, hd16, hn17, rfl⟩
end Go.Proofs.YtahlanamngfkcaaDoor

namespace Go.Proofs.YtahlanamngfkcaaDoor
open Go.RowKit
theorem law47_point_lift {H : Hp} (x0 : Int) (x1 : List (List Sec)) (x2 : List api_Span) (x3 : List api_Write) {A1 : Option Addr} {n1 c1 : Nat} {s1 : List Value} (hF1 : Fz (α := List Sec) H A1 n1 c1 x1 s1) {A2 : Option Addr} {n2 c2 : Nat} {s2 : List Value} (hF2 : Fz (α := api_Span) H A2 n2 c2 x2 s2) {A3 : Option Addr} {n3 c3 : Nat} {s3 : List Value} (hF3 : Fz (α := api_Write) H A3 n3 c3 x3 s3) {Φ : api_Point → Prop} (hm : law47_point_W x0 x1 x2 x3 Φ) : RetP Tryd.prog 38 #[.int .i64 (x0), .slice A1 n1 c1, .slice A2 n2 c2, .slice A3 n3 c3] H (fun H' v L => ∃ y, Φ y ∧ ∃ A42, ∃ n42, ∃ c42, ∃ s42, ∃ A43, ∃ n43, ∃ c43, ∃ s43, ∃ A44, ∃ n44, ∃ c44, ∃ s44, v = .agg #[.int .i64 (y.Site), .slice A42 n42 c42, .slice A43 n43 c43, .slice A44 n44 c44] ∧ Fz (α := api_Span) H' A42 n42 c42 y.Lineage s42 ∧ DtL (α := api_Bitmap) H' s43 y.Dirty ∧ n43 = y.Dirty.length ∧ Fz (α := List Sec) H' A44 n44 c44 y.Image s44 ∧ L = [.row (.slice A43 n43 c43) 65 2 n43 s43]) := by
 refine RetP.of_code Tryd.func38 rfl (Nat.le_of_ble_eq_true rfl) fun w0 hM => ?_
 refine CW.seq <| CW.region ?_
 refine RW.alloc hM tz27 [.int .i64 (0), .slice none 0 0, .slice none 0 0, .slice none 0 0] rfl rfl rfl ?_; intro b4 w hM
 replace hM : Mem w0 H w H [.box b4 27 [.int .i64 (0), .slice none 0 0, .slice none 0 0, .slice none 0 0]] := hM
 refine RW.nil <| CW.seq <| CW.region <| RW.st (Ex.move (.slice A1 n1 c1) rfl) rfl <| RW.st (Ex.move (.slice A3 n3 c3) rfl) rfl ?_
 refine RW.callP hM (ref07_Apply_lift x1 x3 hF1 hF3 hm) en89 rfl rfl rfl rfl ?_; rintro _ w H6 _ hle7 ⟨v5, hm, A8, n8, c8, s8, rs9, rfl, hd10, hn11, rfl⟩ hM
 replace hM := Mem.toTail (a := [.row (.slice A8 n8 c8) 61 1 n8 s8]) (b := rs9) (c := [.box b4 27 [.int .i64 (0), .slice none 0 0, .slice none 0 0, .slice none 0 0]]) hM
 replace hM : Mem w0 H w H6 (.row (.slice A8 n8 c8) 61 1 n8 s8 :: .box b4 27 [.int .i64 (0), .slice none 0 0, .slice none 0 0, .slice none 0 0] :: rs9) := hM
 refine RW.st (Ex.move (.tuple #[.slice A8 n8 c8, .int .i64 (v5.2.1), .int .i64 (v5.2.2)]) rfl) rfl <| RW.st (Ex.extract rfl rfl) rfl <| RW.st (Ex.extract rfl rfl) rfl <| RW.st (Ex.extract rfl rfl) rfl <| RW.st (Ex.assign (.slice A8 n8 c8) rfl) rfl <| RW.st (Ex.assign (.int .i64 (v5.2.1)) rfl) rfl <| RW.st (Ex.assign (.int .i64 (v5.2.2)) rfl) rfl <| RW.nil <| CW.seq <| CW.region <| RW.st (Ex.move (.int .i64 (x0)) rfl) rfl <| RW.st (Ex.move (.slice A2 n2 c2) rfl) rfl <| RW.st (Ex.move (.slice A1 n1 c1) rfl) rfl ?_
 refine RW.callP hM (ref07_SizesOf_lift x1 (hF1.mono hle7) hm) en57 rfl rfl rfl rfl ?_; rintro _ w H13 _ hle14 ⟨v12, hm, A15, n15, c15, s15, rfl, hd16, hn17, rfl⟩ hM
 replace hM : Mem w0 H w H13 (.row (.slice A15 n15 c15) 3 1 n15 s15 :: .row (.slice A8 n8 c8) 61 1 n8 s8 :: .box b4 27 [.int .i64 (0), .slice none 0 0, .slice none 0 0, .slice none 0 0] :: rs9) := hM
 obtain ⟨H18, hM, hle19, hF20⟩ := hM.giveF (α := Int) 0 rfl hd16 hn17
 replace hM : Mem w0 H w H18 (.row (.slice A8 n8 c8) 61 1 n8 s8 :: .box b4 27 [.int .i64 (0), .slice none 0 0, .slice none 0 0, .slice none 0 0] :: rs9) := hM
 refine RW.callP hM (ref43_Clean_lift v12 hF20 hm) en91 rfl rfl rfl rfl ?_; rintro _ w H22 _ hle23 ⟨v21, hm, A24, n24, c24, s24, rfl, hd25, hn26, rfl⟩ hM
 replace hM : Mem w0 H w H22 (.row (.slice A24 n24 c24) 65 2 n24 s24 :: .row (.slice A8 n8 c8) 61 1 n8 s8 :: .box b4 27 [.int .i64 (0), .slice none 0 0, .slice none 0 0, .slice none 0 0] :: rs9) := hM
 refine RW.st (Ex.move (.slice A3 n3 c3) rfl) rfl ?_
 obtain ⟨H27, hM, hle28, hF29⟩ := hM.giveF (α := api_Bitmap) 0 rfl hd25 hn26
 replace hM : Mem w0 H w H27 (.row (.slice A8 n8 c8) 61 1 n8 s8 :: .box b4 27 [.int .i64 (0), .slice none 0 0, .slice none 0 0, .slice none 0 0] :: rs9) := hM
 refine RW.callP hM (ref43_Mark_lift v21 x3 hF29 (hF3.mono ((((hle7.trans hle14).trans hle19).trans hle23).trans hle28)) hm) en90 rfl rfl rfl rfl ?_; rintro _ w H31 _ hle32 ⟨v30, hm, A33, n33, c33, s33, rfl, hd34, hn35, rfl⟩ hM
 replace hM : Mem w0 H w H31 (.row (.slice A33 n33 c33) 65 2 n33 s33 :: .row (.slice A8 n8 c8) 61 1 n8 s8 :: .box b4 27 [.int .i64 (0), .slice none 0 0, .slice none 0 0, .slice none 0 0] :: rs9) := hM
 refine RW.st (Ex.move (.slice A8 n8 c8) rfl) rfl <| RW.st (Ex.build bs27 [(0, .int .i64 (x0)), (1, .slice A2 n2 c2), (2, .slice A33 n33 c33), (3, .slice A8 n8 c8)] [.int .i64 (x0), .slice A2 n2 c2, .slice A33 n33 c33, .slice A8 n8 c8] rfl rfl) rfl ?_
 refine RW.store hM 2 (.agg #[.int .i64 (x0), .slice A2 n2 c2, .slice A33 n33 c33, .slice A8 n8 c8]) [.int .i64 (x0), .slice A2 n2 c2, .slice A33 n33 c33, .slice A8 n8 c8] [.int .i64 (x0), .slice A2 n2 c2, .slice A33 n33 c33, .slice A8 n8 c8] sz27 rfl rfl rfl (oneAll ⟨rfl, rfl, rfl, rfl, trivial⟩) rfl (Nat.le_of_ble_eq_true rfl) rfl (.row (.slice A33 n33 c33) 65 2 n33 s33 :: .row (.slice A8 n8 c8) 61 1 n8 s8 :: .box b4 27 [.int .i64 (x0), .slice A2 n2 c2, .slice A33 n33 c33, .slice A8 n8 c8] :: rs9) rfl rfl rfl ?_; intro w hM
 refine RW.nil <| CW.ret ?_
 obtain ⟨H36, hM, hle37, hd38⟩ := DeepL.flat (es := [.row (.slice A33 n33 c33) 65 2 n33 s33, .row (.slice A8 n8 c8) 61 1 n8 s8, .box b4 27 [.int .i64 (x0), .slice A2 n2 c2, .slice A33 n33 c33, .slice A8 n8 c8]]) hM (hd10.mono ((((hle14.trans hle19).trans hle23).trans hle28).trans hle32))
 replace hM : Mem w0 H w H36 [.row (.slice A33 n33 c33) 65 2 n33 s33, .row (.slice A8 n8 c8) 61 1 n8 s8, .box b4 27 [.int .i64 (x0), .slice A2 n2 c2, .slice A33 n33 c33, .slice A8 n8 c8]] := hM
 obtain ⟨H39, hM, hle40, hF41⟩ := hM.giveF (α := List Sec) 1 rfl hd38 hn11
 replace hM : Mem w0 H w H39 [.row (.slice A33 n33 c33) 65 2 n33 s33, .box b4 27 [.int .i64 (x0), .slice A2 n2 c2, .slice A33 n33 c33, .slice A8 n8 c8]] := hM
 refine end_cell (k := 1) (.inl rfl) rfl hM rfl ta27 [.int .i64 (x0), .slice A2 n2 c2, .slice A33 n33 c33, .slice A8 n8 c8] rfl rfl ?_
 exact ⟨_, _, (hM.pick [0] rfl rfl), (api_Point.mk x0 x2 v30 v5.1), hm, A2, n2, c2, s2, A33, n33, c33, s33, A8, n8, c8, s8, rfl, (hF2.mono (((((((hle7.trans hle14).trans hle19).trans hle23).trans hle28).trans hle32).trans hle37).trans hle40)), (hd34.mono (hle37.trans hle40)), hn35, hF41, rfl⟩
theorem delta_Check_lift {H : Hp} (x0 : api_Point) {A1 : Option Addr} {n1 c1 : Nat} {s1 : List Value} (hF1 : Fz (α := api_Span) H A1 n1 c1 x0.Lineage s1) {A2 : Option Addr} {n2 c2 : Nat} {s2 : List Value} (hF2 : Fz (α := api_Bitmap) H A2 n2 c2 x0.Dirty s2) {A3 : Option Addr} {n3 c3 : Nat} {s3 : List Value} (hF3 : Fz (α := List Sec) H A3 n3 c3 x0.Image s3) {Φ : Int → Prop} (hm : delta_Check_W x0 Φ) : RetP Tryd.prog 40 #[.agg #[.int .i64 (x0.Site), .slice A1 n1 c1, .slice A2 n2 c2, .slice A3 n3 c3]] H (fun _ v L => ∃ y, Φ y ∧ v = .int .i64 (y) ∧ L = []) := by
 refine RetP.of_code Tryd.func40 rfl (Nat.le_of_ble_eq_true rfl) fun w0 hM => ?_
 refine CW.seq <| CW.region ?_
 refine RW.box hM (.agg #[.int .i64 (x0.Site), .slice A1 n1 c1, .slice A2 n2 c2, .slice A3 n3 c3]) [.int .i64 (x0.Site), .slice A1 n1 c1, .slice A2 n2 c2, .slice A3 n3 c3] rfl rfl rfl rfl ?_; intro b4 w hM
 replace hM : Mem w0 H w H [.box b4 27 [.int .i64 (x0.Site), .slice A1 n1 c1, .slice A2 n2 c2, .slice A3 n3 c3]] := hM
 refine RW.st (Ex.assign (.int .i64 (0)) rfl) rfl <| RW.nil <| CW.seq <| CW.block <| CW.seq <| CW.region <| RW.st (Ex.fieldAddr fa27_0 rfl) rfl <| RW.st (Ex.load1 hM 0 to3 rfl rfl rfl) rfl ?_
 refine RW.callP hM (delta_in_lift x0.Site 0 hm) en92 rfl rfl rfl rfl ?_; rintro _ w H6 _ hle7 ⟨v5, hm, rfl, rfl⟩ hM
 replace hM : Mem w0 H w H6 [.box b4 27 [.int .i64 (x0.Site), .slice A1 n1 c1, .slice A2 n2 c2, .slice A3 n3 c3]] := hM
 refine RW.st (Ex.not (p := v5 = true) (bvar _)) rfl <| RW.st (Ex.assign (.bool (decide (¬ (v5 = true)))) rfl) rfl <| RW.nil ?_
 refine CW.cond_dec (p := ¬ (v5 = true)) rfl (fun hc8 => ?_) (fun hc8 => ?_)
 ·
  replace hm := And.left hm hc8
  refine CW.seq <| CW.region <| RW.st (Ex.assign (.int .i64 (2)) rfl) rfl <| RW.nil <| CW.ret ?_
  refine blockQ_ret (thenQ_ret ?_)
  refine end_tmp (.inl rfl) rfl (.int .i64 (2)) rfl ?_
  exact ⟨_, _, (hM.pick [] rfl rfl), 2, hm, rfl, rfl⟩
 ·
  replace hm := And.right hm hc8
  refine CW.seq <| CW.region <| RW.st (Ex.fieldAddr fa27_1 rfl) rfl <| RW.st (Ex.load1 hM 0 to22 rfl rfl rfl) rfl ?_
  refine RW.callP hM (delta_correct_lift x0.Lineage (hF1.mono hle7) hm) en93 rfl rfl rfl rfl ?_; rintro _ w H10 _ hle11 ⟨v9, hm, rfl, rfl⟩ hM
  replace hM : Mem w0 H w H10 [.box b4 27 [.int .i64 (x0.Site), .slice A1 n1 c1, .slice A2 n2 c2, .slice A3 n3 c3]] := hM
  refine RW.st (Ex.not (p := v9 = true) (bvar _)) rfl <| RW.st (Ex.assign (.bool (decide (¬ (v9 = true)))) rfl) rfl <| RW.nil ?_
  refine CW.cond_dec (p := ¬ (v9 = true)) rfl (fun hc12 => ?_) (fun hc12 => ?_)
  ·
   replace hm := And.left hm hc12
   refine CW.seq <| CW.region <| RW.st (Ex.assign (.int .i64 (3)) rfl) rfl <| RW.nil <| CW.ret ?_
   refine blockQ_ret (thenQ_ret ?_)
   refine end_tmp (.inl rfl) rfl (.int .i64 (3)) rfl ?_
   exact ⟨_, _, (hM.pick [] rfl rfl), 3, hm, rfl, rfl⟩
  ·
   replace hm := And.right hm hc12
   refine CW.skip <| CW.seq <| CW.seq <| CW.region <| RW.st (Ex.fieldAddr fa27_3 rfl) rfl <| RW.st (Ex.load1 hM 0 to25 rfl rfl rfl) rfl ?_
   refine RW.callP hM (image_Check_lift x0.Image (hF3.mono (hle7.trans hle11)) hm) en62 rfl rfl rfl rfl ?_; rintro _ w H14 _ hle15 ⟨v13, hm, rfl, rfl⟩ hM
   replace hM : Mem w0 H w H14 [.box b4 27 [.int .i64 (x0.Site), .slice A1 n1 c1, .slice A2 n2 c2, .slice A3 n3 c3]] := hM
   refine RW.st (Ex.assign (.int .i64 (v13)) rfl) rfl <| RW.nil <| CW.seq <| CW.region <| RW.st (Ex.move (.int .i64 (v13)) rfl) rfl <| RW.st (Ex.neq rfl rfl) rfl <| RW.nil ?_
   refine CW.cond_dec (p := v13 ≠ 0) rfl (fun hc16 => ?_) (fun hc16 => ?_)
   ·
    replace hm := And.left hm hc16
    refine CW.seq <| CW.region <| RW.st (Ex.move (.int .i64 (v13)) rfl) rfl <| RW.st (Ex.assign (.int .i64 (v13)) rfl) rfl <| RW.nil <| CW.ret ?_
    refine thenQ_ret ?_
    refine end_tmp (.inl rfl) rfl (.int .i64 (v13)) rfl ?_
    exact ⟨_, _, (hM.pick [] rfl rfl), v13, hm, rfl, rfl⟩
   ·
    replace hm := And.right hm hc16
    refine CW.skip <| CW.seq <| CW.seq <| CW.region <| RW.st (Ex.fieldAddr fa27_2 rfl) rfl <| RW.st (Ex.load1 hM 0 to23 rfl rfl rfl) rfl <| RW.st (Ex.lenN st23.1 rfl hF2.hn) rfl <| RW.st (Ex.fieldAddr fa27_3 rfl) rfl <| RW.st (Ex.load1 hM 0 to25 rfl rfl rfl) rfl <| RW.st (Ex.lenN st25.1 rfl hF3.hn) rfl <| RW.st (Ex.neq rfl rfl) rfl <| RW.nil ?_
    refine CW.cond_dec (p := (x0.Dirty.length : Int) ≠ (x0.Image.length : Int)) rfl (fun hc17 => ?_) (fun hc17 => ?_)
    ·
     replace hm := And.left hm hc17
     refine CW.seq <| CW.region <| RW.st (Ex.assign (.int .i64 (6)) rfl) rfl <| RW.nil <| CW.ret ?_
     refine thenQ_ret ?_
     refine end_tmp (.inl rfl) rfl (.int .i64 (6)) rfl ?_
     exact ⟨_, _, (hM.pick [] rfl rfl), 6, hm, rfl, rfl⟩
    ·
     replace hm := And.right hm hc17
     refine CW.skip <| CW.seq <| CW.seq <| CW.region <| RW.st (Ex.fieldAddr fa27_2 rfl) rfl <| RW.st (Ex.load1 hM 0 to23 rfl rfl rfl) rfl <| RW.st (Ex.lenN st23.1 rfl hF2.hn) rfl <| RW.st (Ex.move (.int .i64 (0)) rfl) rfl <| RW.nil <| CW.block ?_
     obtain ⟨m37, hm⟩ := hm
     skip
     refine CW.loop (β := Nat) (fun n σ w => ∃ (v20 : Int), ∃ Hk18, H14.le Hk18 ∧ (∃ τ, σ = sl [(1, .pointer (some ⟨b4, 0, none⟩)), (31, .slice A2 n2 c2), (32, .int .i64 ((x0.Dirty.length : Int))), (33, .int .i64 (v20))] τ) ∧ Mem w0 H w Hk18 [.box b4 27 [.int .i64 (x0.Site), .slice A1 n1 c1, .slice A2 n2 c2, .slice A3 n3 c3]] ∧ LoopN (delta_Check_L1 x0 Φ) n (v20)) (fun n => n) m37 ⟨0, H14, (Hp.le.refl _), sl_canon ⟨rfl, rfl, rfl, rfl, trivial⟩, hM, hm⟩ ?_
     rintro k21 _ w ⟨v20, Hk18, hle19, ⟨τ, rfl⟩, hM, hm⟩
     obtain _ | k21 := k21
     · exact hm.elim
     replace hm : (delta_Check_L1 x0 Φ) (v20) (LoopN (delta_Check_L1 x0 Φ) k21) := hm
     generalize hrec22 : LoopN (delta_Check_L1 x0 Φ) k21 = rec1 at hm
     refine CW.seq <| CW.region <| RW.st (Ex.lss rfl rfl) rfl <| RW.nil <| CW.seq ?_
     refine CW.cond_dec (p := v20 < (x0.Dirty.length : Int)) rfl (fun hc23 => ?_) (fun hc23 => ?_)
     ·
      replace hm := And.left hm hc23
      refine CW.skip <| CW.seq <| CW.block <| CW.seq <| CW.region <| RW.st (Ex.move (.int .i64 (v20)) rfl) rfl ?_
      obtain ⟨hg24, hm⟩ := hm
      refine RW.st (Ex.index st23 rfl rfl v20.toNat (hF2.ne hg24) hg24.nat (hF2.lt hg24)) rfl ?_
      obtain ⟨_, ⟨A25, n25, c25, s25, rfl, hF25⟩, hx26⟩ := DtL.getI (α := api_Bitmap) (hF2.mono (((hle7.trans hle11).trans hle15).trans hle19)).dat hg24
      refine RW.st (Ex.loadEA hM (((hle7.trans hle11).trans hle15).trans hle19) hF2.rdc [.int .i64 ((ix x0.Dirty v20).Size), .slice A25 n25 c25] ta65 rfl (hF2.ne hg24) rfl (chunk_sub (off := 0) (n := 2) hx26 rfl)) rfl ?_
      refine RW.alloc hM tz65 [.int .i64 (0), .slice none 0 0] rfl rfl rfl ?_; intro b27 w hM
      replace hM : Mem w0 H w Hk18 [.box b27 65 [.int .i64 (0), .slice none 0 0], .box b4 27 [.int .i64 (x0.Site), .slice A1 n1 c1, .slice A2 n2 c2, .slice A3 n3 c3]] := hM
      refine RW.st (Ex.assign (.int .i64 (v20)) rfl) rfl ?_
      refine RW.store hM 0 (.agg #[.int .i64 ((ix x0.Dirty v20).Size), .slice A25 n25 c25]) [.int .i64 ((ix x0.Dirty v20).Size), .slice A25 n25 c25] [.int .i64 ((ix x0.Dirty v20).Size), .slice A25 n25 c25] sz65 rfl rfl rfl (oneAll ⟨rfl, rfl, trivial⟩) rfl (Nat.le_of_ble_eq_true rfl) rfl [.box b27 65 [.int .i64 ((ix x0.Dirty v20).Size), .slice A25 n25 c25], .box b4 27 [.int .i64 (x0.Site), .slice A1 n1 c1, .slice A2 n2 c2, .slice A3 n3 c3]] rfl rfl rfl ?_; intro w hM
      refine RW.nil <| CW.seq <| CW.seq <| CW.region <| RW.st (Ex.loadA hM 0 [.int .i64 ((ix x0.Dirty v20).Size), .slice A25 n25 c25] ta65 rfl rfl rfl rfl) rfl ?_
      refine RW.callP hM (bitmap_Check_lift (ix x0.Dirty v20) hF25 hm) en94 rfl rfl rfl rfl ?_; rintro _ w H29 _ hle30 ⟨v28, hm, rfl, rfl⟩ hM
      replace hM : Mem w0 H w H29 [.box b27 65 [.int .i64 ((ix x0.Dirty v20).Size), .slice A25 n25 c25], .box b4 27 [.int .i64 (x0.Site), .slice A1 n1 c1, .slice A2 n2 c2, .slice A3 n3 c3]] := hM
      refine RW.st (Ex.assign (.int .i64 (v28)) rfl) rfl <| RW.nil <| CW.seq <| CW.region <| RW.st (Ex.move (.int .i64 (v28)) rfl) rfl <| RW.st (Ex.neq rfl rfl) rfl <| RW.nil ?_
      refine CW.cond_dec (p := v28 ≠ 0) rfl (fun hc31 => ?_) (fun hc31 => ?_)
      ·
       replace hm := And.left hm hc31
       refine CW.seq <| CW.region <| RW.st (Ex.move (.int .i64 (v28)) rfl) rfl <| RW.st (Ex.assign (.int .i64 (v28)) rfl) rfl <| RW.nil <| CW.ret ?_
       refine thenQ_ret (blockQ_ret (thenQ_ret (thenQ_ret (blockQ_ret (thenQ_ret ?_)))))
       refine end_tmp (.inl rfl) rfl (.int .i64 (v28)) rfl ?_
       exact ⟨_, _, (hM.pick [] rfl rfl), v28, hm, rfl, rfl⟩
      ·
       replace hm := And.right hm hc31
       refine CW.skip <| CW.seq ?_
       obtain ⟨hg32, hm⟩ := hm
       obtain ⟨_, ⟨A33, n33, c33, s33, rfl, hF33⟩, hx34⟩ := DtL.getI (α := List Sec) (hF3.mono ((((hle7.trans hle11).trans hle15).trans hle19).trans hle30)).dat hg32
       refine CW.drawE 9 [.pointer (some ⟨b27, 0, none⟩), .int .i64 ((ix x0.Dirty v20).Size), .pointer (some ⟨b4, 3, none⟩), .slice A3 n3 c3, .int .i64 (v20), elp A3 (v20.toNat * 1 + 0), .slice A33 n33 c33, .int .i64 (((ix x0.Image v20).length : Int)), .bool (decide (((ix x0.Dirty v20).Size) ≠ ((ix x0.Image v20).length : Int)))]
        [[(5, none)], [(43, some 0)], [(1, none)], [(45, some 2)], [(4, none)], [(46, some 3), (47, some 4)], [(48, some 5)], [(49, some 6)], [(44, some 1), (50, some 7)]] [(1, none), (31, none), (32, none), (33, none), (51, some 8)] (by kernel_rfl) hM (by kernel_rfl) ⟨?_, ?_, ?_, ?_, ?_, ?_, ?_, ?_, ?_, trivial⟩ ?_
       · exact One.ex (fun H' τ w hled hM => Ex.fieldAddr fa65_0 rfl) rfl (fun _ => rfl) rfl
       · exact One.ex (fun H' τ w hled hM => Ex.load1 hM 0 to3 rfl rfl rfl) rfl (fun _ => rfl) rfl
       · exact One.ex (fun H' τ w hled hM => Ex.fieldAddr fa27_3 rfl) rfl (fun _ => rfl) rfl
       · exact One.ex (fun H' τ w hled hM => Ex.load1 hM 1 to25 rfl rfl rfl) rfl (fun _ => rfl) rfl
       · exact One.ex (fun H' τ w hled hM => Ex.move (.int .i64 (v20)) rfl) rfl (fun _ => rfl) rfl
       · exact One.ex (fun H' τ w hled hM => Ex.index st25 rfl rfl v20.toNat (hF3.ne hg32) hg32.nat (hF3.lt hg32)) rfl (fun _ => rfl) rfl
       · exact One.ex (fun H' τ w hled hM => Ex.loadE hM (((((hle7.trans hle11).trans hle15).trans hle19).trans hle30).trans hled) hF3.rdc to61 rfl (hx34 0 _ rfl)) rfl (fun _ => rfl) rfl
       · exact One.ex (fun H' τ w hled hM => Ex.lenN st61.1 rfl hF33.hn) rfl (fun _ => rfl) rfl
       · exact One.ex (fun H' τ w hled hM => Ex.neq rfl rfl) rfl (fun _ => rfl) rfl
       intro τ w hM
       change RW _ _ _ _ _ _ _ _ (sl [(1, .pointer (some ⟨b4, 0, none⟩)), (31, .slice A2 n2 c2), (32, .int .i64 ((x0.Dirty.length : Int))), (33, .int .i64 (v20)), (51, .bool (decide (((ix x0.Dirty v20).Size) ≠ ((ix x0.Image v20).length : Int))))] τ) _
       refine RW.nil ?_
       refine CW.cond_dec (p := ((ix x0.Dirty v20).Size) ≠ ((ix x0.Image v20).length : Int)) rfl (fun hc35 => ?_) (fun hc35 => ?_)
       ·
        replace hm := And.left hm hc35
        refine CW.seq <| CW.region <| RW.st (Ex.assign (.int .i64 (22)) rfl) rfl <| RW.nil <| CW.ret ?_
        refine blockQ_ret (thenQ_ret (thenQ_ret (blockQ_ret (thenQ_ret ?_))))
        refine end_tmp (.inl rfl) rfl (.int .i64 (22)) rfl ?_
        exact ⟨_, _, (hM.pick [] rfl rfl), 22, hm, rfl, rfl⟩
       ·
        replace hm := And.right hm hc35
        refine CW.skip <| CW.region ?_
        obtain ⟨hg36, hm⟩ := hm
        refine RW.st (Ex.add rfl rfl hg36.1 hg36.2) rfl <| RW.st (Ex.move (.int .i64 (v20 + 1)) rfl) rfl <| RW.nil ?_
        exact And.intro rfl ⟨k21, ⟨v20 + 1, H29, hle19.trans hle30, sl_canon ⟨rfl, rfl, rfl, rfl, trivial⟩, (hM.pick [1] rfl rfl), (by rw [hrec22]; exact hm)⟩, Nat.lt_succ_self _⟩
     ·
      replace hm := And.right hm hc23
      refine CW.exit ?_
      refine CW.seq <| CW.region <| RW.st (Ex.assign (.int .i64 (0)) rfl) rfl <| RW.nil <| CW.ret ?_
      refine end_tmp (.inl rfl) rfl (.int .i64 (0)) rfl ?_
      exact ⟨_, _, (hM.pick [] rfl rfl), 0, hm, rfl, rfl⟩
theorem image_Fits_lift {H : Hp} (x0 : List (List Sec)) (x1 : api_Write) {A1 : Option Addr} {n1 c1 : Nat} {s1 : List Value} (hF1 : Fz (α := List Sec) H A1 n1 c1 x0 s1) {A2 : Option Addr} {n2 c2 : Nat} {s2 : List Value} (hF2 : Fz (α := Sec) H A2 n2 c2 x1.Data s2) {Φ : Int → Prop} (hm : image_Fits_W x0 x1 Φ) : RetP Tryd.prog 144 #[.slice A1 n1 c1, .agg #[.int .i64 (x1.Volume), .int .i64 (x1.Start), .slice A2 n2 c2]] H (fun _ v L => ∃ y, Φ y ∧ v = .int .i64 (y) ∧ L = []) := by
 refine RetP.of_code Tryd.func144 rfl (Nat.le_of_ble_eq_true rfl) fun w0 hM => ?_
 refine CW.seq <| CW.region ?_
 refine RW.box hM (.agg #[.int .i64 (x1.Volume), .int .i64 (x1.Start), .slice A2 n2 c2]) [.int .i64 (x1.Volume), .int .i64 (x1.Start), .slice A2 n2 c2] rfl rfl rfl rfl ?_; intro b3 w hM
 replace hM : Mem w0 H w H [.box b3 100 [.int .i64 (x1.Volume), .int .i64 (x1.Start), .slice A2 n2 c2]] := hM
 refine RW.st (Ex.assign (.int .i64 (0)) rfl) rfl <| RW.nil <| CW.seq <| CW.seq <| CW.region <| RW.st (Ex.move (.slice A1 n1 c1) rfl) rfl ?_
 refine RW.callP hM (image_Check_lift x0 hF1 hm) en62 rfl rfl rfl rfl ?_; rintro _ w H5 _ hle6 ⟨v4, hm, rfl, rfl⟩ hM
 replace hM : Mem w0 H w H5 [.box b3 100 [.int .i64 (x1.Volume), .int .i64 (x1.Start), .slice A2 n2 c2]] := hM
 refine RW.st (Ex.assign (.int .i64 (v4)) rfl) rfl <| RW.nil <| CW.seq <| CW.region <| RW.st (Ex.move (.int .i64 (v4)) rfl) rfl <| RW.st (Ex.neq rfl rfl) rfl <| RW.nil ?_
 refine CW.cond_dec (p := v4 ≠ 0) rfl (fun hc7 => ?_) (fun hc7 => ?_)
 ·
  replace hm := And.left hm hc7
  refine CW.seq <| CW.region <| RW.st (Ex.move (.int .i64 (v4)) rfl) rfl <| RW.st (Ex.assign (.int .i64 (v4)) rfl) rfl <| RW.nil <| CW.ret ?_
  refine thenQ_ret ?_
  refine end_tmp (.inl rfl) rfl (.int .i64 (v4)) rfl ?_
  exact ⟨_, _, (hM.pick [] rfl rfl), v4, hm, rfl, rfl⟩
 ·
  replace hm := And.right hm hc7
  refine CW.skip <| CW.seq <| CW.region <| RW.st (Ex.move (.slice A1 n1 c1) rfl) rfl <| RW.st (Ex.loadA hM 0 [.int .i64 (x1.Volume), .int .i64 (x1.Start), .slice A2 n2 c2] ta100 rfl rfl rfl rfl) rfl ?_
  refine RW.callP hM (image_fits_lift x0 x1 (hF1.mono hle6) (hF2.mono hle6) hm) en113 rfl rfl rfl rfl ?_; rintro _ w H9 _ hle10 ⟨v8, hm, rfl, rfl⟩ hM
  replace hM : Mem w0 H w H9 [.box b3 100 [.int .i64 (x1.Volume), .int .i64 (x1.Start), .slice A2 n2 c2]] := hM
  refine RW.st (Ex.assign (.int .i64 (v8)) rfl) rfl <| RW.nil <| CW.ret ?_
  refine end_tmp (.inl rfl) rfl (.int .i64 (v8)) rfl ?_
  exact ⟨_, _, (hM.pick [] rfl rfl), v8, hm, rfl, rfl⟩
theorem ref46_Between_lift {H : Hp} (x0 : api_Point) (x1 : api_Point) {A1 : Option Addr} {n1 c1 : Nat} {s1 : List Value} (hF1 : Fz (α := api_Span) H A1 n1 c1 x0.Lineage s1) {A2 : Option Addr} {n2 c2 : Nat} {s2 : List Value} (hF2 : Fz (α := api_Bitmap) H A2 n2 c2 x0.Dirty s2) {A3 : Option Addr} {n3 c3 : Nat} {s3 : List Value} (hF3 : Fz (α := List Sec) H A3 n3 c3 x0.Image s3) {A4 : Option Addr} {n4 c4 : Nat} {s4 : List Value} (hF4 : Fz (α := api_Span) H A4 n4 c4 x1.Lineage s4) {A5 : Option Addr} {n5 c5 : Nat} {s5 : List Value} (hF5 : Fz (α := api_Bitmap) H A5 n5 c5 x1.Dirty s5) {A6 : Option Addr} {n6 c6 : Nat} {s6 : List Value} (hF6 : Fz (α := List Sec) H A6 n6 c6 x1.Image s6) {Φ : List (List api_Extent) × Int → Prop} (hm : ref46_Between_W x0 x1 Φ) : RetP Tryd.prog 48 #[.agg #[.int .i64 (x0.Site), .slice A1 n1 c1, .slice A2 n2 c2, .slice A3 n3 c3], .agg #[.int .i64 (x1.Site), .slice A4 n4 c4, .slice A5 n5 c5, .slice A6 n6 c6]] H (fun H' v L => ∃ y, Φ y ∧ ∃ A27, ∃ n27, ∃ c27, ∃ s27, v = .tuple #[.slice A27 n27 c27, .int .i64 (y.2)] ∧ DtL (α := List api_Extent) H' s27 y.1 ∧ n27 = y.1.length ∧ L = [.row (.slice A27 n27 c27) 68 1 n27 s27]) := by
 refine RetP.of_code Tryd.func48 rfl (Nat.le_of_ble_eq_true rfl) fun w0 hM => ?_
 refine CW.seq <| CW.region ?_
 refine RW.box hM (.agg #[.int .i64 (x0.Site), .slice A1 n1 c1, .slice A2 n2 c2, .slice A3 n3 c3]) [.int .i64 (x0.Site), .slice A1 n1 c1, .slice A2 n2 c2, .slice A3 n3 c3] rfl rfl rfl rfl ?_; intro b7 w hM
 replace hM : Mem w0 H w H [.box b7 27 [.int .i64 (x0.Site), .slice A1 n1 c1, .slice A2 n2 c2, .slice A3 n3 c3]] := hM
 refine RW.box hM (.agg #[.int .i64 (x1.Site), .slice A4 n4 c4, .slice A5 n5 c5, .slice A6 n6 c6]) [.int .i64 (x1.Site), .slice A4 n4 c4, .slice A5 n5 c5, .slice A6 n6 c6] rfl rfl rfl rfl ?_; intro b8 w hM
 replace hM : Mem w0 H w H [.box b8 27 [.int .i64 (x1.Site), .slice A4 n4 c4, .slice A5 n5 c5, .slice A6 n6 c6], .box b7 27 [.int .i64 (x0.Site), .slice A1 n1 c1, .slice A2 n2 c2, .slice A3 n3 c3]] := hM
 refine RW.st (Ex.assign (.slice none 0 0) rfl) rfl <| RW.st (Ex.assign (.int .i64 (0)) rfl) rfl <| RW.nil <| CW.seq <| CW.seq <| CW.region <| RW.st (Ex.loadA hM 1 [.int .i64 (x0.Site), .slice A1 n1 c1, .slice A2 n2 c2, .slice A3 n3 c3] ta27 rfl rfl rfl rfl) rfl ?_
 refine RW.callP hM (ref46_Check_lift x0 hF1 hF2 hF3 hm) en45 rfl rfl rfl rfl ?_; rintro _ w H10 _ hle11 ⟨v9, hm, rfl, rfl⟩ hM
 replace hM : Mem w0 H w H10 [.box b8 27 [.int .i64 (x1.Site), .slice A4 n4 c4, .slice A5 n5 c5, .slice A6 n6 c6], .box b7 27 [.int .i64 (x0.Site), .slice A1 n1 c1, .slice A2 n2 c2, .slice A3 n3 c3]] := hM
 refine RW.st (Ex.assign (.int .i64 (v9)) rfl) rfl <| RW.nil <| CW.seq <| CW.region <| RW.st (Ex.move (.int .i64 (v9)) rfl) rfl <| RW.st (Ex.neq rfl rfl) rfl <| RW.nil ?_
 refine CW.cond_dec (p := v9 ≠ 0) rfl (fun hc12 => ?_) (fun hc12 => ?_)
 ·
  replace hm := And.left hm hc12
  refine CW.seq <| CW.region <| RW.st (Ex.move (.int .i64 (v9)) rfl) rfl <| RW.st (Ex.assign (.slice none 0 0) rfl) rfl <| RW.st (Ex.assign (.int .i64 (v9)) rfl) rfl <| RW.nil <| CW.ret ?_
  refine thenQ_ret ?_
  refine end_tmp2 (.inl rfl) rfl (.slice none 0 0) (.int .i64 (v9)) rfl rfl ?_
  replace hM := hM.nilRow 68 1
  exact ⟨_, _, (hM.pick [0] rfl rfl), (([] : List (List api_Extent)), v9), hm, none, 0, 0, [], rfl, (DtL.nil : DtL _ [] ([] : List (List api_Extent))), rfl, rfl⟩
 ·
  replace hm := And.right hm hc12
  refine CW.skip <| CW.seq <| CW.seq <| CW.region <| RW.st (Ex.loadA hM 0 [.int .i64 (x1.Site), .slice A4 n4 c4, .slice A5 n5 c5, .slice A6 n6 c6] ta27 rfl rfl rfl rfl) rfl ?_
  refine RW.callP hM (ref46_Check_lift x1 (hF4.mono hle11) (hF5.mono hle11) (hF6.mono hle11) hm) en45 rfl rfl rfl rfl ?_; rintro _ w H14 _ hle15 ⟨v13, hm, rfl, rfl⟩ hM
  replace hM : Mem w0 H w H14 [.box b8 27 [.int .i64 (x1.Site), .slice A4 n4 c4, .slice A5 n5 c5, .slice A6 n6 c6], .box b7 27 [.int .i64 (x0.Site), .slice A1 n1 c1, .slice A2 n2 c2, .slice A3 n3 c3]] := hM
  refine RW.st (Ex.assign (.int .i64 (v13)) rfl) rfl <| RW.nil <| CW.seq <| CW.region <| RW.st (Ex.move (.int .i64 (v13)) rfl) rfl <| RW.st (Ex.neq rfl rfl) rfl <| RW.nil ?_
  refine CW.cond_dec (p := v13 ≠ 0) rfl (fun hc16 => ?_) (fun hc16 => ?_)
  ·
   replace hm := And.left hm hc16
   refine CW.seq <| CW.region <| RW.st (Ex.move (.int .i64 (v13)) rfl) rfl <| RW.st (Ex.assign (.slice none 0 0) rfl) rfl <| RW.st (Ex.assign (.int .i64 (v13)) rfl) rfl <| RW.nil <| CW.ret ?_
   refine thenQ_ret ?_
   refine end_tmp2 (.inl rfl) rfl (.slice none 0 0) (.int .i64 (v13)) rfl rfl ?_
   replace hM := hM.nilRow 68 1
   exact ⟨_, _, (hM.pick [0] rfl rfl), (([] : List (List api_Extent)), v13), hm, none, 0, 0, [], rfl, (DtL.nil : DtL _ [] ([] : List (List api_Extent))), rfl, rfl⟩
  ·
   replace hm := And.right hm hc16
   refine CW.skip <| CW.seq <| CW.seq <| CW.region <| RW.st (Ex.loadA hM 1 [.int .i64 (x0.Site), .slice A1 n1 c1, .slice A2 n2 c2, .slice A3 n3 c3] ta27 rfl rfl rfl rfl) rfl <| RW.st (Ex.loadA hM 0 [.int .i64 (x1.Site), .slice A4 n4 c4, .slice A5 n5 c5, .slice A6 n6 c6] ta27 rfl rfl rfl rfl) rfl ?_
   refine RW.callP hM (ref46_sameSizes_lift x0 x1 (hF1.mono (hle11.trans hle15)) (hF2.mono (hle11.trans hle15)) (hF3.mono (hle11.trans hle15)) (hF4.mono (hle11.trans hle15)) (hF5.mono (hle11.trans hle15)) (hF6.mono (hle11.trans hle15)) hm) en100 rfl rfl rfl rfl ?_; rintro _ w H18 _ hle19 ⟨v17, hm, rfl, rfl⟩ hM
   replace hM : Mem w0 H w H18 [.box b8 27 [.int .i64 (x1.Site), .slice A4 n4 c4, .slice A5 n5 c5, .slice A6 n6 c6], .box b7 27 [.int .i64 (x0.Site), .slice A1 n1 c1, .slice A2 n2 c2, .slice A3 n3 c3]] := hM
   refine RW.st (Ex.not (p := v17 = true) (bvar _)) rfl <| RW.nil ?_
   refine CW.cond_dec (p := ¬ (v17 = true)) rfl (fun hc20 => ?_) (fun hc20 => ?_)
   ·
    replace hm := And.left hm hc20
    refine CW.seq <| CW.region <| RW.st (Ex.assign (.slice none 0 0) rfl) rfl <| RW.st (Ex.assign (.int .i64 (22)) rfl) rfl <| RW.nil <| CW.ret ?_
    refine thenQ_ret ?_
    refine end_tmp2 (.inl rfl) rfl (.slice none 0 0) (.int .i64 (22)) rfl rfl ?_
    replace hM := hM.nilRow 68 1
    exact ⟨_, _, (hM.pick [0] rfl rfl), (([] : List (List api_Extent)), 22), hm, none, 0, 0, [], rfl, (DtL.nil : DtL _ [] ([] : List (List api_Extent))), rfl, rfl⟩
   ·
    replace hm := And.right hm hc20
    refine CW.skip <| CW.seq <| CW.region <| RW.st (Ex.loadA hM 1 [.int .i64 (x0.Site), .slice A1 n1 c1, .slice A2 n2 c2, .slice A3 n3 c3] ta27 rfl rfl rfl rfl) rfl <| RW.st (Ex.loadA hM 0 [.int .i64 (x1.Site), .slice A4 n4 c4, .slice A5 n5 c5, .slice A6 n6 c6] ta27 rfl rfl rfl rfl) rfl ?_
    refine RW.callP hM (ref46_between_lift x0 x1 (hF1.mono ((hle11.trans hle15).trans hle19)) (hF2.mono ((hle11.trans hle15).trans hle19)) (hF3.mono ((hle11.trans hle15).trans hle19)) (hF4.mono ((hle11.trans hle15).trans hle19)) (hF5.mono ((hle11.trans hle15).trans hle19)) (hF6.mono ((hle11.trans hle15).trans hle19)) hm) en101 rfl rfl rfl rfl ?_; rintro _ w H22 _ hle23 ⟨v21, hm, A24, n24, c24, s24, rfl, hd25, hn26, rfl⟩ hM
    replace hM : Mem w0 H w H22 [.row (.slice A24 n24 c24) 68 1 n24 s24, .box b8 27 [.int .i64 (x1.Site), .slice A4 n4 c4, .slice A5 n5 c5, .slice A6 n6 c6], .box b7 27 [.int .i64 (x0.Site), .slice A1 n1 c1, .slice A2 n2 c2, .slice A3 n3 c3]] := hM
    refine RW.st (Ex.move (.tuple #[.slice A24 n24 c24, .int .i64 (v21.2)]) rfl) rfl <| RW.st (Ex.extract rfl rfl) rfl <| RW.st (Ex.extract rfl rfl) rfl <| RW.st (Ex.assign (.slice A24 n24 c24) rfl) rfl <| RW.st (Ex.assign (.int .i64 (v21.2)) rfl) rfl <| RW.nil <| CW.seq <| CW.region <| RW.st (Ex.move (.slice A24 n24 c24) rfl) rfl <| RW.st (Ex.assign (.slice A24 n24 c24) rfl) rfl <| RW.st (Ex.assign (.int .i64 (0)) rfl) rfl <| RW.nil <| CW.ret ?_
    refine end_tmp2 (.inl rfl) rfl (.slice A24 n24 c24) (.int .i64 (0)) rfl rfl ?_
    exact ⟨_, _, (hM.pick [0] rfl rfl), (v21.1, 0), hm, A24, n24, c24, s24, rfl, hd25, hn26, rfl⟩
end Go.Proofs.YtahlanamngfkcaaDoor

namespace Go.Proofs.YtahlanamngfkcaaDoor
open Go.RowKit
theorem reverse_Undo_lift {H : Hp} (hT : TabH H 0) (x0 : api_Point) (x1 : Int) {A1 : Option Addr} {n1 c1 : Nat} {s1 : List Value} (hF1 : Fz (α := api_Span) H A1 n1 c1 x0.Lineage s1) {A2 : Option Addr} {n2 c2 : Nat} {s2 : List Value} (hF2 : Fz (α := api_Bitmap) H A2 n2 c2 x0.Dirty s2) {A3 : Option Addr} {n3 c3 : Nat} {s3 : List Value} (hF3 : Fz (α := List Sec) H A3 n3 c3 x0.Image s3) {Φ : List (List api_Extent) × Int → Prop} (hm : reverse_Undo_W x0 x1 Φ) : RetP Tryd.prog 12 #[.agg #[.int .i64 (x0.Site), .slice A1 n1 c1, .slice A2 n2 c2, .slice A3 n3 c3], .int .i64 (x1)] H (fun H' v L => ∃ y, Φ y ∧ ∃ A38, ∃ n38, ∃ c38, ∃ s38, v = .tuple #[.slice A38 n38 c38, .int .i64 (y.2)] ∧ DtL (α := List api_Extent) H' s38 y.1 ∧ n38 = y.1.length ∧ L = [.row (.slice A38 n38 c38) 68 1 n38 s38]) := by
 refine RetP.of_code Tryd.func12 rfl (Nat.le_of_ble_eq_true rfl) fun w0 hM => ?_
 refine CW.seq <| CW.region ?_
 refine RW.box hM (.agg #[.int .i64 (x0.Site), .slice A1 n1 c1, .slice A2 n2 c2, .slice A3 n3 c3]) [.int .i64 (x0.Site), .slice A1 n1 c1, .slice A2 n2 c2, .slice A3 n3 c3] rfl rfl rfl rfl ?_; intro b4 w hM
 replace hM : Mem w0 H w H [.box b4 27 [.int .i64 (x0.Site), .slice A1 n1 c1, .slice A2 n2 c2, .slice A3 n3 c3]] := hM
 refine RW.st (Ex.assign (.slice none 0 0) rfl) rfl <| RW.st (Ex.assign (.int .i64 (0)) rfl) rfl <| RW.nil <| CW.seq <| CW.seq <| CW.region <| RW.st (Ex.loadA hM 0 [.int .i64 (x0.Site), .slice A1 n1 c1, .slice A2 n2 c2, .slice A3 n3 c3] ta27 rfl rfl rfl rfl) rfl ?_
 refine RW.callP hM (delta_Check_lift x0 hF1 hF2 hF3 hm) en40 rfl rfl rfl rfl ?_; rintro _ w H6 _ hle7 ⟨v5, hm, rfl, rfl⟩ hM
 replace hM : Mem w0 H w H6 [.box b4 27 [.int .i64 (x0.Site), .slice A1 n1 c1, .slice A2 n2 c2, .slice A3 n3 c3]] := hM
 refine RW.st (Ex.assign (.int .i64 (v5)) rfl) rfl <| RW.nil <| CW.seq <| CW.region <| RW.st (Ex.move (.int .i64 (v5)) rfl) rfl <| RW.st (Ex.neq rfl rfl) rfl <| RW.nil ?_
 refine CW.cond_dec (p := v5 ≠ 0) rfl (fun hc8 => ?_) (fun hc8 => ?_)
 ·
  replace hm := And.left hm hc8
  refine CW.seq <| CW.region <| RW.st (Ex.move (.int .i64 (v5)) rfl) rfl <| RW.st (Ex.assign (.slice none 0 0) rfl) rfl <| RW.st (Ex.assign (.int .i64 (v5)) rfl) rfl <| RW.nil <| CW.ret ?_
  refine thenQ_ret ?_
  refine end_tmp2 (.inl rfl) rfl (.slice none 0 0) (.int .i64 (v5)) rfl rfl ?_
  replace hM := hM.nilRow 68 1
  exact ⟨_, _, (hM.pick [0] rfl rfl), (([] : List (List api_Extent)), v5), hm, none, 0, 0, [], rfl, (DtL.nil : DtL _ [] ([] : List (List api_Extent))), rfl, rfl⟩
 ·
  replace hm := And.right hm hc8
  refine CW.skip <| CW.seq <| CW.seq <| CW.region <| RW.st (Ex.move (.int .i64 (x1)) rfl) rfl <| RW.st (Ex.lss rfl rfl) rfl <| RW.st (Ex.move (.bool (decide (x1 < 0))) rfl) rfl ?_
  refine RW.split 14 (p := x1 < 0) rfl (fun hc27 => ?_) (fun hc27 => ?_)
  ·
   replace hm := And.left hm hc27
   refine RW.pass rfl rfl <| RW.pass rfl rfl <| RW.pass rfl rfl <| RW.pass rfl rfl <| RW.pass rfl rfl <| RW.st (Ex.pickT (.bool true) rfl rfl) rfl <| RW.nil <| CW.cond_true rfl <| CW.seq <| CW.region <| RW.st (Ex.assign (.slice none 0 0) rfl) rfl <| RW.st (Ex.assign (.int .i64 (2)) rfl) rfl <| RW.nil <| CW.ret ?_
   refine thenQ_ret ?_
   refine end_tmp2 (.inl rfl) rfl (.slice none 0 0) (.int .i64 (2)) rfl rfl ?_
   replace hM := hM.nilRow 68 1
   exact ⟨_, _, (hM.pick [0] rfl rfl), (([] : List (List api_Extent)), 2), hm, none, 0, 0, [], rfl, (DtL.nil : DtL _ [] ([] : List (List api_Extent))), rfl, rfl⟩
  ·
   replace hm := And.right hm hc27
   refine RW.st (Ex.move (.int .i64 (x1)) rfl) rfl <| RW.st (Ex.fieldAddr fa27_1 rfl) rfl <| RW.st (Ex.load1 hM 0 to22 rfl rfl rfl) rfl ?_
   refine RW.callP hM (reverse_last_lift x0.Lineage (hF1.mono hle7) hm) en41 rfl rfl rfl rfl ?_; rintro _ w H29 _ hle30 ⟨v28, hm, rfl, rfl⟩ hM
   replace hM : Mem w0 H w H29 [.box b4 27 [.int .i64 (x0.Site), .slice A1 n1 c1, .slice A2 n2 c2, .slice A3 n3 c3]] := hM
   refine RW.st (Ex.gtr rfl rfl) rfl <| RW.st (Ex.pickF (.bool (decide (v28 < x1))) rfl rfl) rfl <| RW.nil ?_
   refine CW.cond_dec (p := v28 < x1) rfl (fun hc31 => ?_) (fun hc31 => ?_)
   ·
    replace hm := And.left hm hc31
    refine CW.seq <| CW.region <| RW.st (Ex.assign (.slice none 0 0) rfl) rfl <| RW.st (Ex.assign (.int .i64 (2)) rfl) rfl <| RW.nil <| CW.ret ?_
    refine thenQ_ret ?_
    refine end_tmp2 (.inl rfl) rfl (.slice none 0 0) (.int .i64 (2)) rfl rfl ?_
    replace hM := hM.nilRow 68 1
    exact ⟨_, _, (hM.pick [0] rfl rfl), (([] : List (List api_Extent)), 2), hm, none, 0, 0, [], rfl, (DtL.nil : DtL _ [] ([] : List (List api_Extent))), rfl, rfl⟩
   ·
    replace hm := And.right hm hc31
    refine CW.skip <| CW.seq <| CW.region <| RW.st (Ex.fieldAddr fa27_2 rfl) rfl <| RW.st (Ex.load1 hM 0 to23 rfl rfl rfl) rfl ?_
    refine RW.callP hM (reverse_volumes_api_Extent__reverse_Undo_1_lift (hT.mono (hle7.trans hle30)) x0.Dirty (hF2.mono (hle7.trans hle30)) hm) en42 rfl rfl rfl rfl ?_; rintro _ w H33 _ hle34 ⟨v32, hm, A35, n35, c35, s35, rfl, hd36, hn37, rfl⟩ hM
    replace hM : Mem w0 H w H33 [.row (.slice A35 n35 c35) 68 1 n35 s35, .box b4 27 [.int .i64 (x0.Site), .slice A1 n1 c1, .slice A2 n2 c2, .slice A3 n3 c3]] := hM
    refine RW.st (Ex.assign (.slice A35 n35 c35) rfl) rfl <| RW.st (Ex.assign (.int .i64 (0)) rfl) rfl <| RW.nil <| CW.ret ?_
    refine end_tmp2 (.inl rfl) rfl (.slice A35 n35 c35) (.int .i64 (0)) rfl rfl ?_
    exact ⟨_, _, (hM.pick [0] rfl rfl), (v32, 0), hm, A35, n35, c35, s35, rfl, hd36, hn37, rfl⟩
theorem delta_Between_lift {H : Hp} (hT : TabH H 0) (x0 : api_Point) (x1 : api_Point) {A1 : Option Addr} {n1 c1 : Nat} {s1 : List Value} (hF1 : Fz (α := api_Span) H A1 n1 c1 x0.Lineage s1) {A2 : Option Addr} {n2 c2 : Nat} {s2 : List Value} (hF2 : Fz (α := api_Bitmap) H A2 n2 c2 x0.Dirty s2) {A3 : Option Addr} {n3 c3 : Nat} {s3 : List Value} (hF3 : Fz (α := List Sec) H A3 n3 c3 x0.Image s3) {A4 : Option Addr} {n4 c4 : Nat} {s4 : List Value} (hF4 : Fz (α := api_Span) H A4 n4 c4 x1.Lineage s4) {A5 : Option Addr} {n5 c5 : Nat} {s5 : List Value} (hF5 : Fz (α := api_Bitmap) H A5 n5 c5 x1.Dirty s5) {A6 : Option Addr} {n6 c6 : Nat} {s6 : List Value} (hF6 : Fz (α := List Sec) H A6 n6 c6 x1.Image s6) {Φ : List (List api_Extent) × Int → Prop} (hm : delta_Between_W x0 x1 Φ) : RetP Tryd.prog 47 #[.agg #[.int .i64 (x0.Site), .slice A1 n1 c1, .slice A2 n2 c2, .slice A3 n3 c3], .agg #[.int .i64 (x1.Site), .slice A4 n4 c4, .slice A5 n5 c5, .slice A6 n6 c6]] H (fun H' v L => ∃ y, Φ y ∧ ∃ A39, ∃ n39, ∃ c39, ∃ s39, v = .tuple #[.slice A39 n39 c39, .int .i64 (y.2)] ∧ DtL (α := List api_Extent) H' s39 y.1 ∧ n39 = y.1.length ∧ L = [.row (.slice A39 n39 c39) 68 1 n39 s39]) := by
 refine RetP.of_code Tryd.func47 rfl (Nat.le_of_ble_eq_true rfl) fun w0 hM => ?_
 refine CW.seq <| CW.region ?_
 refine RW.box hM (.agg #[.int .i64 (x0.Site), .slice A1 n1 c1, .slice A2 n2 c2, .slice A3 n3 c3]) [.int .i64 (x0.Site), .slice A1 n1 c1, .slice A2 n2 c2, .slice A3 n3 c3] rfl rfl rfl rfl ?_; intro b7 w hM
 replace hM : Mem w0 H w H [.box b7 27 [.int .i64 (x0.Site), .slice A1 n1 c1, .slice A2 n2 c2, .slice A3 n3 c3]] := hM
 refine RW.box hM (.agg #[.int .i64 (x1.Site), .slice A4 n4 c4, .slice A5 n5 c5, .slice A6 n6 c6]) [.int .i64 (x1.Site), .slice A4 n4 c4, .slice A5 n5 c5, .slice A6 n6 c6] rfl rfl rfl rfl ?_; intro b8 w hM
 replace hM : Mem w0 H w H [.box b8 27 [.int .i64 (x1.Site), .slice A4 n4 c4, .slice A5 n5 c5, .slice A6 n6 c6], .box b7 27 [.int .i64 (x0.Site), .slice A1 n1 c1, .slice A2 n2 c2, .slice A3 n3 c3]] := hM
 refine RW.st (Ex.assign (.slice none 0 0) rfl) rfl <| RW.st (Ex.assign (.int .i64 (0)) rfl) rfl <| RW.nil <| CW.seq <| CW.seq <| CW.region <| RW.st (Ex.loadA hM 1 [.int .i64 (x0.Site), .slice A1 n1 c1, .slice A2 n2 c2, .slice A3 n3 c3] ta27 rfl rfl rfl rfl) rfl <| RW.st (Ex.loadA hM 0 [.int .i64 (x1.Site), .slice A4 n4 c4, .slice A5 n5 c5, .slice A6 n6 c6] ta27 rfl rfl rfl rfl) rfl ?_
 refine RW.buildSlice hM st166 tz27 [(0, .agg #[.int .i64 (x0.Site), .slice A1 n1 c1, .slice A2 n2 c2, .slice A3 n3 c3]), (1, .agg #[.int .i64 (x1.Site), .slice A4 n4 c4, .slice A5 n5 c5, .slice A6 n6 c6])] [.int .i64 (x0.Site), .slice A1 n1 c1, .slice A2 n2 c2, .slice A3 n3 c3, .int .i64 (x1.Site), .slice A4 n4 c4, .slice A5 n5 c5, .slice A6 n6 c6] (by decide) rfl rfl rfl (by decide) rfl rfl ?_; intro b9 w hM
 have hd10 : DtL H [.int .i64 (x0.Site), .slice A1 n1 c1, .slice A2 n2 c2, .slice A3 n3 c3, .int .i64 (x1.Site), .slice A4 n4 c4, .slice A5 n5 c5, .slice A6 n6 c6] ([x0, x1] : List api_Point) := (DtL.cons (c1 := [.int .i64 (x0.Site), .slice A1 n1 c1, .slice A2 n2 c2, .slice A3 n3 c3]) ⟨_, _, _, _, _, _, _, _, _, _, _, _, rfl, hF1, hF2, hF3⟩ (DtL.cons (c1 := [.int .i64 (x1.Site), .slice A4 n4 c4, .slice A5 n5 c5, .slice A6 n6 c6]) ⟨_, _, _, _, _, _, _, _, _, _, _, _, rfl, hF4, hF5, hF6⟩ DtL.nil))
 replace hM : Mem w0 H w H [.row (.slice (some ⟨b9, 0, none⟩) 2 2) 27 4 2 [.int .i64 (x0.Site), .slice A1 n1 c1, .slice A2 n2 c2, .slice A3 n3 c3, .int .i64 (x1.Site), .slice A4 n4 c4, .slice A5 n5 c5, .slice A6 n6 c6], .box b8 27 [.int .i64 (x1.Site), .slice A4 n4 c4, .slice A5 n5 c5, .slice A6 n6 c6], .box b7 27 [.int .i64 (x0.Site), .slice A1 n1 c1, .slice A2 n2 c2, .slice A3 n3 c3]] := hM
 refine RW.st (Ex.lenN st166.1 rfl rfl) rfl <| RW.st (Ex.move (.int .i64 (0)) rfl) rfl <| RW.nil <| CW.block ?_
 obtain ⟨m38, hm⟩ := hm
 skip
 refine CW.loop (β := Nat) (fun n σ w => ∃ (v13 : Int), ∃ Hk11, H.le Hk11 ∧ (∃ τ, σ = sl [(2, .pointer (some ⟨b7, 0, none⟩)), (3, .pointer (some ⟨b8, 0, none⟩)), (11, .slice (some ⟨b9, 0, none⟩) 2 2), (12, .int .i64 ((([x0, x1] : List api_Point).length : Int))), (13, .int .i64 (v13))] τ) ∧ Mem w0 H w Hk11 [.box b7 27 [.int .i64 (x0.Site), .slice A1 n1 c1, .slice A2 n2 c2, .slice A3 n3 c3], .box b8 27 [.int .i64 (x1.Site), .slice A4 n4 c4, .slice A5 n5 c5, .slice A6 n6 c6], .row (.slice (some ⟨b9, 0, none⟩) 2 2) 27 4 2 [.int .i64 (x0.Site), .slice A1 n1 c1, .slice A2 n2 c2, .slice A3 n3 c3, .int .i64 (x1.Site), .slice A4 n4 c4, .slice A5 n5 c5, .slice A6 n6 c6]] ∧ LoopN (delta_Between_L1 x0 x1 Φ) n (v13)) (fun n => n) m38 ⟨0, H, (Hp.le.refl _), sl_canon ⟨rfl, rfl, rfl, rfl, rfl, trivial⟩, (hM.pick [2, 1, 0] rfl rfl), hm⟩ ?_
 rintro k14 _ w ⟨v13, Hk11, hle12, ⟨τ, rfl⟩, hM, hm⟩
 obtain _ | k14 := k14
 · exact hm.elim
 replace hm : (delta_Between_L1 x0 x1 Φ) (v13) (LoopN (delta_Between_L1 x0 x1 Φ) k14) := hm
 generalize hrec15 : LoopN (delta_Between_L1 x0 x1 Φ) k14 = rec1 at hm
 refine CW.seq <| CW.region <| RW.st (Ex.lss rfl rfl) rfl <| RW.nil <| CW.seq ?_
 refine CW.cond_dec (p := v13 < (([x0, x1] : List api_Point).length : Int)) rfl (fun hc16 => ?_) (fun hc16 => ?_)
 ·
  replace hm := And.left hm hc16
  refine CW.skip <| CW.seq <| CW.block <| CW.seq <| CW.region ?_
  obtain ⟨hg17, hm⟩ := hm
  refine RW.st (Ex.index st166 rfl rfl v13.toNat (hM.rowNeD (α := api_Point) (p := 2) rfl rfl hg17) hg17.nat (Nat.lt_of_lt_of_eq hg17.lt (rfl).symm)) rfl ?_
  obtain ⟨_, ⟨A18, n18, c18, s18, A19, n19, c19, s19, A20, n20, c20, s20, rfl, hF18, hF19, hF20⟩, hx21⟩ := DtL.getI (α := api_Point) (hd10.mono hle12) hg17
  refine RW.st (Ex.loadRA hM 2 rfl [.int .i64 ((ix ([x0, x1] : List api_Point) v13).Site), .slice A18 n18 c18, .slice A19 n19 c19, .slice A20 n20 c20] ta27 (hM.rowNeD (α := api_Point) (p := 2) rfl rfl hg17) rfl rfl (chunk_sub (off := 0) (n := 4) hx21 rfl)) rfl ?_
  refine RW.alloc hM tz27 [.int .i64 (0), .slice none 0 0, .slice none 0 0, .slice none 0 0] rfl rfl rfl ?_; intro b22 w hM
  replace hM : Mem w0 H w Hk11 [.box b22 27 [.int .i64 (0), .slice none 0 0, .slice none 0 0, .slice none 0 0], .box b7 27 [.int .i64 (x0.Site), .slice A1 n1 c1, .slice A2 n2 c2, .slice A3 n3 c3], .box b8 27 [.int .i64 (x1.Site), .slice A4 n4 c4, .slice A5 n5 c5, .slice A6 n6 c6], .row (.slice (some ⟨b9, 0, none⟩) 2 2) 27 4 2 [.int .i64 (x0.Site), .slice A1 n1 c1, .slice A2 n2 c2, .slice A3 n3 c3, .int .i64 (x1.Site), .slice A4 n4 c4, .slice A5 n5 c5, .slice A6 n6 c6]] := hM
  refine RW.store hM 0 (.agg #[.int .i64 ((ix ([x0, x1] : List api_Point) v13).Site), .slice A18 n18 c18, .slice A19 n19 c19, .slice A20 n20 c20]) [.int .i64 ((ix ([x0, x1] : List api_Point) v13).Site), .slice A18 n18 c18, .slice A19 n19 c19, .slice A20 n20 c20] [.int .i64 ((ix ([x0, x1] : List api_Point) v13).Site), .slice A18 n18 c18, .slice A19 n19 c19, .slice A20 n20 c20] sz27 rfl rfl rfl (oneAll ⟨rfl, rfl, rfl, rfl, trivial⟩) rfl (Nat.le_of_ble_eq_true rfl) rfl [.box b22 27 [.int .i64 ((ix ([x0, x1] : List api_Point) v13).Site), .slice A18 n18 c18, .slice A19 n19 c19, .slice A20 n20 c20], .box b7 27 [.int .i64 (x0.Site), .slice A1 n1 c1, .slice A2 n2 c2, .slice A3 n3 c3], .box b8 27 [.int .i64 (x1.Site), .slice A4 n4 c4, .slice A5 n5 c5, .slice A6 n6 c6], .row (.slice (some ⟨b9, 0, none⟩) 2 2) 27 4 2 [.int .i64 (x0.Site), .slice A1 n1 c1, .slice A2 n2 c2, .slice A3 n3 c3, .int .i64 (x1.Site), .slice A4 n4 c4, .slice A5 n5 c5, .slice A6 n6 c6]] rfl rfl rfl ?_; intro w hM
  refine RW.nil <| CW.seq <| CW.region <| RW.st (Ex.loadA hM 0 [.int .i64 ((ix ([x0, x1] : List api_Point) v13).Site), .slice A18 n18 c18, .slice A19 n19 c19, .slice A20 n20 c20] ta27 rfl rfl rfl rfl) rfl ?_
  refine RW.callP hM (delta_Check_lift (ix ([x0, x1] : List api_Point) v13) hF18 hF19 hF20 hm) en40 rfl rfl rfl rfl ?_; rintro _ w H24 _ hle25 ⟨v23, hm, rfl, rfl⟩ hM
  replace hM : Mem w0 H w H24 [.box b22 27 [.int .i64 ((ix ([x0, x1] : List api_Point) v13).Site), .slice A18 n18 c18, .slice A19 n19 c19, .slice A20 n20 c20], .box b7 27 [.int .i64 (x0.Site), .slice A1 n1 c1, .slice A2 n2 c2, .slice A3 n3 c3], .box b8 27 [.int .i64 (x1.Site), .slice A4 n4 c4, .slice A5 n5 c5, .slice A6 n6 c6], .row (.slice (some ⟨b9, 0, none⟩) 2 2) 27 4 2 [.int .i64 (x0.Site), .slice A1 n1 c1, .slice A2 n2 c2, .slice A3 n3 c3, .int .i64 (x1.Site), .slice A4 n4 c4, .slice A5 n5 c5, .slice A6 n6 c6]] := hM
  refine RW.st (Ex.assign (.int .i64 (v23)) rfl) rfl <| RW.nil <| CW.seq <| CW.region <| RW.st (Ex.move (.int .i64 (v23)) rfl) rfl <| RW.st (Ex.neq rfl rfl) rfl <| RW.nil ?_
  refine CW.cond_dec (p := v23 ≠ 0) rfl (fun hc26 => ?_) (fun hc26 => ?_)
  ·
   replace hm := And.left hm hc26
   refine CW.seq <| CW.region <| RW.st (Ex.move (.int .i64 (v23)) rfl) rfl <| RW.st (Ex.assign (.slice none 0 0) rfl) rfl <| RW.st (Ex.assign (.int .i64 (v23)) rfl) rfl <| RW.nil <| CW.ret ?_
   refine blockQ_ret (thenQ_ret (thenQ_ret (blockQ_ret (thenQ_ret ?_))))
   refine end_tmp2 (.inl rfl) rfl (.slice none 0 0) (.int .i64 (v23)) rfl rfl ?_
   replace hM := hM.nilRow 68 1
   exact ⟨_, _, (hM.pick [0] rfl rfl), (([] : List (List api_Extent)), v23), hm, none, 0, 0, [], rfl, (DtL.nil : DtL _ [] ([] : List (List api_Extent))), rfl, rfl⟩
  ·
   replace hm := And.right hm hc26
   refine CW.skip <| CW.region ?_
   obtain ⟨hg27, hm⟩ := hm
   refine RW.st (Ex.add rfl rfl hg27.1 hg27.2) rfl <| RW.st (Ex.move (.int .i64 (v13 + 1)) rfl) rfl <| RW.nil ?_
   exact And.intro rfl ⟨k14, ⟨v13 + 1, H24, hle12.trans hle25, sl_canon ⟨rfl, rfl, rfl, rfl, rfl, trivial⟩, (hM.pick [1, 2, 3] rfl rfl), (by rw [hrec15]; exact hm)⟩, Nat.lt_succ_self _⟩
 ·
  replace hm := And.right hm hc16
  refine CW.exit ?_
  refine CW.seq <| CW.seq <| CW.region <| RW.st (Ex.fieldAddr fa27_3 rfl) rfl <| RW.st (Ex.load1 hM 0 to25 rfl rfl rfl) rfl <| RW.st (Ex.fieldAddr fa27_3 rfl) rfl <| RW.st (Ex.load1 hM 1 to25 rfl rfl rfl) rfl ?_
  refine RW.callP hM (delta_alike_lift x0.Image x1.Image (hF3.mono hle12) (hF6.mono hle12) hm) en98 rfl rfl rfl rfl ?_; rintro _ w H29 _ hle30 ⟨v28, hm, rfl, rfl⟩ hM
  replace hM : Mem w0 H w H29 [.box b7 27 [.int .i64 (x0.Site), .slice A1 n1 c1, .slice A2 n2 c2, .slice A3 n3 c3], .box b8 27 [.int .i64 (x1.Site), .slice A4 n4 c4, .slice A5 n5 c5, .slice A6 n6 c6], .row (.slice (some ⟨b9, 0, none⟩) 2 2) 27 4 2 [.int .i64 (x0.Site), .slice A1 n1 c1, .slice A2 n2 c2, .slice A3 n3 c3, .int .i64 (x1.Site), .slice A4 n4 c4, .slice A5 n5 c5, .slice A6 n6 c6]] := hM
  refine RW.st (Ex.not (p := v28 = true) (bvar _)) rfl <| RW.nil ?_
  refine CW.cond_dec (p := ¬ (v28 = true)) rfl (fun hc31 => ?_) (fun hc31 => ?_)
  ·
   replace hm := And.left hm hc31
   refine CW.seq <| CW.region <| RW.st (Ex.assign (.slice none 0 0) rfl) rfl <| RW.st (Ex.assign (.int .i64 (22)) rfl) rfl <| RW.nil <| CW.ret ?_
   refine thenQ_ret ?_
   refine end_tmp2 (.inl rfl) rfl (.slice none 0 0) (.int .i64 (22)) rfl rfl ?_
   replace hM := hM.nilRow 68 1
   exact ⟨_, _, (hM.pick [0] rfl rfl), (([] : List (List api_Extent)), 22), hm, none, 0, 0, [], rfl, (DtL.nil : DtL _ [] ([] : List (List api_Extent))), rfl, rfl⟩
  ·
   replace hm := And.right hm hc31
   refine CW.skip <| CW.seq <| CW.region <| RW.st (Ex.loadA hM 0 [.int .i64 (x0.Site), .slice A1 n1 c1, .slice A2 n2 c2, .slice A3 n3 c3] ta27 rfl rfl rfl rfl) rfl <| RW.st (Ex.loadA hM 1 [.int .i64 (x1.Site), .slice A4 n4 c4, .slice A5 n5 c5, .slice A6 n6 c6] ta27 rfl rfl rfl rfl) rfl ?_
   refine RW.callP hM (delta_marked_lift (hT.mono (hle12.trans hle30)) x0 x1 (hF1.mono (hle12.trans hle30)) (hF2.mono (hle12.trans hle30)) (hF3.mono (hle12.trans hle30)) (hF4.mono (hle12.trans hle30)) (hF5.mono (hle12.trans hle30)) (hF6.mono (hle12.trans hle30)) hm) en99 rfl rfl rfl rfl ?_; rintro _ w H33 _ hle34 ⟨v32, hm, A35, n35, c35, s35, rfl, hd36, hn37, rfl⟩ hM
   replace hM : Mem w0 H w H33 [.row (.slice A35 n35 c35) 68 1 n35 s35, .box b7 27 [.int .i64 (x0.Site), .slice A1 n1 c1, .slice A2 n2 c2, .slice A3 n3 c3], .box b8 27 [.int .i64 (x1.Site), .slice A4 n4 c4, .slice A5 n5 c5, .slice A6 n6 c6], .row (.slice (some ⟨b9, 0, none⟩) 2 2) 27 4 2 [.int .i64 (x0.Site), .slice A1 n1 c1, .slice A2 n2 c2, .slice A3 n3 c3, .int .i64 (x1.Site), .slice A4 n4 c4, .slice A5 n5 c5, .slice A6 n6 c6]] := hM
   refine RW.st (Ex.assign (.slice A35 n35 c35) rfl) rfl <| RW.st (Ex.assign (.int .i64 (0)) rfl) rfl <| RW.nil <| CW.ret ?_
   refine end_tmp2 (.inl rfl) rfl (.slice A35 n35 c35) (.int .i64 (0)) rfl rfl ?_
   exact ⟨_, _, (hM.pick [0] rfl rfl), (v32, 0), hm, A35, n35, c35, s35, rfl, hd36, hn37, rfl⟩
theorem coalesce_Check_1_lift {H : Hp} (x0 : api_Write) (y800 : List (List Sec)) {A1 : Option Addr} {n1 c1 : Nat} {s1 : List Value} (hF1 : Fz (α := Sec) H A1 n1 c1 x0.Data s1) {A2 : Option Addr} {n2 c2 : Nat} {s2 : List Value} (hF2 : Fz (α := List Sec) H A2 n2 c2 y800 s2) {b800 : Nat} (hb800 : H b800 = some (.cells [.slice A2 n2 c2].toArray 25 (0, 0))) {Φ : Int → Prop} (hm : coalesce_Check_1_W x0 y800 Φ) : RetP Tryd.prog 143 #[.agg #[.int .i64 (x0.Volume), .int .i64 (x0.Start), .slice A1 n1 c1], .pointer (some ⟨b800, 0, none⟩)] H (fun _ v L => ∃ y, Φ y ∧ v = .int .i64 (y) ∧ L = []) := by
 refine RetP.of_code Tryd.func143 rfl (Nat.le_of_ble_eq_true rfl) fun w0 hM => ?_
 refine CW.seq <| CW.region ?_
 refine RW.box hM (.agg #[.int .i64 (x0.Volume), .int .i64 (x0.Start), .slice A1 n1 c1]) [.int .i64 (x0.Volume), .int .i64 (x0.Start), .slice A1 n1 c1] rfl rfl rfl rfl ?_; intro b3 w hM
 replace hM : Mem w0 H w H [.box b3 100 [.int .i64 (x0.Volume), .int .i64 (x0.Start), .slice A1 n1 c1]] := hM
 refine RW.st (Ex.assign (.int .i64 (0)) rfl) rfl <| RW.nil <| CW.seq <| CW.region <| RW.st (Ex.loadH hM (Hp.le.refl _) hb800 to25 rfl rfl) rfl <| RW.st (Ex.loadA hM 0 [.int .i64 (x0.Volume), .int .i64 (x0.Start), .slice A1 n1 c1] ta100 rfl rfl rfl rfl) rfl ?_
 refine RW.callP hM (image_Fits_lift y800 x0 hF2 hF1 hm) en144 rfl rfl rfl rfl ?_; rintro _ w H5 _ hle6 ⟨v4, hm, rfl, rfl⟩ hM
 replace hM : Mem w0 H w H5 [.box b3 100 [.int .i64 (x0.Volume), .int .i64 (x0.Start), .slice A1 n1 c1]] := hM
 refine RW.st (Ex.assign (.int .i64 (v4)) rfl) rfl <| RW.nil <| CW.ret ?_
 refine end_tmp (.inl rfl) rfl (.int .i64 (v4)) rfl ?_
 exact ⟨_, _, (hM.pick [] rfl rfl), v4, hm, rfl, rfl⟩
theorem ref47_Extents_lift {H : Hp} (x0 : api_Point) (x1 : api_Point) {A1 : Option Addr} {n1 c1 : Nat} {s1 : List Value} (hF1 : Fz (α := api_Span) H A1 n1 c1 x0.Lineage s1) {A2 : Option Addr} {n2 c2 : Nat} {s2 : List Value} (hF2 : Fz (α := api_Bitmap) H A2 n2 c2 x0.Dirty s2) {A3 : Option Addr} {n3 c3 : Nat} {s3 : List Value} (hF3 : Fz (α := List Sec) H A3 n3 c3 x0.Image s3) {A4 : Option Addr} {n4 c4 : Nat} {s4 : List Value} (hF4 : Fz (α := api_Span) H A4 n4 c4 x1.Lineage s4) {A5 : Option Addr} {n5 c5 : Nat} {s5 : List Value} (hF5 : Fz (α := api_Bitmap) H A5 n5 c5 x1.Dirty s5) {A6 : Option Addr} {n6 c6 : Nat} {s6 : List Value} (hF6 : Fz (α := List Sec) H A6 n6 c6 x1.Image s6) {Φ : List (List api_Extent) × Int → Prop} (hm : ref47_Extents_W x0 x1 Φ) : RetP Tryd.prog 15 #[.agg #[.int .i64 (x0.Site), .slice A1 n1 c1, .slice A2 n2 c2, .slice A3 n3 c3], .agg #[.int .i64 (x1.Site), .slice A4 n4 c4, .slice A5 n5 c5, .slice A6 n6 c6]] H (fun H' v L => ∃ y, Φ y ∧ ∃ A15, ∃ n15, ∃ c15, ∃ s15, v = .tuple #[.slice A15 n15 c15, .int .i64 (y.2)] ∧ DtL (α := List api_Extent) H' s15 y.1 ∧ n15 = y.1.length ∧ L = [.row (.slice A15 n15 c15) 68 1 n15 s15]) := by
 refine RetP.of_code Tryd.func15 rfl (Nat.le_of_ble_eq_true rfl) fun w0 hM => ?_
 refine CW.seq <| CW.region ?_
 refine RW.box hM (.agg #[.int .i64 (x0.Site), .slice A1 n1 c1, .slice A2 n2 c2, .slice A3 n3 c3]) [.int .i64 (x0.Site), .slice A1 n1 c1, .slice A2 n2 c2, .slice A3 n3 c3] rfl rfl rfl rfl ?_; intro b7 w hM
 replace hM : Mem w0 H w H [.box b7 27 [.int .i64 (x0.Site), .slice A1 n1 c1, .slice A2 n2 c2, .slice A3 n3 c3]] := hM
 refine RW.box hM (.agg #[.int .i64 (x1.Site), .slice A4 n4 c4, .slice A5 n5 c5, .slice A6 n6 c6]) [.int .i64 (x1.Site), .slice A4 n4 c4, .slice A5 n5 c5, .slice A6 n6 c6] rfl rfl rfl rfl ?_; intro b8 w hM
 replace hM : Mem w0 H w H [.box b8 27 [.int .i64 (x1.Site), .slice A4 n4 c4, .slice A5 n5 c5, .slice A6 n6 c6], .box b7 27 [.int .i64 (x0.Site), .slice A1 n1 c1, .slice A2 n2 c2, .slice A3 n3 c3]] := hM
 refine RW.st (Ex.assign (.slice none 0 0) rfl) rfl <| RW.st (Ex.assign (.int .i64 (0)) rfl) rfl <| RW.nil <| CW.seq <| CW.region <| RW.st (Ex.loadA hM 1 [.int .i64 (x0.Site), .slice A1 n1 c1, .slice A2 n2 c2, .slice A3 n3 c3] ta27 rfl rfl rfl rfl) rfl <| RW.st (Ex.loadA hM 0 [.int .i64 (x1.Site), .slice A4 n4 c4, .slice A5 n5 c5, .slice A6 n6 c6] ta27 rfl rfl rfl rfl) rfl ?_
 refine RW.callP hM (ref46_Between_lift x0 x1 hF1 hF2 hF3 hF4 hF5 hF6 hm) en48 rfl rfl rfl rfl ?_; rintro _ w H10 _ hle11 ⟨v9, hm, A12, n12, c12, s12, rfl, hd13, hn14, rfl⟩ hM
 replace hM : Mem w0 H w H10 [.row (.slice A12 n12 c12) 68 1 n12 s12, .box b8 27 [.int .i64 (x1.Site), .slice A4 n4 c4, .slice A5 n5 c5, .slice A6 n6 c6], .box b7 27 [.int .i64 (x0.Site), .slice A1 n1 c1, .slice A2 n2 c2, .slice A3 n3 c3]] := hM
 refine RW.st (Ex.extract rfl rfl) rfl <| RW.st (Ex.extract rfl rfl) rfl <| RW.st (Ex.assign (.slice A12 n12 c12) rfl) rfl <| RW.st (Ex.assign (.int .i64 (v9.2)) rfl) rfl <| RW.nil <| CW.ret ?_
 refine end_tmp2 (.inl rfl) rfl (.slice A12 n12 c12) (.int .i64 (v9.2)) rfl rfl ?_
 exact ⟨_, _, (hM.pick [0] rfl rfl), (v9.1, v9.2), hm, A12, n12, c12, s12, rfl, hd13, hn14, rfl⟩
end Go.Proofs.YtahlanamngfkcaaDoor

namespace Go.Proofs.YtahlanamngfkcaaDoor
open Go.RowKit
theorem reverse_Extents_lift {H : Hp} (hT : TabH H 0) (x0 : api_Point) (x1 : api_Point) {A1 : Option Addr} {n1 c1 : Nat} {s1 : List Value} (hF1 : Fz (α := api_Span) H A1 n1 c1 x0.Lineage s1) {A2 : Option Addr} {n2 c2 : Nat} {s2 : List Value} (hF2 : Fz (α := api_Bitmap) H A2 n2 c2 x0.Dirty s2) {A3 : Option Addr} {n3 c3 : Nat} {s3 : List Value} (hF3 : Fz (α := List Sec) H A3 n3 c3 x0.Image s3) {A4 : Option Addr} {n4 c4 : Nat} {s4 : List Value} (hF4 : Fz (α := api_Span) H A4 n4 c4 x1.Lineage s4) {A5 : Option Addr} {n5 c5 : Nat} {s5 : List Value} (hF5 : Fz (α := api_Bitmap) H A5 n5 c5 x1.Dirty s5) {A6 : Option Addr} {n6 c6 : Nat} {s6 : List Value} (hF6 : Fz (α := List Sec) H A6 n6 c6 x1.Image s6) {Φ : List (List api_Extent) × Int → Prop} (hm : reverse_Extents_W x0 x1 Φ) : RetP Tryd.prog 14 #[.agg #[.int .i64 (x0.Site), .slice A1 n1 c1, .slice A2 n2 c2, .slice A3 n3 c3], .agg #[.int .i64 (x1.Site), .slice A4 n4 c4, .slice A5 n5 c5, .slice A6 n6 c6]] H (fun H' v L => ∃ y, Φ y ∧ ∃ A15, ∃ n15, ∃ c15, ∃ s15, v = .tuple #[.slice A15 n15 c15, .int .i64 (y.2)] ∧ DtL (α := List api_Extent) H' s15 y.1 ∧ n15 = y.1.length ∧ L = [.row (.slice A15 n15 c15) 68 1 n15 s15]) := by
 refine RetP.of_code Tryd.func14 rfl (Nat.le_of_ble_eq_true rfl) fun w0 hM => ?_
 refine CW.seq <| CW.region ?_
 refine RW.box hM (.agg #[.int .i64 (x0.Site), .slice A1 n1 c1, .slice A2 n2 c2, .slice A3 n3 c3]) [.int .i64 (x0.Site), .slice A1 n1 c1, .slice A2 n2 c2, .slice A3 n3 c3] rfl rfl rfl rfl ?_; intro b7 w hM
 replace hM : Mem w0 H w H [.box b7 27 [.int .i64 (x0.Site), .slice A1 n1 c1, .slice A2 n2 c2, .slice A3 n3 c3]] := hM
 refine RW.box hM (.agg #[.int .i64 (x1.Site), .slice A4 n4 c4, .slice A5 n5 c5, .slice A6 n6 c6]) [.int .i64 (x1.Site), .slice A4 n4 c4, .slice A5 n5 c5, .slice A6 n6 c6] rfl rfl rfl rfl ?_; intro b8 w hM
 replace hM : Mem w0 H w H [.box b8 27 [.int .i64 (x1.Site), .slice A4 n4 c4, .slice A5 n5 c5, .slice A6 n6 c6], .box b7 27 [.int .i64 (x0.Site), .slice A1 n1 c1, .slice A2 n2 c2, .slice A3 n3 c3]] := hM
 refine RW.st (Ex.assign (.slice none 0 0) rfl) rfl <| RW.st (Ex.assign (.int .i64 (0)) rfl) rfl <| RW.nil <| CW.seq <| CW.region <| RW.st (Ex.loadA hM 1 [.int .i64 (x0.Site), .slice A1 n1 c1, .slice A2 n2 c2, .slice A3 n3 c3] ta27 rfl rfl rfl rfl) rfl <| RW.st (Ex.loadA hM 0 [.int .i64 (x1.Site), .slice A4 n4 c4, .slice A5 n5 c5, .slice A6 n6 c6] ta27 rfl rfl rfl rfl) rfl ?_
 refine RW.callP hM (delta_Between_lift hT x0 x1 hF1 hF2 hF3 hF4 hF5 hF6 hm) en47 rfl rfl rfl rfl ?_; rintro _ w H10 _ hle11 ⟨v9, hm, A12, n12, c12, s12, rfl, hd13, hn14, rfl⟩ hM
 replace hM : Mem w0 H w H10 [.row (.slice A12 n12 c12) 68 1 n12 s12, .box b8 27 [.int .i64 (x1.Site), .slice A4 n4 c4, .slice A5 n5 c5, .slice A6 n6 c6], .box b7 27 [.int .i64 (x0.Site), .slice A1 n1 c1, .slice A2 n2 c2, .slice A3 n3 c3]] := hM
 refine RW.st (Ex.extract rfl rfl) rfl <| RW.st (Ex.extract rfl rfl) rfl <| RW.st (Ex.assign (.slice A12 n12 c12) rfl) rfl <| RW.st (Ex.assign (.int .i64 (v9.2)) rfl) rfl <| RW.nil <| CW.ret ?_
 refine end_tmp2 (.inl rfl) rfl (.slice A12 n12 c12) (.int .i64 (v9.2)) rfl rfl ?_
 exact ⟨_, _, (hM.pick [0] rfl rfl), (v9.1, v9.2), hm, A12, n12, c12, s12, rfl, hd13, hn14, rfl⟩
theorem coalesce_check__coalesce_Check_1_lift {H : Hp} (x0 : List api_Write) (y910 : List (List Sec)) {A1 : Option Addr} {n1 c1 : Nat} {s1 : List Value} (hF1 : Fz (α := api_Write) H A1 n1 c1 x0 s1) {A2 : Option Addr} {n2 c2 : Nat} {s2 : List Value} (hF2 : Fz (α := List Sec) H A2 n2 c2 y910 s2) {b910 : Nat} (hb910 : H b910 = some (.cells [.slice A2 n2 c2].toArray 25 (0, 0))) {Φ : Int → Prop} (hm : coalesce_check__coalesce_Check_1_W x0 y910 Φ) : RetP Tryd.prog 142 #[.slice A1 n1 c1, .func (.func 143) #[] #[.pointer (some ⟨b910, 0, none⟩)]] H (fun _ v L => ∃ y, Φ y ∧ v = .int .i64 (y) ∧ L = []) := by
 refine RetP.of_code Tryd.func142 rfl (Nat.le_of_ble_eq_true rfl) fun w0 hM => ?_
 refine CW.seq <| CW.region <| RW.st (Ex.assign (.int .i64 (0)) rfl) rfl <| RW.nil <| CW.seq <| CW.seq <| CW.region <| RW.st (Ex.move (.slice A1 n1 c1) rfl) rfl <| RW.st (Ex.lenN st43.1 rfl hF1.hn) rfl <| RW.st (Ex.move (.int .i64 (0)) rfl) rfl <| RW.nil <| CW.block ?_
 obtain ⟨m33, hm⟩ := hm
 skip
 refine CW.loop (β := Nat) (fun n σ w => ∃ (v5 : Int), ∃ Hk3, H.le Hk3 ∧ (∃ τ, σ = sl [(0, .slice A1 n1 c1), (1, .func (.func 143) #[] #[.pointer (some ⟨b910, 0, none⟩)]), (9, .slice A1 n1 c1), (10, .int .i64 ((x0.length : Int))), (11, .int .i64 (v5))] τ) ∧ Mem w0 H w Hk3 [] ∧ LoopN (coalesce_check__coalesce_Check_1_L1 x0 y910 Φ) n (v5)) (fun n => n) m33 ⟨0, H, (Hp.le.refl _), sl_canon ⟨rfl, rfl, rfl, rfl, rfl, trivial⟩, hM, hm⟩ ?_
 rintro k6 _ w ⟨v5, Hk3, hle4, ⟨τ, rfl⟩, hM, hm⟩
 obtain _ | k6 := k6
 · exact hm.elim
 replace hm : (coalesce_check__coalesce_Check_1_L1 x0 y910 Φ) (v5) (LoopN (coalesce_check__coalesce_Check_1_L1 x0 y910 Φ) k6) := hm
 generalize hrec7 : LoopN (coalesce_check__coalesce_Check_1_L1 x0 y910 Φ) k6 = rec1 at hm
 refine CW.seq <| CW.region <| RW.st (Ex.lss rfl rfl) rfl <| RW.nil <| CW.seq ?_
 refine CW.cond_dec (p := v5 < (x0.length : Int)) rfl (fun hc8 => ?_) (fun hc8 => ?_)
 ·
  replace hm := And.left hm hc8
  refine CW.skip <| CW.seq <| CW.block <| CW.seq <| CW.region <| RW.st (Ex.move (.int .i64 (v5)) rfl) rfl ?_
  obtain ⟨hg12, hm⟩ := hm
  refine RW.st (Ex.index st43 rfl rfl v5.toNat (hF1.ne hg12) hg12.nat (hF1.lt hg12)) rfl ?_
  obtain ⟨_, ⟨A13, n13, c13, s13, rfl, hF13⟩, hx14⟩ := DtL.getI (α := api_Write) (hF1.mono hle4).dat hg12
  refine RW.st (Ex.loadEA hM hle4 hF1.rdc [.int .i64 ((ix x0 v5).Volume), .int .i64 ((ix x0 v5).Start), .slice A13 n13 c13] ta100 rfl (hF1.ne hg12) rfl (chunk_sub (off := 0) (n := 3) hx14 rfl)) rfl ?_
  refine RW.alloc hM tz100 [.int .i64 (0), .int .i64 (0), .slice none 0 0] rfl rfl rfl ?_; intro b15 w hM
  replace hM : Mem w0 H w Hk3 [.box b15 100 [.int .i64 (0), .int .i64 (0), .slice none 0 0]] := hM
  refine RW.st (Ex.assign (.int .i64 (v5)) rfl) rfl ?_
  refine RW.store hM 0 (.agg #[.int .i64 ((ix x0 v5).Volume), .int .i64 ((ix x0 v5).Start), .slice A13 n13 c13]) [.int .i64 ((ix x0 v5).Volume), .int .i64 ((ix x0 v5).Start), .slice A13 n13 c13] [.int .i64 ((ix x0 v5).Volume), .int .i64 ((ix x0 v5).Start), .slice A13 n13 c13] sz100 rfl rfl rfl (oneAll ⟨rfl, rfl, rfl, trivial⟩) rfl (Nat.le_of_ble_eq_true rfl) rfl [.box b15 100 [.int .i64 ((ix x0 v5).Volume), .int .i64 ((ix x0 v5).Start), .slice A13 n13 c13]] rfl rfl rfl ?_; intro w hM
  refine RW.nil <| CW.seq <| CW.seq <| CW.region <| RW.st (Ex.move (.func (.func 143) #[] #[.pointer (some ⟨b910, 0, none⟩)]) rfl) rfl <| RW.st (Ex.loadA hM 0 [.int .i64 ((ix x0 v5).Volume), .int .i64 ((ix x0 v5).Start), .slice A13 n13 c13] ta100 rfl rfl rfl rfl) rfl ?_
  refine RW.callP hM (coalesce_Check_1_lift (ix x0 v5) y910 hF13 (hF2.mono hle4) (hle4 _ _ hb910) hm) en143 rfl rfl rfl rfl ?_; rintro _ w H17 _ hle18 ⟨v16, hm, rfl, rfl⟩ hM
  replace hM : Mem w0 H w H17 [.box b15 100 [.int .i64 ((ix x0 v5).Volume), .int .i64 ((ix x0 v5).Start), .slice A13 n13 c13]] := hM
  refine RW.st (Ex.assign (.int .i64 (v16)) rfl) rfl <| RW.nil <| CW.seq <| CW.region <| RW.st (Ex.move (.int .i64 (v16)) rfl) rfl <| RW.st (Ex.neq rfl rfl) rfl <| RW.nil ?_
  refine CW.cond_dec (p := v16 ≠ 0) rfl (fun hc19 => ?_) (fun hc19 => ?_)
  ·
   replace hm := And.left hm hc19
   refine CW.seq <| CW.region <| RW.st (Ex.move (.int .i64 (v16)) rfl) rfl <| RW.st (Ex.assign (.int .i64 (v16)) rfl) rfl <| RW.nil <| CW.ret ?_
   refine thenQ_ret (blockQ_ret (thenQ_ret (thenQ_ret (blockQ_ret (thenQ_ret ?_)))))
   refine end_tmp (.inl rfl) rfl (.int .i64 (v16)) rfl ?_
   exact ⟨_, _, (hM.pick [] rfl rfl), v16, hm, rfl, rfl⟩
  ·
   replace hm := And.right hm hc19
   refine CW.skip <| CW.seq <| CW.seq <| CW.region <| RW.st (Ex.move (.int .i64 (v5)) rfl) rfl <| RW.st (Ex.eql rfl rfl) rfl <| RW.nil ?_
   refine CW.cond_dec (p := v5 = 0) rfl (fun hc20 => ?_) (fun hc20 => ?_)
   ·
    replace hm := And.left hm hc20
    refine CW.exit ?_
    refine CW.region ?_
    obtain ⟨hg21, hm⟩ := hm
    refine RW.st (Ex.add rfl rfl hg21.1 hg21.2) rfl <| RW.st (Ex.move (.int .i64 (v5 + 1)) rfl) rfl <| RW.nil ?_
    exact And.intro rfl ⟨k6, ⟨v5 + 1, H17, hle4.trans hle18, sl_canon ⟨rfl, rfl, rfl, rfl, rfl, trivial⟩, (hM.pick [] rfl rfl), (by rw [hrec7]; exact hm)⟩, Nat.lt_succ_self _⟩
   ·
    replace hm := And.right hm hc20
    refine CW.skip <| CW.seq <| CW.region <| RW.st (Ex.move (.slice A1 n1 c1) rfl) rfl <| RW.st (Ex.move (.int .i64 (v5)) rfl) rfl ?_
    obtain ⟨hg22, hm⟩ := hm
    refine RW.st (Ex.sub rfl rfl hg22.1 hg22.2) rfl ?_
    obtain ⟨hg23, hm⟩ := hm
    refine RW.st (Ex.index st43 rfl rfl ((v5 - 1).toNat) (hF1.ne hg23) hg23.nat (hF1.lt hg23)) rfl ?_
    obtain ⟨_, ⟨A24, n24, c24, s24, rfl, hF24⟩, hx25⟩ := DtL.getI (α := api_Write) (hF1.mono (hle4.trans hle18)).dat hg23
    refine RW.st (Ex.loadEA hM (hle4.trans hle18) hF1.rdc [.int .i64 ((ix x0 (v5 - 1)).Volume), .int .i64 ((ix x0 (v5 - 1)).Start), .slice A24 n24 c24] ta100 rfl (hF1.ne hg23) rfl (chunk_sub (off := 0) (n := 3) hx25 rfl)) rfl ?_
    refine RW.alloc hM tz100 [.int .i64 (0), .int .i64 (0), .slice none 0 0] rfl rfl rfl ?_; intro b26 w hM
    replace hM : Mem w0 H w H17 [.box b26 100 [.int .i64 (0), .int .i64 (0), .slice none 0 0], .box b15 100 [.int .i64 ((ix x0 v5).Volume), .int .i64 ((ix x0 v5).Start), .slice A13 n13 c13]] := hM
    refine RW.store hM 0 (.agg #[.int .i64 ((ix x0 (v5 - 1)).Volume), .int .i64 ((ix x0 (v5 - 1)).Start), .slice A24 n24 c24]) [.int .i64 ((ix x0 (v5 - 1)).Volume), .int .i64 ((ix x0 (v5 - 1)).Start), .slice A24 n24 c24] [.int .i64 ((ix x0 (v5 - 1)).Volume), .int .i64 ((ix x0 (v5 - 1)).Start), .slice A24 n24 c24] sz100 rfl rfl rfl (oneAll ⟨rfl, rfl, rfl, trivial⟩) rfl (Nat.le_of_ble_eq_true rfl) rfl [.box b26 100 [.int .i64 ((ix x0 (v5 - 1)).Volume), .int .i64 ((ix x0 (v5 - 1)).Start), .slice A24 n24 c24], .box b15 100 [.int .i64 ((ix x0 v5).Volume), .int .i64 ((ix x0 v5).Start), .slice A13 n13 c13]] rfl rfl rfl ?_; intro w hM
    refine RW.nil ?_
    obtain ⟨hG32, hm⟩ := hm
    refine CW.cut (fun D σ w => D = [] ∧ (∃ τ, σ = sl [(0, .slice A1 n1 c1), (1, .func (.func 143) #[] #[.pointer (some ⟨b910, 0, none⟩)]), (9, .slice A1 n1 c1), (10, .int .i64 ((x0.length : Int))), (11, .int .i64 (v5)), (51, .bool (decide ((((ix x0 v5).Volume) < ((ix x0 (v5 - 1)).Volume)) ∨ ((((ix x0 v5).Volume) = ((ix x0 (v5 - 1)).Volume)) ∧ (((ix x0 v5).Start) ≤ (((ix x0 (v5 - 1)).Start) + (((ix x0 (v5 - 1)).Data).length : Int)))))))] τ) ∧ Mem w0 H w H17 [.box b26 100 [.int .i64 ((ix x0 (v5 - 1)).Volume), .int .i64 ((ix x0 (v5 - 1)).Start), .slice A24 n24 c24], .box b15 100 [.int .i64 ((ix x0 v5).Volume), .int .i64 ((ix x0 v5).Start), .slice A13 n13 c13]]) ?_ ?_
    ·
     replace hm := hG32
     refine CW.region <| RW.st (Ex.fieldAddr fa100_0 rfl) rfl <| RW.st (Ex.load1 hM 1 to3 rfl rfl rfl) rfl <| RW.st (Ex.fieldAddr fa100_0 rfl) rfl <| RW.st (Ex.load1 hM 0 to3 rfl rfl rfl) rfl <| RW.st (Ex.lss rfl rfl) rfl <| RW.st (Ex.move (.bool (decide (((ix x0 v5).Volume) < ((ix x0 (v5 - 1)).Volume)))) rfl) rfl ?_
     refine RW.split 34 (p := ((ix x0 v5).Volume) < ((ix x0 (v5 - 1)).Volume)) rfl (fun hc27 => ?_) (fun hc27 => ?_)
     ·
      skip
      refine RW.pass rfl rfl <| RW.pass rfl rfl <| RW.pass rfl rfl <| RW.pass rfl rfl <| RW.pass rfl rfl <| RW.pass rfl rfl <| RW.pass rfl rfl <| RW.pass rfl rfl <| RW.pass rfl rfl <| RW.pass rfl rfl <| RW.pass rfl rfl <| RW.pass rfl rfl <| RW.pass rfl rfl <| RW.pass rfl rfl ?_
      refine RW.pass rfl rfl <| RW.pass rfl rfl <| RW.st (Ex.pickT (.bool true) rfl rfl) rfl <| RW.nil ?_
      exact And.intro rfl (And.intro (sl_canon ⟨rfl, rfl, rfl, rfl, rfl, (congrArg Value.bool (decide_eq_true (.inl hc27)).symm), trivial⟩) hM)
     ·
      replace hm := hm hc27
      refine RW.st (Ex.fieldAddr fa100_0 rfl) rfl <| RW.st (Ex.load1 hM 1 to3 rfl rfl rfl) rfl <| RW.st (Ex.fieldAddr fa100_0 rfl) rfl <| RW.st (Ex.load1 hM 0 to3 rfl rfl rfl) rfl <| RW.st (Ex.eql rfl rfl) rfl <| RW.st (Ex.move (.bool (decide (((ix x0 v5).Volume) = ((ix x0 (v5 - 1)).Volume)))) rfl) rfl ?_
      refine RW.split 40 (p := ((ix x0 v5).Volume) = ((ix x0 (v5 - 1)).Volume)) rfl (fun hc28 => ?_) (fun hc28 => ?_)
      ·
       replace hm := hm hc28
       refine RW.st (Ex.fieldAddr fa100_1 rfl) rfl <| RW.st (Ex.load1 hM 1 to3 rfl rfl rfl) rfl <| RW.st (Ex.fieldAddr fa100_1 rfl) rfl <| RW.st (Ex.load1 hM 0 to3 rfl rfl rfl) rfl <| RW.st (Ex.fieldAddr fa100_2 rfl) rfl <| RW.st (Ex.load1 hM 0 to61 rfl rfl rfl) rfl <| RW.st (Ex.lenN st61.1 rfl hF24.hn) rfl ?_
       have hg29 := hm
       refine RW.st (Ex.add rfl rfl hg29.1 hg29.2) rfl <| RW.st (Ex.leq rfl rfl) rfl <| RW.st (Ex.pickT (.bool (decide (((ix x0 v5).Start) ≤ (((ix x0 (v5 - 1)).Start) + (((ix x0 (v5 - 1)).Data).length : Int))))) rfl rfl) rfl <| RW.st (Ex.pickF (.bool (decide (((ix x0 v5).Start) ≤ (((ix x0 (v5 - 1)).Start) + (((ix x0 (v5 - 1)).Data).length : Int))))) rfl rfl) rfl <| RW.nil ?_
       exact And.intro rfl (And.intro (sl_canon ⟨rfl, rfl, rfl, rfl, rfl, (congrArg Value.bool (decide_eq_decide.2 (imOr hc27 (imAnd hc28 Iff.rfl)))), trivial⟩) hM)
      ·
       skip
       refine RW.pass rfl rfl <| RW.pass rfl rfl <| RW.pass rfl rfl <| RW.pass rfl rfl <| RW.pass rfl rfl <| RW.pass rfl rfl <| RW.pass rfl rfl <| RW.pass rfl rfl <| RW.pass rfl rfl <| RW.st (Ex.pickF (.bool false) rfl rfl) rfl <| RW.st (Ex.pickF (.bool false) rfl rfl) rfl <| RW.nil ?_
       exact And.intro rfl (And.intro (sl_canon ⟨rfl, rfl, rfl, rfl, rfl, (congrArg Value.bool (decide_eq_false (fun q => q.elim hc27 (fun q => hc28 q.1))).symm), trivial⟩) hM)
    rintro _ _ w ⟨rfl, ⟨τ, rfl⟩, hM⟩
    refine CW.cond_dec (p := (((ix x0 v5).Volume) < ((ix x0 (v5 - 1)).Volume)) ∨ ((((ix x0 v5).Volume) = ((ix x0 (v5 - 1)).Volume)) ∧ (((ix x0 v5).Start) ≤ (((ix x0 (v5 - 1)).Start) + (((ix x0 (v5 - 1)).Data).length : Int))))) rfl (fun hc30 => ?_) (fun hc30 => ?_)
    ·
     replace hm := And.left hm hc30
     refine CW.seq <| CW.region <| RW.st (Ex.assign (.int .i64 (3)) rfl) rfl <| RW.nil <| CW.ret ?_
     refine blockQ_ret (thenQ_ret (thenQ_ret (blockQ_ret (thenQ_ret ?_))))
     refine end_tmp (.inl rfl) rfl (.int .i64 (3)) rfl ?_
     exact ⟨_, _, (hM.pick [] rfl rfl), 3, hm, rfl, rfl⟩
    ·
     replace hm := And.right hm hc30
     refine CW.skip <| CW.region ?_
     obtain ⟨hg31, hm⟩ := hm
     refine RW.st (Ex.add rfl rfl hg31.1 hg31.2) rfl <| RW.st (Ex.move (.int .i64 (v5 + 1)) rfl) rfl <| RW.nil ?_
     exact And.intro rfl ⟨k6, ⟨v5 + 1, H17, hle4.trans hle18, sl_canon ⟨rfl, rfl, rfl, rfl, rfl, trivial⟩, (hM.pick [] rfl rfl), (by rw [hrec7]; exact hm)⟩, Nat.lt_succ_self _⟩
 ·
  replace hm := And.right hm hc8
  refine CW.exit ?_
  refine CW.seq <| CW.region <| RW.st (Ex.assign (.int .i64 (0)) rfl) rfl <| RW.nil <| CW.ret ?_
  refine end_tmp (.inl rfl) rfl (.int .i64 (0)) rfl ?_
  exact ⟨_, _, hM, 0, hm, rfl, rfl⟩
end Go.Proofs.YtahlanamngfkcaaDoor

namespace Go.Proofs.YtahlanamngfkcaaDoor
open Go.RowKit
theorem coalesce_Check_lift {H : Hp} (x0 : List api_Write) (x1 : List Int) {A1 : Option Addr} {n1 c1 : Nat} {s1 : List Value} (hF1 : Fz (α := api_Write) H A1 n1 c1 x0 s1) {A2 : Option Addr} {n2 c2 : Nat} {s2 : List Value} (hF2 : Fz (α := Int) H A2 n2 c2 x1 s2) {Φ : Int → Prop} (hm : coalesce_Check_W x0 x1 Φ) : RetP Tryd.prog 105 #[.slice A1 n1 c1, .slice A2 n2 c2] H (fun _ v L => ∃ y, Φ y ∧ v = .int .i64 (y) ∧ L = []) := by
 refine RetP.of_code Tryd.func105 rfl (Nat.le_of_ble_eq_true rfl) fun w0 hM => ?_
 refine CW.seq <| CW.region <| RW.st (Ex.assign (.int .i64 (0)) rfl) rfl <| RW.nil <| CW.seq <| CW.region <| RW.st (Ex.move (.slice A2 n2 c2) rfl) rfl ?_
 refine RW.callP hM (image_New_lift x1 hF2 hm) en102 rfl rfl rfl rfl ?_; rintro _ w H4 _ hle5 ⟨v3, hm, A6, n6, c6, s6, rfl, hF6, rfl⟩ hM
 replace hM : Mem w0 H w H4 [] := hM
 refine RW.st (Ex.move (.tuple #[.slice A6 n6 c6, .int .i64 (v3.2)]) rfl) rfl <| RW.st (Ex.extract rfl rfl) rfl <| RW.st (Ex.extract rfl rfl) rfl ?_
 refine RW.alloc hM tz25 [.slice none 0 0] rfl rfl rfl ?_; intro b7 w hM
 replace hM : Mem w0 H w H4 [.box b7 25 [.slice none 0 0]] := hM
 refine RW.store hM 0 (.slice A6 n6 c6) [.slice A6 n6 c6] [.slice A6 n6 c6] sz25 rfl rfl rfl (oneAll ⟨rfl, trivial⟩) rfl (Nat.le_of_ble_eq_true rfl) rfl [.box b7 25 [.slice A6 n6 c6]] rfl rfl rfl ?_; intro w hM
 refine RW.st (Ex.assign (.int .i64 (v3.2)) rfl) rfl <| RW.nil <| CW.seq <| CW.seq <| CW.region <| RW.st (Ex.move (.int .i64 (v3.2)) rfl) rfl <| RW.st (Ex.neq rfl rfl) rfl <| RW.nil ?_
 refine CW.cond_dec (p := v3.2 ≠ 0) rfl (fun hc8 => ?_) (fun hc8 => ?_)
 ·
  replace hm := And.left hm hc8
  refine CW.seq <| CW.region <| RW.st (Ex.move (.int .i64 (v3.2)) rfl) rfl <| RW.st (Ex.assign (.int .i64 (v3.2)) rfl) rfl <| RW.nil <| CW.ret ?_
  refine thenQ_ret ?_
  refine end_tmp (.inl rfl) rfl (.int .i64 (v3.2)) rfl ?_
  exact ⟨_, _, (hM.pick [] rfl rfl), v3.2, hm, rfl, rfl⟩
 ·
  replace hm := And.right hm hc8
  refine CW.skip <| CW.seq <| CW.region <| RW.st (Ex.move (.slice A1 n1 c1) rfl) rfl <| RW.st (Ex.makeFunc (fs := []) (cs := [.pointer (some ⟨b7, 0, none⟩)]) rfl rfl) rfl ?_
  have hM1 := hM
  obtain ⟨H9, hM, hle10, hb11⟩ := hM.giveBox 0 rfl
  replace hM : Mem w0 H w H9 [] := hM
  refine RW.callB hM1 hM (coalesce_check__coalesce_Check_1_lift x0 v3.1 (hF1.mono (hle5.trans hle10)) (hF6.mono hle10) hb11 hm) en142 rfl rfl rfl rfl ?_; clear hM hM1; intro v12 w hm hM
  replace hM : Mem w0 H w H4 [.box b7 25 [.slice A6 n6 c6]] := hM
  refine RW.st (Ex.assign (.int .i64 (v12)) rfl) rfl <| RW.nil <| CW.ret ?_
  refine end_tmp (.inl rfl) rfl (.int .i64 (v12)) rfl ?_
  exact ⟨_, _, (hM.pick [] rfl rfl), v12, hm, rfl, rfl⟩
end Go.Proofs.YtahlanamngfkcaaDoor

namespace Go.Proofs.YtahlanamngfkcaaDoor
open Go.RowKit
theorem cycle_Check_lift {H : Hp} (x0 : api_Cycle) (x1 : List Int) {A1 : Option Addr} {n1 c1 : Nat} {s1 : List Value} (hF1 : Fz (α := Int) H A1 n1 c1 x0.Positions s1) {A2 : Option Addr} {n2 c2 : Nat} {s2 : List Value} (hF2 : Fz (α := api_Write) H A2 n2 c2 x0.Writes s2) {A3 : Option Addr} {n3 c3 : Nat} {s3 : List Value} (hF3 : Fz (α := Int) H A3 n3 c3 x1 s3) {Φ : Int → Prop} (hm : cycle_Check_W x0 x1 Φ) : RetP Tryd.prog 53 #[.agg #[.int .i64 (x0.Base), .int .i64 (x0.Number), .int .i64 (x0.Time), .slice A1 n1 c1, .slice A2 n2 c2], .slice A3 n3 c3] H (fun _ v L => ∃ y, Φ y ∧ v = .int .i64 (y) ∧ L = []) := by
 refine RetP.of_code Tryd.func53 rfl (Nat.le_of_ble_eq_true rfl) fun w0 hM => ?_
 refine CW.seq <| CW.region ?_
 refine RW.box hM (.agg #[.int .i64 (x0.Base), .int .i64 (x0.Number), .int .i64 (x0.Time), .slice A1 n1 c1, .slice A2 n2 c2]) [.int .i64 (x0.Base), .int .i64 (x0.Number), .int .i64 (x0.Time), .slice A1 n1 c1, .slice A2 n2 c2] rfl rfl rfl rfl ?_; intro b4 w hM
 replace hM : Mem w0 H w H [.box b4 45 [.int .i64 (x0.Base), .int .i64 (x0.Number), .int .i64 (x0.Time), .slice A1 n1 c1, .slice A2 n2 c2]] := hM
 refine RW.st (Ex.assign (.int .i64 (0)) rfl) rfl <| RW.nil <| CW.seq <| CW.seq <| CW.region <| RW.st (Ex.move (.slice A3 n3 c3) rfl) rfl ?_
 refine RW.callP hM (image_New_lift x1 hF3 hm) en102 rfl rfl rfl rfl ?_; rintro _ w H6 _ hle7 ⟨v5, hm, A8, n8, c8, s8, rfl, hF8, rfl⟩ hM
 replace hM : Mem w0 H w H6 [.box b4 45 [.int .i64 (x0.Base), .int .i64 (x0.Number), .int .i64 (x0.Time), .slice A1 n1 c1, .slice A2 n2 c2]] := hM
 refine RW.st (Ex.move (.tuple #[.slice A8 n8 c8, .int .i64 (v5.2)]) rfl) rfl <| RW.st (Ex.extract rfl rfl) rfl <| RW.st (Ex.extract rfl rfl) rfl <| RW.st (Ex.assign (.slice A8 n8 c8) rfl) rfl <| RW.st (Ex.assign (.int .i64 (v5.2)) rfl) rfl <| RW.nil <| CW.seq <| CW.region <| RW.st (Ex.move (.int .i64 (v5.2)) rfl) rfl <| RW.st (Ex.neq rfl rfl) rfl <| RW.nil ?_
 refine CW.cond_dec (p := v5.2 ≠ 0) rfl (fun hc9 => ?_) (fun hc9 => ?_)
 ·
  replace hm := And.left hm hc9
  refine CW.seq <| CW.region <| RW.st (Ex.move (.int .i64 (v5.2)) rfl) rfl <| RW.st (Ex.assign (.int .i64 (v5.2)) rfl) rfl <| RW.nil <| CW.ret ?_
  refine thenQ_ret ?_
  refine end_tmp (.inl rfl) rfl (.int .i64 (v5.2)) rfl ?_
  exact ⟨_, _, (hM.pick [] rfl rfl), v5.2, hm, rfl, rfl⟩
 ·
  replace hm := And.right hm hc9
  refine CW.skip <| CW.seq <| CW.block ?_
  skip
  refine CW.cut (fun D σ w => D = [] ∧ (∃ τ, σ = sl [(1, .slice A3 n3 c3), (2, .pointer (some ⟨b4, 0, none⟩)), (16, .bool (decide ((x0.Base < 0) ∨ ((x0.Number ≤ x0.Base) ∨ (1073741824 < x0.Number)))))] τ) ∧ Mem w0 H w H6 [.box b4 45 [.int .i64 (x0.Base), .int .i64 (x0.Number), .int .i64 (x0.Time), .slice A1 n1 c1, .slice A2 n2 c2]]) ?_ ?_
  ·
   skip
   refine CW.region <| RW.st (Ex.fieldAddr fa45_0 rfl) rfl <| RW.st (Ex.load1 hM 0 to3 rfl rfl rfl) rfl <| RW.st (Ex.lss rfl rfl) rfl <| RW.st (Ex.move (.bool (decide (x0.Base < 0))) rfl) rfl ?_
   refine RW.split 20 (p := x0.Base < 0) rfl (fun hc10 => ?_) (fun hc10 => ?_)
   ·
    skip
    refine RW.pass rfl rfl <| RW.pass rfl rfl <| RW.pass rfl rfl <| RW.pass rfl rfl <| RW.pass rfl rfl <| RW.st (Ex.pickT (.bool true) rfl rfl) rfl <| RW.st (Ex.move (.bool true) rfl) rfl <| RW.pass rfl rfl <| RW.pass rfl rfl <| RW.pass rfl rfl <| RW.st (Ex.pickT (.bool true) rfl rfl) rfl <| RW.st (Ex.assign (.bool true) rfl) rfl <| RW.nil ?_
    exact And.intro rfl (And.intro (sl_canon ⟨rfl, rfl, (congrArg Value.bool (decide_eq_true (.inl hc10)).symm), trivial⟩) hM)
   ·
    skip
    refine RW.st (Ex.fieldAddr fa45_1 rfl) rfl <| RW.st (Ex.load1 hM 0 to3 rfl rfl rfl) rfl <| RW.st (Ex.fieldAddr fa45_0 rfl) rfl <| RW.st (Ex.load1 hM 0 to3 rfl rfl rfl) rfl <| RW.st (Ex.leq rfl rfl) rfl <| RW.st (Ex.pickF (.bool (decide (x0.Number ≤ x0.Base))) rfl rfl) rfl <| RW.st (Ex.move (.bool (decide (x0.Number ≤ x0.Base))) rfl) rfl ?_
    refine RW.split 27 (p := x0.Number ≤ x0.Base) rfl (fun hc11 => ?_) (fun hc11 => ?_)
    ·
     skip
     refine RW.pass rfl rfl <| RW.pass rfl rfl <| RW.pass rfl rfl <| RW.st (Ex.pickT (.bool true) rfl rfl) rfl <| RW.st (Ex.assign (.bool true) rfl) rfl <| RW.nil ?_
     exact And.intro rfl (And.intro (sl_canon ⟨rfl, rfl, (congrArg Value.bool (decide_eq_true (.inr (.inl hc11))).symm), trivial⟩) hM)
    ·
     skip
     refine RW.st (Ex.fieldAddr fa45_1 rfl) rfl <| RW.st (Ex.load1 hM 0 to3 rfl rfl rfl) rfl <| RW.st (Ex.gtr rfl rfl) rfl <| RW.st (Ex.pickF (.bool (decide (1073741824 < x0.Number))) rfl rfl) rfl <| RW.st (Ex.assign (.bool (decide (1073741824 < x0.Number))) rfl) rfl <| RW.nil ?_
     exact And.intro rfl (And.intro (sl_canon ⟨rfl, rfl, (congrArg Value.bool (decide_eq_decide.2 (imOr hc10 (imOr hc11 Iff.rfl)))), trivial⟩) hM)
  rintro _ _ w ⟨rfl, ⟨τ, rfl⟩, hM⟩
  refine CW.cond_dec (p := (x0.Base < 0) ∨ ((x0.Number ≤ x0.Base) ∨ (1073741824 < x0.Number))) rfl (fun hc12 => ?_) (fun hc12 => ?_)
  ·
   replace hm := And.left hm hc12
   refine CW.seq <| CW.region <| RW.st (Ex.assign (.int .i64 (2)) rfl) rfl <| RW.nil <| CW.ret ?_
   refine blockQ_ret (thenQ_ret ?_)
   refine end_tmp (.inl rfl) rfl (.int .i64 (2)) rfl ?_
   exact ⟨_, _, (hM.pick [] rfl rfl), 2, hm, rfl, rfl⟩
  ·
   replace hm := And.right hm hc12
   refine CW.seq <| CW.region <| RW.st (Ex.fieldAddr fa45_2 rfl) rfl <| RW.st (Ex.load1 hM 0 to3 rfl rfl rfl) rfl ?_
   refine RW.callP hM (cycle_in_lift x0.Time 0 1073741824 hm) en103 rfl rfl rfl rfl ?_; rintro _ w H14 _ hle15 ⟨v13, hm, rfl, rfl⟩ hM
   replace hM : Mem w0 H w H14 [.box b4 45 [.int .i64 (x0.Base), .int .i64 (x0.Number), .int .i64 (x0.Time), .slice A1 n1 c1, .slice A2 n2 c2]] := hM
   refine RW.st (Ex.not (p := v13 = true) (bvar _)) rfl <| RW.st (Ex.assign (.bool (decide (¬ (v13 = true)))) rfl) rfl <| RW.nil ?_
   refine CW.cond_dec (p := ¬ (v13 = true)) rfl (fun hc16 => ?_) (fun hc16 => ?_)
   ·
    replace hm := And.left hm hc16
    refine CW.seq <| CW.region <| RW.st (Ex.assign (.int .i64 (24)) rfl) rfl <| RW.nil <| CW.ret ?_
    refine blockQ_ret (thenQ_ret ?_)
    refine end_tmp (.inl rfl) rfl (.int .i64 (24)) rfl ?_
    exact ⟨_, _, (hM.pick [] rfl rfl), 24, hm, rfl, rfl⟩
   ·
    replace hm := And.right hm hc16
    refine CW.skip <| CW.seq <| CW.seq <| CW.region <| RW.st (Ex.fieldAddr fa45_3 rfl) rfl <| RW.st (Ex.load1 hM 0 to40 rfl rfl rfl) rfl ?_
    refine RW.callP hM (cycle_positions_lift x0.Positions 0 (hF1.mono (hle7.trans hle15)) hm) en104 rfl rfl rfl rfl ?_; rintro _ w H18 _ hle19 ⟨v17, hm, rfl, rfl⟩ hM
    replace hM : Mem w0 H w H18 [.box b4 45 [.int .i64 (x0.Base), .int .i64 (x0.Number), .int .i64 (x0.Time), .slice A1 n1 c1, .slice A2 n2 c2]] := hM
    refine RW.st (Ex.assign (.int .i64 (v17)) rfl) rfl <| RW.nil <| CW.seq <| CW.region <| RW.st (Ex.move (.int .i64 (v17)) rfl) rfl <| RW.st (Ex.neq rfl rfl) rfl <| RW.nil ?_
    refine CW.cond_dec (p := v17 ≠ 0) rfl (fun hc20 => ?_) (fun hc20 => ?_)
    ·
     replace hm := And.left hm hc20
     refine CW.seq <| CW.region <| RW.st (Ex.move (.int .i64 (v17)) rfl) rfl <| RW.st (Ex.assign (.int .i64 (v17)) rfl) rfl <| RW.nil <| CW.ret ?_
     refine thenQ_ret ?_
     refine end_tmp (.inl rfl) rfl (.int .i64 (v17)) rfl ?_
     exact ⟨_, _, (hM.pick [] rfl rfl), v17, hm, rfl, rfl⟩
    ·
     replace hm := And.right hm hc20
     refine CW.skip <| CW.seq <| CW.region <| RW.st (Ex.fieldAddr fa45_4 rfl) rfl <| RW.st (Ex.load1 hM 0 to43 rfl rfl rfl) rfl <| RW.st (Ex.move (.slice A3 n3 c3) rfl) rfl ?_
     refine RW.callP hM (coalesce_Check_lift x0.Writes x1 (hF2.mono ((hle7.trans hle15).trans hle19)) (hF3.mono ((hle7.trans hle15).trans hle19)) hm) en105 rfl rfl rfl rfl ?_; rintro _ w H22 _ hle23 ⟨v21, hm, rfl, rfl⟩ hM
     replace hM : Mem w0 H w H22 [.box b4 45 [.int .i64 (x0.Base), .int .i64 (x0.Number), .int .i64 (x0.Time), .slice A1 n1 c1, .slice A2 n2 c2]] := hM
     refine RW.st (Ex.assign (.int .i64 (v21)) rfl) rfl <| RW.nil <| CW.ret ?_
     refine end_tmp (.inl rfl) rfl (.int .i64 (v21)) rfl ?_
     exact ⟨_, _, (hM.pick [] rfl rfl), v21, hm, rfl, rfl⟩
end Go.Proofs.YtahlanamngfkcaaDoor
