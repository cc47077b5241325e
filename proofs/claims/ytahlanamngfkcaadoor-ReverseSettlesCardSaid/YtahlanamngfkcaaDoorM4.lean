/- Part 4 of the proof of the statement ReverseSettlesCardSaid: lemmas. No condition of its own. -/
import Derived.Test.YtahlanamngfkcaaDoorM3
namespace Go.Proofs.YtahlanamngfkcaaDoor
open Go.RowKit
theorem ref07_Fits_lift {H : Hp} (x0 : List (List Sec)) (x1 : api_Write) {A1 : Option Addr} {n1 c1 : Nat} {s1 : List Value} (hF1 : Fz (α := List Sec) H A1 n1 c1 x0 s1) {A2 : Option Addr} {n2 c2 : Nat} {s2 : List Value} (hF2 : Fz (α := Sec) H A2 n2 c2 x1.Data s2) {Φ : Int → Prop} (hm : ref07_Fits_W x0 x1 Φ) : RetP Tryd.prog 109 #[.slice A1 n1 c1, .agg #[.int .i64 x1.Volume, .int .i64 x1.Start, .slice A2 n2 c2]] H (fun _ v L => ∃ y, Φ y ∧ v = .int .i64 (y) ∧ L = []) := by
 refine RetP.of_code Tryd.func109 rfl (Nat.le_of_ble_eq_true rfl) fun w0 hM => ?_
 refine CW.seq <| CW.region ?_
 refine RW.box hM (.agg #[.int .i64 x1.Volume, .int .i64 x1.Start, .slice A2 n2 c2]) [.int .i64 x1.Volume, .int .i64 x1.Start, .slice A2 n2 c2] rfl rfl rfl rfl ?_; intro b3 w hM
 replace hM : Mem w0 H w H [.box b3 100 [.int .i64 x1.Volume, .int .i64 x1.Start, .slice A2 n2 c2]] := hM
 refine RW.st (Ex.assign (.int .i64 0) rfl) rfl <| RW.nil <| CW.seq <| CW.seq <| CW.region <| RW.st (Ex.move (.slice A1 n1 c1) rfl) rfl ?_
 refine RW.callP hM (ref07_Check_lift x0 hF1 hm) en97 rfl rfl rfl rfl ?_; rintro _ w H5 _ hle6 ⟨v4, hm, rfl, rfl⟩ hM
 replace hM : Mem w0 H w H5 [.box b3 100 [.int .i64 x1.Volume, .int .i64 x1.Start, .slice A2 n2 c2]] := hM
 refine RW.st (Ex.assign (.int .i64 v4) rfl) rfl <| RW.nil <| CW.seq <| CW.region <| RW.st (Ex.move (.int .i64 v4) rfl) rfl <| RW.st (Ex.neq rfl rfl) rfl <| RW.nil ?_
 refine CW.cond_dec (p := v4 ≠ 0) rfl (fun hc7 => ?_) (fun hc7 => ?_)
 ·
  replace hm := And.left hm hc7
  refine CW.seq <| CW.region <| RW.st (Ex.move (.int .i64 v4) rfl) rfl <| RW.st (Ex.assign (.int .i64 v4) rfl) rfl <| RW.nil <| CW.ret ?_
  refine thenQ_ret ?_
  refine end_tmp (.inl rfl) rfl (.int .i64 v4) rfl ?_
  exact ⟨_, _, (hM.pick [] rfl rfl), v4, hm, rfl, rfl⟩
 ·
  replace hm := And.right hm hc7
  refine CW.skip <| CW.seq ?_
  obtain ⟨v8, hW9, hm⟩ := hm
  obtain ⟨v14, hW15, hm⟩ := hm
  refine CW.drawL 5 [] [(fun Hq us E => us = [.slice A1 n1 c1] ∧ E = [] ∧ True), (fun Hq us E => ∃ (A10 : Option Addr), ∃ (n10 : Nat), ∃ (c10 : Nat), ∃ (s10 : List Value), us = [.slice A10 n10 c10] ∧ E = [] ∧ Fz (α := Int) Hq A10 n10 c10 v8 s10 ∧ True), (fun Hq us E => us = [.agg #[.int .i64 x1.Volume, .int .i64 x1.Start, .slice A2 n2 c2]] ∧ E = [] ∧ True), (fun Hq us E => us = [.int .i64 v14] ∧ E = [] ∧ True), (fun Hq us E => us = [.int .i64 v14] ∧ E = [] ∧ True)]
   (fun k => [[0], [1], [2], [3], [4]].getD k []) (fun _ => none) (by kernel_rfl) hM (by kernel_rfl) (by kernel_rfl) (by kernel_rfl) rfl (by simp only [List.forall_mem_cons]; exact ⟨fun _ _ _ _ hle ⟨e1, e2, _⟩ => ⟨e1, e2, trivial⟩, fun _ _ _ _ hle ⟨A10, n10, c10, s10, e1, e2, hF13, _⟩ => ⟨A10, n10, c10, s10, e1, e2, hF13.mono hle, trivial⟩, fun _ _ _ _ hle ⟨e1, e2, _⟩ => ⟨e1, e2, trivial⟩, fun _ _ _ _ hle ⟨e1, e2, _⟩ => ⟨e1, e2, trivial⟩, fun _ _ _ _ hle ⟨e1, e2, _⟩ => ⟨e1, e2, trivial⟩, by simp⟩) ⟨?_, ?_, ?_, ?_, ?_, trivial⟩ ?_
  ·
   intro H' σ' w R E hle hMR hE0 hE hp hf
   obtain rfl := hE0 rfl
   obtain ⟨τ, rfl⟩ := sl_canon (σ := σ') (l := [(0, .slice A1 n1 c1)]) ⟨(hf 0 (by kernel_rfl)).trans rfl, trivial⟩
   have hM := Mem.subR (R := R) hMR
   exact RW.step (Ex.move (.slice A1 n1 c1) rfl) rfl rfl rfl (RW.nil ⟨rfl, rfl, _, rfl, H', [], Hp.le.refl _, hMR, rfl, rfl, trivial⟩)
  ·
   intro H' σ' w R E hle hMR hE0 hE hp hf
   obtain rfl := hE0 rfl
   obtain ⟨_, hg⟩ := hp 0 (by decide) (by kernel_rfl)
   obtain ⟨e16, _, _⟩ := hg.get rfl
   have e17 : σ' 11 = .slice A1 n1 c1 := (List.cons.inj e16).1
   obtain ⟨τ, rfl⟩ := sl_canon (σ := σ') (l := [(11, .slice A1 n1 c1)]) ⟨e17, trivial⟩
   have hM := Mem.subR (R := R) hMR
   refine RW.callP hMR (ref07_SizesOf_lift x0 (hF1.mono (hle6.trans hle)) hW9) en57 rfl rfl rfl rfl ?_; rintro _ w H9 _ hle9 ⟨_, rfl, A10, n10, c10, s10, rfl, hd11, hn12, rfl⟩ hMR
   obtain ⟨H90, hMR, hle90, hF13⟩ := hMR.giveF (α := Int) 0 rfl hd11 hn12
   exact RW.nil ⟨rfl, rfl, _, rfl, H90, [], (hle9.trans hle90), hMR, A10, n10, c10, s10, rfl, rfl, hF13, trivial⟩
  ·
   intro H' σ' w R E hle hMR hE0 hE hp hf
   obtain rfl := hE0 rfl
   obtain ⟨τ, rfl⟩ := sl_canon (σ := σ') (l := [(3, .pointer (some ⟨b3, 0, none⟩))]) ⟨(hf 3 (by kernel_rfl)).trans rfl, trivial⟩
   have hM := Mem.subR (R := R) hMR
   exact RW.step (Ex.loadA hM 0 [.int .i64 x1.Volume, .int .i64 x1.Start, .slice A2 n2 c2] ta100 rfl rfl rfl rfl) rfl rfl rfl (RW.nil ⟨rfl, rfl, _, rfl, H', [], Hp.le.refl _, hMR, rfl, rfl, trivial⟩)
  ·
   intro H' σ' w R E hle hMR hE0 hE hp hf
   obtain rfl := hE0 rfl
   obtain ⟨_, hg⟩ := hp 1 (by decide) (by kernel_rfl)
   obtain ⟨A10, n10, c10, s10, e18, _, hF13, _⟩ := hg.get rfl
   have e19 : σ' 12 = .slice A10 n10 c10 := (List.cons.inj e18).1
   obtain ⟨_, hg⟩ := hp 2 (by decide) (by kernel_rfl)
   obtain ⟨e20, _, _⟩ := hg.get rfl
   have e21 : σ' 13 = .agg #[.int .i64 x1.Volume, .int .i64 x1.Start, .slice A2 n2 c2] := (List.cons.inj e20).1
   obtain ⟨τ, rfl⟩ := sl_canon (σ := σ') (l := [(12, .slice A10 n10 c10), (13, .agg #[.int .i64 x1.Volume, .int .i64 x1.Start, .slice A2 n2 c2])]) ⟨e19, e21, trivial⟩
   have hM := Mem.subR (R := R) hMR
   refine RW.callP hMR (ref07_FitsSizes_lift v8 x1 hF13 (hF2.mono (hle6.trans hle)) hW15) en74 rfl rfl rfl rfl ?_; rintro _ w H9 _ hle9 ⟨_, rfl, rfl, rfl⟩ hMR
   exact RW.nil ⟨rfl, rfl, _, rfl, H9, [], hle9, hMR, rfl, rfl, trivial⟩
  ·
   intro H' σ' w R E hle hMR hE0 hE hp hf
   obtain rfl := hE0 rfl
   obtain ⟨_, hg⟩ := hp 3 (by decide) (by kernel_rfl)
   obtain ⟨e22, _, _⟩ := hg.get rfl
   have e23 : σ' 14 = .int .i64 v14 := (List.cons.inj e22).1
   obtain ⟨τ, rfl⟩ := sl_canon (σ := σ') (l := [(14, .int .i64 v14)]) ⟨e23, trivial⟩
   have hM := Mem.subR (R := R) hMR
   exact RW.step (Ex.assign (.int .i64 v14) rfl) rfl rfl rfl (RW.nil ⟨rfl, rfl, _, rfl, H', [], Hp.le.refl _, hMR, rfl, rfl, trivial⟩)
  ·
   intro H8 σ' w X miss hms hle8 hM hX hX0 hf
   simp [subs] at hms
   rcases hms with rfl
   ·
    obtain ⟨H24, hH8⟩ : ∃ x, x = H8 := ⟨_, rfl⟩
    subst hH8
    have hle25 := hle8
    obtain ⟨_, g0, y0⟩ := hX 0 (by decide) (by kernel_rfl)
    obtain ⟨_, rfl, _⟩ := g0.get rfl
    replace y0 : X 0 = [] := y0
    obtain ⟨_, g0, y1⟩ := hX 1 (by decide) (by kernel_rfl)
    obtain ⟨A10, n10, c10, s10, e26, rfl, hF13, _⟩ := g0.get rfl
    have e27 : σ' 12 = .slice A10 n10 c10 := (List.cons.inj e26).1
    replace y1 : X 1 = [] := y1
    obtain ⟨_, g0, y2⟩ := hX 2 (by decide) (by kernel_rfl)
    obtain ⟨_, rfl, _⟩ := g0.get rfl
    replace y2 : X 2 = [] := y2
    obtain ⟨_, g0, y3⟩ := hX 3 (by decide) (by kernel_rfl)
    obtain ⟨_, rfl, _⟩ := g0.get rfl
    replace y3 : X 3 = [] := y3
    obtain ⟨_, g0, y4⟩ := hX 4 (by decide) (by kernel_rfl)
    obtain ⟨e28, rfl, _⟩ := g0.get rfl
    have e29 : σ' 4 = .int .i64 v14 := (List.cons.inj e28).1
    replace y4 : X 4 = [] := y4
    have hfl : flatX X 5 = [] := by
     show X 0 ++ (X 1 ++ (X 2 ++ (X 3 ++ (X 4 ++ [])))) = _
     rw [y0, y1, y2, y3, y4]; rfl
    rw [hfl] at hM
    obtain ⟨τ, rfl⟩ := sl_canon (σ := σ') (l := [(4, .int .i64 v14)]) ⟨e29, trivial⟩
    replace hM : Mem w0 H w H24 [.box b3 100 [.int .i64 x1.Volume, .int .i64 x1.Start, .slice A2 n2 c2]] := hM
    change RA _ _ _ _ _ _ _ (sl [(4, .int .i64 v14)] τ) _ 5 _
    refine RA.done (by kernel_rfl) ?_
    refine CW.ret ?_
    refine end_tmp (.inl rfl) rfl (.int .i64 v14) rfl ?_
    exact ⟨_, _, (hM.pick [] rfl rfl), v14, hm, rfl, rfl⟩
theorem ref02_change_lift {H : Hp} (x0 : api_Bitmap) (x1 : api_Extent) (x2 : Bool) {A1 : Option Addr} {n1 c1 : Nat} {s1 : List Value} (hF1 : Fz (α := BitVec 64) H A1 n1 c1 x0.Words s1) {Φ : api_Bitmap × Int → Prop} (hm : ref02_change_W x0 x1 x2 Φ) : RetP Tryd.prog 114 #[.agg #[.int .i64 x0.Size, .slice A1 n1 c1], .agg #[.int .i64 x1.Start, .int .i64 x1.Count], .bool x2] H (fun H' v L => ∃ y, Φ y ∧ ∃ A60, ∃ n60, ∃ c60, ∃ s60, v = .tuple #[.agg #[.int .i64 (y.1.Size), .slice A60 n60 c60], .int .i64 (y.2)] ∧ DtL (α := BitVec 64) H' s60 y.1.Words ∧ n60 = y.1.Words.length ∧ L = [.row (.slice A60 n60 c60) 151 1 n60 s60]) := by
 refine RetP.of_code Tryd.func114 rfl (Nat.le_of_ble_eq_true rfl) fun w0 hM => ?_
 refine CW.seq <| CW.region ?_
 refine RW.box hM (.agg #[.int .i64 x0.Size, .slice A1 n1 c1]) [.int .i64 x0.Size, .slice A1 n1 c1] rfl rfl rfl rfl ?_; intro b2 w hM
 replace hM : Mem w0 H w H [.box b2 65 [.int .i64 x0.Size, .slice A1 n1 c1]] := hM
 refine RW.box hM (.agg #[.int .i64 x1.Start, .int .i64 x1.Count]) [.int .i64 x1.Start, .int .i64 x1.Count] rfl rfl rfl rfl ?_; intro b3 w hM
 replace hM : Mem w0 H w H [.box b3 103 [.int .i64 x1.Start, .int .i64 x1.Count], .box b2 65 [.int .i64 x0.Size, .slice A1 n1 c1]] := hM
 refine RW.alloc hM tz65 [.int .i64 0, .slice none 0 0] rfl rfl rfl ?_; intro b4 w hM
 replace hM : Mem w0 H w H [.box b4 65 [.int .i64 0, .slice none 0 0], .box b3 103 [.int .i64 x1.Start, .int .i64 x1.Count], .box b2 65 [.int .i64 x0.Size, .slice A1 n1 c1]] := hM
 refine RW.st (Ex.assign (.int .i64 0) rfl) rfl <| RW.nil <| CW.seq <| CW.seq <| CW.region <| RW.st (Ex.loadA hM 2 [.int .i64 x0.Size, .slice A1 n1 c1] ta65 rfl rfl rfl rfl) rfl ?_
 refine RW.callP hM (ref02_Check_lift x0 hF1 hm) en67 rfl rfl rfl rfl ?_; rintro _ w H6 _ hle7 ⟨v5, hm, rfl, rfl⟩ hM
 replace hM : Mem w0 H w H6 [.box b4 65 [.int .i64 0, .slice none 0 0], .box b3 103 [.int .i64 x1.Start, .int .i64 x1.Count], .box b2 65 [.int .i64 x0.Size, .slice A1 n1 c1]] := hM
 refine RW.st (Ex.neq rfl rfl) rfl <| RW.nil ?_
 refine CW.cond_dec (p := v5 ≠ 0) rfl (fun hc8 => ?_) (fun hc8 => ?_)
 ·
  replace hm := And.left hm hc8
  refine CW.seq <| CW.region <| RW.st (Ex.build bs65 [] [.int .i64 0, .slice none 0 0] rfl rfl) rfl ?_
  refine RW.store hM 0 (.agg #[.int .i64 0, .slice none 0 0]) [.int .i64 0, .slice none 0 0] [.int .i64 0, .slice none 0 0] sz65 rfl rfl rfl (oneAll ⟨rfl, rfl, trivial⟩) rfl (Nat.le_of_ble_eq_true rfl) rfl [.box b4 65 [.int .i64 0, .slice none 0 0], .box b3 103 [.int .i64 x1.Start, .int .i64 x1.Count], .box b2 65 [.int .i64 x0.Size, .slice A1 n1 c1]] rfl rfl rfl ?_; intro w hM
  refine RW.st (Ex.assign (.int .i64 3) rfl) rfl <| RW.nil <| CW.ret ?_
  refine thenQ_ret ?_
  refine end_cell_tmp (k := 0) (.inl rfl) rfl hM rfl (.int .i64 3) rfl ta65 [.int .i64 0, .slice none 0 0] rfl rfl ?_
  replace hM := hM.nilRow 151 1
  exact ⟨_, _, (hM.pick [0] rfl rfl), ((api_Bitmap.mk 0 ([] : List (BitVec 64))), 3), hm, none, 0, 0, [], rfl, (DtL.nil : DtL _ [] ([] : List (BitVec 64))), rfl, rfl⟩
 ·
  replace hm := And.right hm hc8
  refine CW.skip <| CW.seq <| CW.seq <| CW.region <| RW.st (Ex.loadA hM 1 [.int .i64 x1.Start, .int .i64 x1.Count] ta103 rfl rfl rfl rfl) rfl <| RW.st (Ex.fieldAddr fa65_0 rfl) rfl <| RW.st (Ex.load1 hM 2 to3 rfl rfl rfl) rfl ?_
  refine RW.callP hM (ref02_Fits_lift x1 x0.Size hm) en149 rfl rfl rfl rfl ?_; rintro _ w H10 _ hle11 ⟨v9, hm, rfl, rfl⟩ hM
  replace hM : Mem w0 H w H10 [.box b4 65 [.int .i64 0, .slice none 0 0], .box b3 103 [.int .i64 x1.Start, .int .i64 x1.Count], .box b2 65 [.int .i64 x0.Size, .slice A1 n1 c1]] := hM
  refine RW.st (Ex.not (p := v9 = true) (bvar _)) rfl <| RW.nil ?_
  refine CW.cond_dec (p := ¬ (v9 = true)) rfl (fun hc12 => ?_) (fun hc12 => ?_)
  ·
   replace hm := And.left hm hc12
   refine CW.seq <| CW.region <| RW.st (Ex.build bs65 [] [.int .i64 0, .slice none 0 0] rfl rfl) rfl ?_
   refine RW.store hM 0 (.agg #[.int .i64 0, .slice none 0 0]) [.int .i64 0, .slice none 0 0] [.int .i64 0, .slice none 0 0] sz65 rfl rfl rfl (oneAll ⟨rfl, rfl, trivial⟩) rfl (Nat.le_of_ble_eq_true rfl) rfl [.box b4 65 [.int .i64 0, .slice none 0 0], .box b3 103 [.int .i64 x1.Start, .int .i64 x1.Count], .box b2 65 [.int .i64 x0.Size, .slice A1 n1 c1]] rfl rfl rfl ?_; intro w hM
   refine RW.st (Ex.assign (.int .i64 2) rfl) rfl <| RW.nil <| CW.ret ?_
   refine thenQ_ret ?_
   refine end_cell_tmp (k := 0) (.inl rfl) rfl hM rfl (.int .i64 2) rfl ta65 [.int .i64 0, .slice none 0 0] rfl rfl ?_
   replace hM := hM.nilRow 151 1
   exact ⟨_, _, (hM.pick [0] rfl rfl), ((api_Bitmap.mk 0 ([] : List (BitVec 64))), 2), hm, none, 0, 0, [], rfl, (DtL.nil : DtL _ [] ([] : List (BitVec 64))), rfl, rfl⟩
  ·
   replace hm := And.right hm hc12
   refine CW.skip <| CW.seq <| CW.region <| RW.st (Ex.loadA hM 2 [.int .i64 x0.Size, .slice A1 n1 c1] ta65 rfl rfl rfl rfl) rfl ?_
   refine RW.callP hM (ref02_Copy_lift x0 (hF1.mono (hle7.trans hle11)) hm) en129 rfl rfl rfl rfl ?_; rintro _ w H14 _ hle15 ⟨v13, hm, A16, n16, c16, s16, rfl, hd17, hn18, rfl⟩ hM
   replace hM : Mem w0 H w H14 [.row (.slice A16 n16 c16) 151 1 n16 s16, .box b4 65 [.int .i64 0, .slice none 0 0], .box b3 103 [.int .i64 x1.Start, .int .i64 x1.Count], .box b2 65 [.int .i64 x0.Size, .slice A1 n1 c1]] := hM
   refine RW.alloc hM tz65 [.int .i64 0, .slice none 0 0] rfl rfl rfl ?_; intro b19 w hM
   replace hM : Mem w0 H w H14 [.box b19 65 [.int .i64 0, .slice none 0 0], .row (.slice A16 n16 c16) 151 1 n16 s16, .box b4 65 [.int .i64 0, .slice none 0 0], .box b3 103 [.int .i64 x1.Start, .int .i64 x1.Count], .box b2 65 [.int .i64 x0.Size, .slice A1 n1 c1]] := hM
   refine RW.store hM 0 (.agg #[.int .i64 v13.Size, .slice A16 n16 c16]) [.int .i64 v13.Size, .slice A16 n16 c16] [.int .i64 v13.Size, .slice A16 n16 c16] sz65 rfl rfl rfl (oneAll ⟨rfl, rfl, trivial⟩) rfl (Nat.le_of_ble_eq_true rfl) rfl [.box b19 65 [.int .i64 v13.Size, .slice A16 n16 c16], .row (.slice A16 n16 c16) 151 1 n16 s16, .box b4 65 [.int .i64 0, .slice none 0 0], .box b3 103 [.int .i64 x1.Start, .int .i64 x1.Count], .box b2 65 [.int .i64 x0.Size, .slice A1 n1 c1]] rfl rfl rfl ?_; intro w hM
   refine RW.nil <| CW.seq <| CW.seq <| CW.region <| RW.st (Ex.fieldAddr fa103_0 rfl) rfl <| RW.st (Ex.load1 hM 3 to3 rfl rfl rfl) rfl <| RW.st (Ex.assign (.int .i64 x1.Start) rfl) rfl <| RW.nil <| CW.block ?_
   obtain ⟨m59, hm⟩ := hm
   skip
   refine CW.loop (β := Nat) (fun n σ w => ∃ (v22 : List (BitVec 64)), ∃ (A23 : Option Addr), ∃ (n24 : Nat), ∃ (c25 : Nat), ∃ (s26 : List Value), ∃ (v29 : Int), ∃ Hk20, H14.le Hk20 ∧ (∃ τ, σ = sl [(2, .bool x2), (4, .pointer (some ⟨b3, 0, none⟩)), (6, .pointer (some ⟨b4, 0, none⟩)), (8, .pointer (some ⟨b19, 0, none⟩)), (9, .int .i64 v29)] τ) ∧ Mem w0 H w Hk20 [.box b3 103 [.int .i64 x1.Start, .int .i64 x1.Count], .box b4 65 [.int .i64 0, .slice none 0 0], .box b19 65 [.int .i64 v13.Size, .slice A23 n24 c25], .row (.slice A23 n24 c25) 151 1 n24 s26] ∧ (DtL (α := BitVec 64) Hk20 s26 v22) ∧ (n24 = v22.length) ∧ LoopN (ref02_change_L1 x1 x2 v13 Φ) n (v22, v29)) (fun n => n) m59 ⟨v13.Words, A16, n16, c16, s16, x1.Start, H14, (Hp.le.refl _), sl_canon ⟨rfl, rfl, rfl, rfl, rfl, trivial⟩, (hM.pick [3, 2, 0, 1] rfl rfl), hd17, hn18, hm⟩ ?_
   rintro k30 _ w ⟨v22, A23, n24, c25, s26, v29, Hk20, hle21, ⟨τ, rfl⟩, hM, hd27, hn28, hm⟩
   obtain _ | k30 := k30
   · exact hm.elim
   replace hm : (ref02_change_L1 x1 x2 v13 Φ) (v22, v29) (LoopN (ref02_change_L1 x1 x2 v13 Φ) k30) := hm
   generalize hrec31 : LoopN (ref02_change_L1 x1 x2 v13 Φ) k30 = rec1 at hm
   refine CW.seq <| CW.seq <| CW.region <| RW.st (Ex.move (.int .i64 v29) rfl) rfl <| RW.st (Ex.fieldAddr fa103_0 rfl) rfl <| RW.st (Ex.load1 hM 0 to3 rfl rfl rfl) rfl <| RW.st (Ex.fieldAddr fa103_1 rfl) rfl <| RW.st (Ex.load1 hM 0 to3 rfl rfl rfl) rfl ?_
   obtain ⟨hg32, hm⟩ := hm
   refine RW.st (Ex.add rfl rfl hg32.1 hg32.2) rfl <| RW.st (Ex.lss rfl rfl) rfl <| RW.nil ?_
   refine CW.cond_dec (p := v29 < (x1.Start + x1.Count)) rfl (fun hc33 => ?_) (fun hc33 => ?_)
   ·
    replace hm := And.left hm hc33
    refine CW.skip <| CW.seq <| CW.block <| CW.seq <| CW.region <| RW.st (Ex.move (.bool x2) rfl) rfl <| RW.nil ?_
    refine CW.cond_b rfl (fun hc44 => ?_) (fun hc44 => ?_)
    ·
     replace hm := And.left hm hc44
     obtain ⟨hg45, hm⟩ := hm
     obtain ⟨hg46, hm⟩ := hm
     obtain ⟨_, rfl, hx47⟩ := DtL.getI (α := BitVec 64) hd27 hg46
     obtain ⟨hg48, hm⟩ := hm
     refine CW.drawE 15 [.pointer (some ⟨b19, 1, none⟩), .slice A23 n24 c25, .int .i64 v29, .int .i64 (v29 / 64), .pointer (some ⟨b19, 1, none⟩), .slice A23 n24 c25, .int .i64 v29, .int .i64 (v29 / 64), elp A23 (((v29 / 64).toNat) * 1 + 0), u64 ((ix v22 (v29 / 64))), .int .i64 v29, .int .i64 (v29 % 64), u64 (BitVec.ofInt 64 (v29 % 64)), u64 ((1#64) <<< ((BitVec.ofInt 64 (v29 % 64)).toNat : Int).toNat), u64 ((ix v22 (v29 / 64)) ||| ((1#64) <<< ((BitVec.ofInt 64 (v29 % 64)).toNat : Int).toNat))]
      [[(8, none)], [(34, some 0)], [(9, none)], [(36, some 2)], [(8, none)], [(38, some 4)], [(9, none)], [(40, some 6)], [(39, some 5), (41, some 7)], [(42, some 8)], [(9, none)], [(44, some 10)], [(45, some 11)], [(46, some 12)], [(43, some 9), (47, some 13)]] [(2, none), (4, none), (6, none), (8, none), (9, none), (35, some 1), (37, some 3), (48, some 14)] (by kernel_rfl) hM (by kernel_rfl) ⟨?_, ?_, ?_, ?_, ?_, ?_, ?_, ?_, ?_, ?_, ?_, ?_, ?_, ?_, ?_, trivial⟩ ?_
     · exact One.ex (fun H' τ w hled hM => Ex.fieldAddr fa65_1 rfl) rfl (fun _ => rfl) rfl
     · exact One.ex (fun H' τ w hled hM => Ex.load1 hM 2 to63 rfl rfl rfl) rfl (fun _ => rfl) rfl
     · exact One.ex (fun H' τ w hled hM => Ex.move (.int .i64 v29) rfl) rfl (fun _ => rfl) rfl
     · exact One.ex (fun H' τ w hled hM => Ex.quo rfl rfl hg45.1 hg45.2.2 (by decide)) rfl (fun _ => rfl) rfl
     · exact One.ex (fun H' τ w hled hM => Ex.fieldAddr fa65_1 rfl) rfl (fun _ => rfl) rfl
     · exact One.ex (fun H' τ w hled hM => Ex.load1 hM 2 to63 rfl rfl rfl) rfl (fun _ => rfl) rfl
     · exact One.ex (fun H' τ w hled hM => Ex.move (.int .i64 v29) rfl) rfl (fun _ => rfl) rfl
     · exact One.ex (fun H' τ w hled hM => Ex.quo rfl rfl hg45.1 hg45.2.2 (by decide)) rfl (fun _ => rfl) rfl
     · exact One.ex (fun H' τ w hled hM => Ex.index st63 rfl rfl ((v29 / 64).toNat) (hM.rowNeD (α := BitVec 64) (p := 3) rfl hn28 hg46) hg46.nat (Nat.lt_of_lt_of_eq hg46.lt (hn28).symm)) rfl (fun _ => rfl) rfl
     · exact One.ex (fun H' τ w hled hM => Ex.loadR hM 3 rfl to151 (hM.rowNeD (α := BitVec 64) (p := 3) rfl hn28 hg46) rfl (hx47 0 _ rfl)) rfl (fun _ => rfl) rfl
     · exact One.ex (fun H' τ w hled hM => Ex.move (.int .i64 v29) rfl) rfl (fun _ => rfl) rfl
     · exact One.ex (fun H' τ w hled hM => Ex.rem rfl rfl hg48 (by decide)) rfl (fun _ => rfl) rfl
     · exact One.ex (fun H' τ w hled hM => Ex.convI64 Tryd.underlying3 Tryd.underlying178 rfl) rfl (fun _ => rfl) rfl
     · exact One.ex (fun H' τ w hled hM => Ex.shl64 (a := 1#64) (n := (BitVec.ofInt 64 (v29 % 64)).toNat) rfl rfl (by omega)) rfl (fun _ => rfl) rfl
     · exact One.ex (fun H' τ w hled hM => Ex.or64 (a := (ix v22 (v29 / 64))) (b := (1#64) <<< ((BitVec.ofInt 64 (v29 % 64)).toNat : Int).toNat) rfl rfl) rfl (fun _ => rfl) rfl
     intro τ w hM
     change RW _ _ _ _ _ _ _ _ (sl [(2, .bool x2), (4, .pointer (some ⟨b3, 0, none⟩)), (6, .pointer (some ⟨b4, 0, none⟩)), (8, .pointer (some ⟨b19, 0, none⟩)), (9, .int .i64 v29), (35, .slice A23 n24 c25), (37, .int .i64 (v29 / 64)), (48, u64 ((ix v22 (v29 / 64)) ||| ((1#64) <<< ((BitVec.ofInt 64 (v29 % 64)).toNat : Int).toNat)))] τ) _
     refine RW.st (Ex.index st63 rfl rfl ((v29 / 64).toNat) (hM.rowNeD (α := BitVec 64) (p := 3) rfl hn28 hg46) hg46.nat (Nat.lt_of_lt_of_eq hg46.lt (hn28).symm)) rfl ?_
     refine RW.storeD (α := BitVec 64) (off := 0) (x' := (ix v22 (v29 / 64)) ||| ((1#64) <<< ((BitVec.ofInt 64 (v29 % 64)).toNat : Int).toNat)) hM 3 hd27 (u64 ((ix v22 (v29 / 64)) ||| ((1#64) <<< ((BitVec.ofInt 64 (v29 % 64)).toNat : Int).toNat))) [u64 ((ix v22 (v29 / 64)) ||| ((1#64) <<< ((BitVec.ofInt 64 (v29 % 64)).toNat : Int).toNat))] sz151 rfl hn28 hg46 (Nat.le_of_ble_eq_true rfl) rfl rfl (oneAll ⟨rfl, trivial⟩) rfl (fun ch h => rdWhole h (show Dt.rd (α := BitVec 64) _ [u64 ((ix v22 (v29 / 64)) ||| ((1#64) <<< ((BitVec.ofInt 64 (v29 % 64)).toNat : Int).toNat))] ((ix v22 (v29 / 64)) ||| ((1#64) <<< ((BitVec.ofInt 64 (v29 % 64)).toNat : Int).toNat)) from rfl)) rfl rfl ?_
     intro s49 w hd50 hM
     replace hM : Mem w0 H w Hk20 [.box b3 103 [.int .i64 x1.Start, .int .i64 x1.Count], .box b4 65 [.int .i64 0, .slice none 0 0], .box b19 65 [.int .i64 v13.Size, .slice A23 n24 c25], .row (.slice A23 n24 c25) 151 1 n24 s49] := hM
     refine RW.nil <| CW.region <| RW.st (Ex.move (.int .i64 v29) rfl) rfl ?_
     obtain ⟨hg51, hm⟩ := hm
     refine RW.st (Ex.add rfl rfl hg51.1 hg51.2) rfl <| RW.st (Ex.assign (.int .i64 (v29 + 1)) rfl) rfl <| RW.nil ?_
     exact And.intro rfl ⟨k30, ⟨(put v22 (v29 / 64) ((ix v22 (v29 / 64)) ||| ((1#64) <<< ((BitVec.ofInt 64 (v29 % 64)).toNat : Int).toNat))), A23, n24, c25, s49, v29 + 1, Hk20, hle21.trans (Hp.le.refl _), sl_canon ⟨rfl, rfl, rfl, rfl, rfl, trivial⟩, hM, hd50, (hn28).trans (put_len _ _ _).symm, (by rw [hrec31]; exact hm)⟩, Nat.lt_succ_self _⟩
    ·
     replace hm := And.right hm hc44
     obtain ⟨hg52, hm⟩ := hm
     obtain ⟨hg53, hm⟩ := hm
     obtain ⟨_, rfl, hx54⟩ := DtL.getI (α := BitVec 64) hd27 hg53
     obtain ⟨hg55, hm⟩ := hm
     refine CW.drawE 15 [.pointer (some ⟨b19, 1, none⟩), .slice A23 n24 c25, .int .i64 v29, .int .i64 (v29 / 64), .pointer (some ⟨b19, 1, none⟩), .slice A23 n24 c25, .int .i64 v29, .int .i64 (v29 / 64), elp A23 (((v29 / 64).toNat) * 1 + 0), u64 ((ix v22 (v29 / 64))), .int .i64 v29, .int .i64 (v29 % 64), u64 (BitVec.ofInt 64 (v29 % 64)), u64 ((1#64) <<< ((BitVec.ofInt 64 (v29 % 64)).toNat : Int).toNat), u64 ((ix v22 (v29 / 64)) &&& ~~~((1#64) <<< ((BitVec.ofInt 64 (v29 % 64)).toNat : Int).toNat))]
      [[(8, none)], [(50, some 0)], [(9, none)], [(52, some 2)], [(8, none)], [(54, some 4)], [(9, none)], [(56, some 6)], [(55, some 5), (57, some 7)], [(58, some 8)], [(9, none)], [(60, some 10)], [(61, some 11)], [(62, some 12)], [(59, some 9), (63, some 13)]] [(2, none), (4, none), (6, none), (8, none), (9, none), (51, some 1), (53, some 3), (64, some 14)] (by kernel_rfl) hM (by kernel_rfl) ⟨?_, ?_, ?_, ?_, ?_, ?_, ?_, ?_, ?_, ?_, ?_, ?_, ?_, ?_, ?_, trivial⟩ ?_
     · exact One.ex (fun H' τ w hled hM => Ex.fieldAddr fa65_1 rfl) rfl (fun _ => rfl) rfl
     · exact One.ex (fun H' τ w hled hM => Ex.load1 hM 2 to63 rfl rfl rfl) rfl (fun _ => rfl) rfl
     · exact One.ex (fun H' τ w hled hM => Ex.move (.int .i64 v29) rfl) rfl (fun _ => rfl) rfl
     · exact One.ex (fun H' τ w hled hM => Ex.quo rfl rfl hg52.1 hg52.2.2 (by decide)) rfl (fun _ => rfl) rfl
     · exact One.ex (fun H' τ w hled hM => Ex.fieldAddr fa65_1 rfl) rfl (fun _ => rfl) rfl
     · exact One.ex (fun H' τ w hled hM => Ex.load1 hM 2 to63 rfl rfl rfl) rfl (fun _ => rfl) rfl
     · exact One.ex (fun H' τ w hled hM => Ex.move (.int .i64 v29) rfl) rfl (fun _ => rfl) rfl
     · exact One.ex (fun H' τ w hled hM => Ex.quo rfl rfl hg52.1 hg52.2.2 (by decide)) rfl (fun _ => rfl) rfl
     · exact One.ex (fun H' τ w hled hM => Ex.index st63 rfl rfl ((v29 / 64).toNat) (hM.rowNeD (α := BitVec 64) (p := 3) rfl hn28 hg53) hg53.nat (Nat.lt_of_lt_of_eq hg53.lt (hn28).symm)) rfl (fun _ => rfl) rfl
     · exact One.ex (fun H' τ w hled hM => Ex.loadR hM 3 rfl to151 (hM.rowNeD (α := BitVec 64) (p := 3) rfl hn28 hg53) rfl (hx54 0 _ rfl)) rfl (fun _ => rfl) rfl
     · exact One.ex (fun H' τ w hled hM => Ex.move (.int .i64 v29) rfl) rfl (fun _ => rfl) rfl
     · exact One.ex (fun H' τ w hled hM => Ex.rem rfl rfl hg55 (by decide)) rfl (fun _ => rfl) rfl
     · exact One.ex (fun H' τ w hled hM => Ex.convI64 Tryd.underlying3 Tryd.underlying178 rfl) rfl (fun _ => rfl) rfl
     · exact One.ex (fun H' τ w hled hM => Ex.shl64 (a := 1#64) (n := (BitVec.ofInt 64 (v29 % 64)).toNat) rfl rfl (by omega)) rfl (fun _ => rfl) rfl
     · exact One.ex (fun H' τ w hled hM => Ex.andNot64 (a := (ix v22 (v29 / 64))) (b := (1#64) <<< ((BitVec.ofInt 64 (v29 % 64)).toNat : Int).toNat) rfl rfl) rfl (fun _ => rfl) rfl
     intro τ w hM
     change RW _ _ _ _ _ _ _ _ (sl [(2, .bool x2), (4, .pointer (some ⟨b3, 0, none⟩)), (6, .pointer (some ⟨b4, 0, none⟩)), (8, .pointer (some ⟨b19, 0, none⟩)), (9, .int .i64 v29), (51, .slice A23 n24 c25), (53, .int .i64 (v29 / 64)), (64, u64 ((ix v22 (v29 / 64)) &&& ~~~((1#64) <<< ((BitVec.ofInt 64 (v29 % 64)).toNat : Int).toNat)))] τ) _
     refine RW.st (Ex.index st63 rfl rfl ((v29 / 64).toNat) (hM.rowNeD (α := BitVec 64) (p := 3) rfl hn28 hg53) hg53.nat (Nat.lt_of_lt_of_eq hg53.lt (hn28).symm)) rfl ?_
     refine RW.storeD (α := BitVec 64) (off := 0) (x' := (ix v22 (v29 / 64)) &&& ~~~((1#64) <<< ((BitVec.ofInt 64 (v29 % 64)).toNat : Int).toNat)) hM 3 hd27 (u64 ((ix v22 (v29 / 64)) &&& ~~~((1#64) <<< ((BitVec.ofInt 64 (v29 % 64)).toNat : Int).toNat))) [u64 ((ix v22 (v29 / 64)) &&& ~~~((1#64) <<< ((BitVec.ofInt 64 (v29 % 64)).toNat : Int).toNat))] sz151 rfl hn28 hg53 (Nat.le_of_ble_eq_true rfl) rfl rfl (oneAll ⟨rfl, trivial⟩) rfl (fun ch h => rdWhole h (show Dt.rd (α := BitVec 64) _ [u64 ((ix v22 (v29 / 64)) &&& ~~~((1#64) <<< ((BitVec.ofInt 64 (v29 % 64)).toNat : Int).toNat))] ((ix v22 (v29 / 64)) &&& ~~~((1#64) <<< ((BitVec.ofInt 64 (v29 % 64)).toNat : Int).toNat)) from rfl)) rfl rfl ?_
     intro s56 w hd57 hM
     replace hM : Mem w0 H w Hk20 [.box b3 103 [.int .i64 x1.Start, .int .i64 x1.Count], .box b4 65 [.int .i64 0, .slice none 0 0], .box b19 65 [.int .i64 v13.Size, .slice A23 n24 c25], .row (.slice A23 n24 c25) 151 1 n24 s56] := hM
     refine RW.nil <| CW.region <| RW.st (Ex.move (.int .i64 v29) rfl) rfl ?_
     obtain ⟨hg58, hm⟩ := hm
     refine RW.st (Ex.add rfl rfl hg58.1 hg58.2) rfl <| RW.st (Ex.assign (.int .i64 (v29 + 1)) rfl) rfl <| RW.nil ?_
     exact And.intro rfl ⟨k30, ⟨(put v22 (v29 / 64) ((ix v22 (v29 / 64)) &&& ~~~((1#64) <<< ((BitVec.ofInt 64 (v29 % 64)).toNat : Int).toNat))), A23, n24, c25, s56, v29 + 1, Hk20, hle21.trans (Hp.le.refl _), sl_canon ⟨rfl, rfl, rfl, rfl, rfl, trivial⟩, hM, hd57, (hn28).trans (put_len _ _ _).symm, (by rw [hrec31]; exact hm)⟩, Nat.lt_succ_self _⟩
   ·
    replace hm := And.right hm hc33
    refine CW.exit ?_
    refine CW.seq <| CW.region <| RW.st (Ex.loadA hM 2 [.int .i64 v13.Size, .slice A23 n24 c25] ta65 rfl rfl rfl rfl) rfl ?_
    refine RW.store hM 1 (.agg #[.int .i64 v13.Size, .slice A23 n24 c25]) [.int .i64 v13.Size, .slice A23 n24 c25] [.int .i64 v13.Size, .slice A23 n24 c25] sz65 rfl rfl rfl (oneAll ⟨rfl, rfl, trivial⟩) rfl (Nat.le_of_ble_eq_true rfl) rfl [.box b3 103 [.int .i64 x1.Start, .int .i64 x1.Count], .box b4 65 [.int .i64 v13.Size, .slice A23 n24 c25], .box b19 65 [.int .i64 v13.Size, .slice A23 n24 c25], .row (.slice A23 n24 c25) 151 1 n24 s26] rfl rfl rfl ?_; intro w hM
    refine RW.st (Ex.assign (.int .i64 0) rfl) rfl <| RW.nil <| CW.ret ?_
    refine end_cell_tmp (k := 1) (.inl rfl) rfl hM rfl (.int .i64 0) rfl ta65 [.int .i64 v13.Size, .slice A23 n24 c25] rfl rfl ?_
    exact ⟨_, _, (hM.pick [3] rfl rfl), ((api_Bitmap.mk v13.Size v22), 0), hm, A23, n24, c25, s26, rfl, hd27, hn28, rfl⟩
theorem image_sizes_lift {H : Hp} (x0 : List (List Sec)) {A1 : Option Addr} {n1 c1 : Nat} {s1 : List Value} (hF1 : Fz (α := List Sec) H A1 n1 c1 x0 s1) {Φ : List Int → Prop} (hm : image_sizes_W x0 Φ) : RetP Tryd.prog 111 #[.slice A1 n1 c1] H (fun H' v L => ∃ y, Φ y ∧ ∃ A8, ∃ n8, ∃ c8, ∃ s8, v = .slice A8 n8 c8 ∧ DtL (α := Int) H' s8 y ∧ n8 = y.length ∧ L = [.row (.slice A8 n8 c8) 3 1 n8 s8]) := by
 refine RetP.of_code Tryd.func111 rfl (Nat.le_of_ble_eq_true rfl) fun w0 hM => ?_
 refine CW.seq <| CW.region <| RW.st (Ex.assign (.slice none 0 0) rfl) rfl <| RW.nil <| CW.seq <| CW.region <| RW.st (Ex.move (.slice A1 n1 c1) rfl) rfl ?_
 refine RW.callP hM (image_mapped_api_Sector_int__image_sizes_1_lift x0 hF1 hm) en146 rfl rfl rfl rfl ?_; rintro _ w H3 _ hle4 ⟨v2, hm, A5, n5, c5, s5, rfl, hd6, hn7, rfl⟩ hM
 replace hM : Mem w0 H w H3 [.row (.slice A5 n5 c5) 3 1 n5 s5] := hM
 refine RW.st (Ex.assign (.slice A5 n5 c5) rfl) rfl <| RW.nil <| CW.ret ?_
 refine end_tmp (.inl rfl) rfl (.slice A5 n5 c5) rfl ?_
 exact ⟨_, _, hM, v2, hm, A5, n5, c5, s5, rfl, hd6, hn7, rfl⟩
theorem slices_ContainsFunc_int_int__image_checkSizes_1_lift {H : Hp} (x0 : List Int) {A1 : Option Addr} {n1 c1 : Nat} {s1 : List Value} (hF1 : Fz (α := Int) H A1 n1 c1 x0 s1) {Φ : Bool → Prop} (hm : slices_ContainsFunc_int_int__image_checkSizes_1_W x0 Φ) : RetP Tryd.prog 140 #[.slice A1 n1 c1, .func (.func 145) #[] #[]] H (fun _ v L => ∃ y, Φ y ∧ v = .bool y ∧ L = []) := by
 refine RetP.of_code Tryd.func140 rfl (Nat.le_of_ble_eq_true rfl) fun w0 hM => ?_
 refine CW.seq <| CW.region <| RW.st (Ex.assign (.bool false) rfl) rfl <| RW.nil <| CW.seq <| CW.region <| RW.st (Ex.move (.slice A1 n1 c1) rfl) rfl <| RW.st (Ex.move (.func (.func 145) #[] #[]) rfl) rfl ?_
 refine RW.callP hM (slices_IndexFunc_int_int__image_checkSizes_1_lift x0 hF1 hm) en157 rfl rfl rfl rfl ?_; rintro _ w H3 _ hle4 ⟨v2, hm, rfl, rfl⟩ hM
 replace hM : Mem w0 H w H3 [] := hM
 refine RW.st (Ex.geq rfl rfl) rfl <| RW.st (Ex.assign (.bool (decide (0 ≤ v2))) rfl) rfl <| RW.nil <| CW.ret ?_
 refine end_tmp (.inl rfl) rfl (.bool (decide (0 ≤ v2))) rfl ?_
 exact ⟨_, _, hM, decide (0 ≤ v2), hm, rfl, rfl⟩
theorem delta_alike_lift {H : Hp} (x0 : List (List Sec)) (x1 : List (List Sec)) {A1 : Option Addr} {n1 c1 : Nat} {s1 : List Value} (hF1 : Fz (α := List Sec) H A1 n1 c1 x0 s1) {A2 : Option Addr} {n2 c2 : Nat} {s2 : List Value} (hF2 : Fz (α := List Sec) H A2 n2 c2 x1 s2) {Φ : Bool → Prop} (hm : delta_alike_W x0 x1 Φ) : RetP Tryd.prog 98 #[.slice A1 n1 c1, .slice A2 n2 c2] H (fun _ v L => ∃ y, Φ y ∧ v = .bool y ∧ L = []) := by
 refine RetP.of_code Tryd.func98 rfl (Nat.le_of_ble_eq_true rfl) fun w0 hM => ?_
 refine CW.seq <| CW.region <| RW.st (Ex.assign (.bool false) rfl) rfl <| RW.nil <| CW.seq <| CW.region <| RW.st (Ex.move (.slice A1 n1 c1) rfl) rfl <| RW.st (Ex.move (.slice A2 n2 c2) rfl) rfl ?_
 refine RW.callP hM (slices_EqualFunc_api_Image_api_Image_api_Sector_api_Sector__delta_alike_1_lift x0 x1 hF1 hF2 hm) en135 rfl rfl rfl rfl ?_; rintro _ w H4 _ hle5 ⟨v3, hm, rfl, rfl⟩ hM
 replace hM : Mem w0 H w H4 [] := hM
 refine RW.st (Ex.assign (.bool v3) rfl) rfl <| RW.nil <| CW.ret ?_
 refine end_tmp (.inl rfl) rfl (.bool v3) rfl ?_
 exact ⟨_, _, hM, v3, hm, rfl, rfl⟩
theorem bitmap_both__bitmap_Or_1_lift {H : Hp} (x0 : api_Bitmap) (x1 : api_Bitmap) {A1 : Option Addr} {n1 c1 : Nat} {s1 : List Value} (hF1 : Fz (α := BitVec 64) H A1 n1 c1 x0.Words s1) {A2 : Option Addr} {n2 c2 : Nat} {s2 : List Value} (hF2 : Fz (α := BitVec 64) H A2 n2 c2 x1.Words s2) {Φ : api_Bitmap × Int → Prop} (hm : bitmap_both__bitmap_Or_1_W x0 x1 Φ) : RetP Tryd.prog 125 #[.agg #[.int .i64 x0.Size, .slice A1 n1 c1], .agg #[.int .i64 x1.Size, .slice A2 n2 c2], .func (.func 126) #[] #[]] H (fun H' v L => ∃ y, Φ y ∧ ∃ A47, ∃ n47, ∃ c47, ∃ s47, v = .tuple #[.agg #[.int .i64 (y.1.Size), .slice A47 n47 c47], .int .i64 (y.2)] ∧ DtL (α := BitVec 64) H' s47 y.1.Words ∧ n47 = y.1.Words.length ∧ L = [.row (.slice A47 n47 c47) 151 1 n47 s47]) := by
 refine RetP.of_code Tryd.func125 rfl (Nat.le_of_ble_eq_true rfl) fun w0 hM => ?_
 refine CW.seq <| CW.region ?_
 refine RW.box hM (.agg #[.int .i64 x0.Size, .slice A1 n1 c1]) [.int .i64 x0.Size, .slice A1 n1 c1] rfl rfl rfl rfl ?_; intro b3 w hM
 replace hM : Mem w0 H w H [.box b3 65 [.int .i64 x0.Size, .slice A1 n1 c1]] := hM
 refine RW.box hM (.agg #[.int .i64 x1.Size, .slice A2 n2 c2]) [.int .i64 x1.Size, .slice A2 n2 c2] rfl rfl rfl rfl ?_; intro b4 w hM
 replace hM : Mem w0 H w H [.box b4 65 [.int .i64 x1.Size, .slice A2 n2 c2], .box b3 65 [.int .i64 x0.Size, .slice A1 n1 c1]] := hM
 refine RW.alloc hM tz65 [.int .i64 0, .slice none 0 0] rfl rfl rfl ?_; intro b5 w hM
 replace hM : Mem w0 H w H [.box b5 65 [.int .i64 0, .slice none 0 0], .box b4 65 [.int .i64 x1.Size, .slice A2 n2 c2], .box b3 65 [.int .i64 x0.Size, .slice A1 n1 c1]] := hM
 refine RW.st (Ex.assign (.int .i64 0) rfl) rfl <| RW.nil <| CW.seq <| CW.seq <| CW.region <| RW.st (Ex.loadA hM 2 [.int .i64 x0.Size, .slice A1 n1 c1] ta65 rfl rfl rfl rfl) rfl ?_
 refine RW.callP hM (bitmap_Check_lift x0 hF1 hm) en94 rfl rfl rfl rfl ?_; rintro _ w H7 _ hle8 ⟨v6, hm, rfl, rfl⟩ hM
 replace hM : Mem w0 H w H7 [.box b5 65 [.int .i64 0, .slice none 0 0], .box b4 65 [.int .i64 x1.Size, .slice A2 n2 c2], .box b3 65 [.int .i64 x0.Size, .slice A1 n1 c1]] := hM
 refine RW.st (Ex.assign (.int .i64 v6) rfl) rfl <| RW.nil <| CW.seq <| CW.region <| RW.st (Ex.move (.int .i64 v6) rfl) rfl <| RW.st (Ex.neq rfl rfl) rfl <| RW.nil ?_
 refine CW.cond_dec (p := v6 ≠ 0) rfl (fun hc9 => ?_) (fun hc9 => ?_)
 ·
  replace hm := And.left hm hc9
  refine CW.seq <| CW.region <| RW.st (Ex.build bs65 [] [.int .i64 0, .slice none 0 0] rfl rfl) rfl <| RW.st (Ex.move (.int .i64 v6) rfl) rfl ?_
  refine RW.store hM 0 (.agg #[.int .i64 0, .slice none 0 0]) [.int .i64 0, .slice none 0 0] [.int .i64 0, .slice none 0 0] sz65 rfl rfl rfl (oneAll ⟨rfl, rfl, trivial⟩) rfl (Nat.le_of_ble_eq_true rfl) rfl [.box b5 65 [.int .i64 0, .slice none 0 0], .box b4 65 [.int .i64 x1.Size, .slice A2 n2 c2], .box b3 65 [.int .i64 x0.Size, .slice A1 n1 c1]] rfl rfl rfl ?_; intro w hM
  refine RW.st (Ex.assign (.int .i64 v6) rfl) rfl <| RW.nil <| CW.ret ?_
  refine thenQ_ret ?_
  refine end_cell_tmp (k := 0) (.inl rfl) rfl hM rfl (.int .i64 v6) rfl ta65 [.int .i64 0, .slice none 0 0] rfl rfl ?_
  replace hM := hM.nilRow 151 1
  exact ⟨_, _, (hM.pick [0] rfl rfl), ((api_Bitmap.mk 0 ([] : List (BitVec 64))), v6), hm, none, 0, 0, [], rfl, (DtL.nil : DtL _ [] ([] : List (BitVec 64))), rfl, rfl⟩
 ·
  replace hm := And.right hm hc9
  refine CW.skip <| CW.seq <| CW.seq <| CW.region <| RW.st (Ex.loadA hM 1 [.int .i64 x1.Size, .slice A2 n2 c2] ta65 rfl rfl rfl rfl) rfl ?_
  refine RW.callP hM (bitmap_Check_lift x1 (hF2.mono hle8) hm) en94 rfl rfl rfl rfl ?_; rintro _ w H11 _ hle12 ⟨v10, hm, rfl, rfl⟩ hM
  replace hM : Mem w0 H w H11 [.box b5 65 [.int .i64 0, .slice none 0 0], .box b4 65 [.int .i64 x1.Size, .slice A2 n2 c2], .box b3 65 [.int .i64 x0.Size, .slice A1 n1 c1]] := hM
  refine RW.st (Ex.assign (.int .i64 v10) rfl) rfl <| RW.nil <| CW.seq <| CW.region <| RW.st (Ex.move (.int .i64 v10) rfl) rfl <| RW.st (Ex.neq rfl rfl) rfl <| RW.nil ?_
  refine CW.cond_dec (p := v10 ≠ 0) rfl (fun hc13 => ?_) (fun hc13 => ?_)
  ·
   replace hm := And.left hm hc13
   refine CW.seq <| CW.region <| RW.st (Ex.build bs65 [] [.int .i64 0, .slice none 0 0] rfl rfl) rfl <| RW.st (Ex.move (.int .i64 v10) rfl) rfl ?_
   refine RW.store hM 0 (.agg #[.int .i64 0, .slice none 0 0]) [.int .i64 0, .slice none 0 0] [.int .i64 0, .slice none 0 0] sz65 rfl rfl rfl (oneAll ⟨rfl, rfl, trivial⟩) rfl (Nat.le_of_ble_eq_true rfl) rfl [.box b5 65 [.int .i64 0, .slice none 0 0], .box b4 65 [.int .i64 x1.Size, .slice A2 n2 c2], .box b3 65 [.int .i64 x0.Size, .slice A1 n1 c1]] rfl rfl rfl ?_; intro w hM
   refine RW.st (Ex.assign (.int .i64 v10) rfl) rfl <| RW.nil <| CW.ret ?_
   refine thenQ_ret ?_
   refine end_cell_tmp (k := 0) (.inl rfl) rfl hM rfl (.int .i64 v10) rfl ta65 [.int .i64 0, .slice none 0 0] rfl rfl ?_
   replace hM := hM.nilRow 151 1
   exact ⟨_, _, (hM.pick [0] rfl rfl), ((api_Bitmap.mk 0 ([] : List (BitVec 64))), v10), hm, none, 0, 0, [], rfl, (DtL.nil : DtL _ [] ([] : List (BitVec 64))), rfl, rfl⟩
  ·
   replace hm := And.right hm hc13
   refine CW.skip <| CW.seq <| CW.seq <| CW.region <| RW.st (Ex.fieldAddr fa65_0 rfl) rfl <| RW.st (Ex.load1 hM 2 to3 rfl rfl rfl) rfl <| RW.st (Ex.fieldAddr fa65_0 rfl) rfl <| RW.st (Ex.load1 hM 1 to3 rfl rfl rfl) rfl <| RW.st (Ex.neq rfl rfl) rfl <| RW.nil ?_
   refine CW.cond_dec (p := x0.Size ≠ x1.Size) rfl (fun hc14 => ?_) (fun hc14 => ?_)
   ·
    replace hm := And.left hm hc14
    refine CW.seq <| CW.region <| RW.st (Ex.build bs65 [] [.int .i64 0, .slice none 0 0] rfl rfl) rfl ?_
    refine RW.store hM 0 (.agg #[.int .i64 0, .slice none 0 0]) [.int .i64 0, .slice none 0 0] [.int .i64 0, .slice none 0 0] sz65 rfl rfl rfl (oneAll ⟨rfl, rfl, trivial⟩) rfl (Nat.le_of_ble_eq_true rfl) rfl [.box b5 65 [.int .i64 0, .slice none 0 0], .box b4 65 [.int .i64 x1.Size, .slice A2 n2 c2], .box b3 65 [.int .i64 x0.Size, .slice A1 n1 c1]] rfl rfl rfl ?_; intro w hM
    refine RW.st (Ex.assign (.int .i64 22) rfl) rfl <| RW.nil <| CW.ret ?_
    refine thenQ_ret ?_
    refine end_cell_tmp (k := 0) (.inl rfl) rfl hM rfl (.int .i64 22) rfl ta65 [.int .i64 0, .slice none 0 0] rfl rfl ?_
    replace hM := hM.nilRow 151 1
    exact ⟨_, _, (hM.pick [0] rfl rfl), ((api_Bitmap.mk 0 ([] : List (BitVec 64))), 22), hm, none, 0, 0, [], rfl, (DtL.nil : DtL _ [] ([] : List (BitVec 64))), rfl, rfl⟩
   ·
    replace hm := And.right hm hc14
    refine CW.skip <| CW.seq <| CW.region <| RW.st (Ex.fieldAddr fa65_1 rfl) rfl <| RW.st (Ex.load1 hM 2 to63 rfl rfl rfl) rfl <| RW.st (Ex.lenN st63.1 rfl hF1.hn) rfl ?_
    obtain ⟨hg21, hm⟩ := hm
    obtain ⟨hg22, hm⟩ := hm
    refine RW.makeD (α := BitVec 64) (x0 := 0#64) hM st63 tz151 [.int .u64 (0)] rfl (fun _ => rfl) rfl rfl hg21 hg22 rfl rfl ?_; intro b15 n16 s18 w hd19 hn20 hM
    replace hM : Mem w0 H w H11 [.row (.slice (some ⟨b15, 0, none⟩) n16 n16) 151 1 n16 s18, .box b5 65 [.int .i64 0, .slice none 0 0], .box b4 65 [.int .i64 x1.Size, .slice A2 n2 c2], .box b3 65 [.int .i64 x0.Size, .slice A1 n1 c1]] := hM
    refine RW.st (Ex.assign (.slice (some ⟨b15, 0, none⟩) n16 n16) rfl) rfl <| RW.nil <| CW.seq <| CW.seq <| CW.region <| RW.st (Ex.move (.slice (some ⟨b15, 0, none⟩) n16 n16) rfl) rfl <| RW.st (Ex.lenN st63.1 rfl hn20) rfl <| RW.st (Ex.move (.int .i64 0) rfl) rfl <| RW.nil <| CW.block ?_
    obtain ⟨m46, hm⟩ := hm
    skip
    refine CW.loop (β := Nat) (fun n σ w => ∃ (v25 : List (BitVec 64)), ∃ (A26 : Option Addr), ∃ (n27 : Nat), ∃ (c28 : Nat), ∃ (s29 : List Value), ∃ (v32 : Int), ∃ Hk23, H11.le Hk23 ∧ (∃ τ, σ = sl [(2, .func (.func 126) #[] #[]), (3, .pointer (some ⟨b3, 0, none⟩)), (4, .pointer (some ⟨b4, 0, none⟩)), (6, .pointer (some ⟨b5, 0, none⟩)), (10, .slice A26 n27 c28), (35, .int .i64 (((List.replicate (x0.Words.length : Int).toNat (0#64)).length : Int))), (36, .int .i64 v32)] τ) ∧ Mem w0 H w Hk23 [.box b3 65 [.int .i64 x0.Size, .slice A1 n1 c1], .box b4 65 [.int .i64 x1.Size, .slice A2 n2 c2], .box b5 65 [.int .i64 0, .slice none 0 0], .row (.slice A26 n27 c28) 151 1 n27 s29] ∧ (DtL (α := BitVec 64) Hk23 s29 v25) ∧ (n27 = v25.length) ∧ LoopN (bitmap_both__bitmap_Or_1_L1 x0 x1 Φ) n (v25, v32)) (fun n => n) m46 ⟨(List.replicate (x0.Words.length : Int).toNat (0#64)), (some ⟨b15, 0, none⟩), n16, n16, s18, 0, H11, (Hp.le.refl _), sl_canon ⟨rfl, rfl, rfl, rfl, rfl, rfl, rfl, trivial⟩, (hM.pick [3, 2, 1, 0] rfl rfl), hd19, hn20, hm⟩ ?_
    rintro k33 _ w ⟨v25, A26, n27, c28, s29, v32, Hk23, hle24, ⟨τ, rfl⟩, hM, hd30, hn31, hm⟩
    obtain _ | k33 := k33
    · exact hm.elim
    replace hm : (bitmap_both__bitmap_Or_1_L1 x0 x1 Φ) (v25, v32) (LoopN (bitmap_both__bitmap_Or_1_L1 x0 x1 Φ) k33) := hm
    generalize hrec34 : LoopN (bitmap_both__bitmap_Or_1_L1 x0 x1 Φ) k33 = rec1 at hm
    refine CW.seq <| CW.region <| RW.st (Ex.lss rfl rfl) rfl <| RW.nil <| CW.seq ?_
    refine CW.cond_dec (p := v32 < ((List.replicate (x0.Words.length : Int).toNat (0#64)).length : Int)) rfl (fun hc35 => ?_) (fun hc35 => ?_)
    ·
     replace hm := And.left hm hc35
     refine CW.skip <| CW.seq <| CW.block <| CW.seq <| CW.region <| RW.st (Ex.move (.int .i64 v32) rfl) rfl <| RW.st (Ex.assign (.int .i64 v32) rfl) rfl <| RW.nil ?_
     obtain ⟨hg36, hm⟩ := hm
     obtain ⟨_, rfl, hx37⟩ := DtL.getI (α := BitVec 64) (hF1.mono ((hle8.trans hle12).trans hle24)).dat hg36
     obtain ⟨hg38, hm⟩ := hm
     obtain ⟨_, rfl, hx39⟩ := DtL.getI (α := BitVec 64) (hF2.mono ((hle8.trans hle12).trans hle24)).dat hg38
     obtain ⟨v40, hW41, hm⟩ := hm
     refine CW.drawE 14 [.slice A26 n27 c28, .int .i64 v32, .func (.func 126) #[] #[], .pointer (some ⟨b3, 1, none⟩), .slice A1 n1 c1, .int .i64 v32, elp A1 (v32.toNat * 1 + 0), u64 ((ix x0.Words v32)), .pointer (some ⟨b4, 1, none⟩), .slice A2 n2 c2, .int .i64 v32, elp A2 (v32.toNat * 1 + 0), u64 ((ix x1.Words v32)), u64 (v40)]
      [[(10, none)], [(11, none)], [(2, none)], [(3, none)], [(42, some 3)], [(11, none)], [(43, some 4), (44, some 5)], [(45, some 6)], [(4, none)], [(47, some 8)], [(11, none)], [(48, some 9), (49, some 10)], [(50, some 11)], [(41, some 2), (46, some 7), (51, some 12)]] [(2, none), (3, none), (4, none), (6, none), (10, none), (35, none), (36, none), (39, some 0), (40, some 1), (52, some 13)] (by kernel_rfl) hM (by kernel_rfl) ⟨?_, ?_, ?_, ?_, ?_, ?_, ?_, ?_, ?_, ?_, ?_, ?_, ?_, ?_, trivial⟩ ?_
     · exact One.ex (fun H' τ w hled hM => Ex.move (.slice A26 n27 c28) rfl) rfl (fun _ => rfl) rfl
     · exact One.ex (fun H' τ w hled hM => Ex.move (.int .i64 v32) rfl) rfl (fun _ => rfl) rfl
     · exact One.ex (fun H' τ w hled hM => Ex.move (.func (.func 126) #[] #[]) rfl) rfl (fun _ => rfl) rfl
     · exact One.ex (fun H' τ w hled hM => Ex.fieldAddr fa65_1 rfl) rfl (fun _ => rfl) rfl
     · exact One.ex (fun H' τ w hled hM => Ex.load1 hM 0 to63 rfl rfl rfl) rfl (fun _ => rfl) rfl
     · exact One.ex (fun H' τ w hled hM => Ex.move (.int .i64 v32) rfl) rfl (fun _ => rfl) rfl
     · exact One.ex (fun H' τ w hled hM => Ex.index st63 rfl rfl v32.toNat (hF1.ne hg36) hg36.nat (hF1.lt hg36)) rfl (fun _ => rfl) rfl
     · exact One.ex (fun H' τ w hled hM => Ex.loadE hM (((hle8.trans hle12).trans hle24).trans hled) hF1.rdc to151 rfl (hx37 0 _ rfl)) rfl (fun _ => rfl) rfl
     · exact One.ex (fun H' τ w hled hM => Ex.fieldAddr fa65_1 rfl) rfl (fun _ => rfl) rfl
     · exact One.ex (fun H' τ w hled hM => Ex.load1 hM 1 to63 rfl rfl rfl) rfl (fun _ => rfl) rfl
     · exact One.ex (fun H' τ w hled hM => Ex.move (.int .i64 v32) rfl) rfl (fun _ => rfl) rfl
     · exact One.ex (fun H' τ w hled hM => Ex.index st63 rfl rfl v32.toNat (hF2.ne hg38) hg38.nat (hF2.lt hg38)) rfl (fun _ => rfl) rfl
     · exact One.ex (fun H' τ w hled hM => Ex.loadE hM (((hle8.trans hle12).trans hle24).trans hled) hF2.rdc to151 rfl (hx39 0 _ rfl)) rfl (fun _ => rfl) rfl
     · exact One.call (bitmap_Or_1_lift (ix x0.Words v32) (ix x1.Words v32) hW41).toV en126 (fun _ => rfl) (fun _ => rfl) (fun _ => rfl) rfl
     intro τ w hM
     change RW _ _ _ _ _ _ _ _ (sl [(2, .func (.func 126) #[] #[]), (3, .pointer (some ⟨b3, 0, none⟩)), (4, .pointer (some ⟨b4, 0, none⟩)), (6, .pointer (some ⟨b5, 0, none⟩)), (10, .slice A26 n27 c28), (35, .int .i64 (((List.replicate (x0.Words.length : Int).toNat (0#64)).length : Int))), (36, .int .i64 v32), (39, .slice A26 n27 c28), (40, .int .i64 v32), (52, u64 (v40))] τ) _
     obtain ⟨hg42, hm⟩ := hm
     refine RW.st (Ex.index st63 rfl rfl v32.toNat (hM.rowNeD (α := BitVec 64) (p := 3) rfl hn31 hg42) hg42.nat (Nat.lt_of_lt_of_eq hg42.lt (hn31).symm)) rfl ?_
     refine RW.storeD (α := BitVec 64) (off := 0) (x' := v40) hM 3 hd30 (u64 (v40)) [u64 (v40)] sz151 rfl hn31 hg42 (Nat.le_of_ble_eq_true rfl) rfl rfl (oneAll ⟨rfl, trivial⟩) rfl (fun ch h => rdWhole h (show Dt.rd (α := BitVec 64) _ [u64 (v40)] v40 from rfl)) rfl rfl ?_
     intro s43 w hd44 hM
     replace hM : Mem w0 H w Hk23 [.box b3 65 [.int .i64 x0.Size, .slice A1 n1 c1], .box b4 65 [.int .i64 x1.Size, .slice A2 n2 c2], .box b5 65 [.int .i64 0, .slice none 0 0], .row (.slice A26 n27 c28) 151 1 n27 s43] := hM
     refine RW.nil <| CW.region ?_
     obtain ⟨hg45, hm⟩ := hm
     refine RW.st (Ex.add rfl rfl hg45.1 hg45.2) rfl <| RW.st (Ex.move (.int .i64 (v32 + 1)) rfl) rfl <| RW.nil ?_
     exact And.intro rfl ⟨k33, ⟨(put v25 v32 v40), A26, n27, c28, s43, v32 + 1, Hk23, hle24.trans (Hp.le.refl _), sl_canon ⟨rfl, rfl, rfl, rfl, rfl, rfl, rfl, trivial⟩, hM, hd44, (hn31).trans (put_len _ _ _).symm, (by rw [hrec34]; exact hm)⟩, Nat.lt_succ_self _⟩
    ·
     replace hm := And.right hm hc35
     refine CW.exit ?_
     refine CW.seq <| CW.region <| RW.st (Ex.fieldAddr fa65_0 rfl) rfl <| RW.st (Ex.load1 hM 0 to3 rfl rfl rfl) rfl <| RW.st (Ex.move (.slice A26 n27 c28) rfl) rfl <| RW.st (Ex.build bs65 [(0, .int .i64 x0.Size), (1, .slice A26 n27 c28)] [.int .i64 x0.Size, .slice A26 n27 c28] rfl rfl) rfl ?_
     refine RW.store hM 2 (.agg #[.int .i64 x0.Size, .slice A26 n27 c28]) [.int .i64 x0.Size, .slice A26 n27 c28] [.int .i64 x0.Size, .slice A26 n27 c28] sz65 rfl rfl rfl (oneAll ⟨rfl, rfl, trivial⟩) rfl (Nat.le_of_ble_eq_true rfl) rfl [.box b3 65 [.int .i64 x0.Size, .slice A1 n1 c1], .box b4 65 [.int .i64 x1.Size, .slice A2 n2 c2], .box b5 65 [.int .i64 x0.Size, .slice A26 n27 c28], .row (.slice A26 n27 c28) 151 1 n27 s29] rfl rfl rfl ?_; intro w hM
     refine RW.st (Ex.assign (.int .i64 0) rfl) rfl <| RW.nil <| CW.ret ?_
     refine end_cell_tmp (k := 2) (.inl rfl) rfl hM rfl (.int .i64 0) rfl ta65 [.int .i64 x0.Size, .slice A26 n27 c28] rfl rfl ?_
     exact ⟨_, _, (hM.pick [3] rfl rfl), ((api_Bitmap.mk x0.Size v25), 0), hm, A26, n27, c28, s29, rfl, hd30, hn31, rfl⟩
theorem delta_Ancestor_lift {H : Hp} (x0 : List api_Span) (x1 : List api_Span) {A1 : Option Addr} {n1 c1 : Nat} {s1 : List Value} (hF1 : Fz (α := api_Span) H A1 n1 c1 x0 s1) {A2 : Option Addr} {n2 c2 : Nat} {s2 : List Value} (hF2 : Fz (α := api_Span) H A2 n2 c2 x1 s2) {Φ : Int × Int → Prop} (hm : delta_Ancestor_W x0 x1 Φ) : RetP Tryd.prog 50 #[.slice A1 n1 c1, .slice A2 n2 c2] H (fun _ v L => ∃ y, Φ y ∧ v = .tuple #[.int .i64 (y.1), .int .i64 (y.2)] ∧ L = []) := by
 refine RetP.of_code Tryd.func50 rfl (Nat.le_of_ble_eq_true rfl) fun w0 hM => ?_
 refine CW.seq <| CW.region <| RW.st (Ex.assign (.int .i64 0) rfl) rfl <| RW.st (Ex.assign (.int .i64 0) rfl) rfl <| RW.nil ?_
 refine CW.cut (fun D σ w => D = [] ∧ ∃ Hk3, H.le Hk3 ∧ (∃ τ, σ = sl [(0, .slice A1 n1 c1), (1, .slice A2 n2 c2)] τ) ∧ Mem w0 H w Hk3 [] ∧ delta_Ancestor_J1 x0 x1 Φ) ?_ ?_
 ·
  refine CW.seq <| CW.region <| RW.st (Ex.move (.slice A1 n1 c1) rfl) rfl ?_
  refine RW.callP hM (delta_correct_lift x0 hF1 hm) en93 rfl rfl rfl rfl ?_; rintro _ w H73 _ hle74 ⟨v72, hm, rfl, rfl⟩ hM
  replace hM : Mem w0 H w H73 [] := hM
  refine RW.st (Ex.not (p := v72 = true) (bvar _)) rfl <| RW.st (Ex.move (.bool (decide (¬ (v72 = true)))) rfl) rfl ?_
  refine RW.split 12 (p := ¬ (v72 = true)) rfl (fun hc75 => ?_) (fun hc75 => ?_)
  ·
   replace hm := And.left hm hc75
   refine RW.pass rfl rfl <| RW.pass rfl rfl <| RW.pass rfl rfl <| RW.st (Ex.pickT (.bool true) rfl rfl) rfl <| RW.nil <| CW.cond_true rfl <| CW.seq <| CW.region <| RW.st (Ex.assign (.int .i64 0) rfl) rfl <| RW.st (Ex.assign (.int .i64 0) rfl) rfl <| RW.nil <| CW.ret ?_
   refine thenQ_ret ?_
   refine end_tmp2 (.inl rfl) rfl (.int .i64 0) (.int .i64 0) rfl rfl ?_
   exact ⟨_, _, hM, (0, 0), hm, rfl, rfl⟩
  ·
   replace hm := And.right hm hc75
   refine RW.st (Ex.move (.slice A2 n2 c2) rfl) rfl ?_
   refine RW.callP hM (delta_correct_lift x1 (hF2.mono hle74) hm) en93 rfl rfl rfl rfl ?_; rintro _ w H77 _ hle78 ⟨v76, hm, rfl, rfl⟩ hM
   replace hM : Mem w0 H w H77 [] := hM
   refine RW.st (Ex.not (p := v76 = true) (bvar _)) rfl <| RW.st (Ex.pickF (.bool (decide (¬ (v76 = true)))) rfl rfl) rfl <| RW.nil ?_
   refine CW.cond_dec (p := ¬ (v76 = true)) rfl (fun hc79 => ?_) (fun hc79 => ?_)
   ·
    replace hm := And.left hm hc79
    refine CW.seq <| CW.region <| RW.st (Ex.assign (.int .i64 0) rfl) rfl <| RW.st (Ex.assign (.int .i64 0) rfl) rfl <| RW.nil <| CW.ret ?_
    refine thenQ_ret ?_
    refine end_tmp2 (.inl rfl) rfl (.int .i64 0) (.int .i64 0) rfl rfl ?_
    exact ⟨_, _, hM, (0, 0), hm, rfl, rfl⟩
   ·
    replace hm := And.right hm hc79
    refine CW.skip ?_
    exact And.intro rfl ⟨H77, (hle74.trans hle78), sl_canon ⟨rfl, rfl, trivial⟩, hM, hm⟩
 rintro _ _ w ⟨rfl, Hk3, hle4, ⟨τ, rfl⟩, hM, hm⟩
 refine CW.seq <| CW.region <| RW.st (Ex.assign (.int .i64 0) rfl) rfl <| RW.st (Ex.assign (.int .i64 0) rfl) rfl <| RW.nil <| CW.seq <| CW.seq <| CW.region <| RW.st (Ex.assign (.int .i64 0) rfl) rfl <| RW.nil <| CW.block ?_
 obtain ⟨m67, hm⟩ := hm
 skip
 refine CW.loop (β := Nat) (fun n σ w => ∃ (v11 : Int), ∃ (v12 : Int), ∃ (v13 : Int), ∃ Hk9, Hk3.le Hk9 ∧ (∃ τ, σ = sl [(0, .slice A1 n1 c1), (1, .slice A2 n2 c2), (6, .int .i64 v11), (7, .int .i64 v12), (8, .int .i64 v13)] τ) ∧ Mem w0 H w Hk9 [] ∧ LoopN (delta_Ancestor_L3 x0 x1 Φ) n (v11, v12, v13)) (fun n => n) m67 ⟨0, 0, 0, Hk3, (Hp.le.refl _), sl_canon ⟨rfl, rfl, rfl, rfl, rfl, trivial⟩, hM, hm⟩ ?_
 rintro k14 _ w ⟨v11, v12, v13, Hk9, hle10, ⟨τ, rfl⟩, hM, hm⟩
 obtain _ | k14 := k14
 · exact hm.elim
 replace hm : (delta_Ancestor_L3 x0 x1 Φ) (v11, v12, v13) (LoopN (delta_Ancestor_L3 x0 x1 Φ) k14) := hm
 generalize hrec15 : LoopN (delta_Ancestor_L3 x0 x1 Φ) k14 = rec3 at hm
 refine CW.seq ?_
 obtain ⟨hG66, hm⟩ := hm
 refine CW.cut (fun D σ w => D = [] ∧ (∃ τ, σ = sl [(0, .slice A1 n1 c1), (1, .slice A2 n2 c2), (6, .int .i64 v11), (7, .int .i64 v12), (8, .int .i64 v13), (36, .bool (decide ((v13 < (if (x1.length : Int) < (x0.length : Int) then (x1.length : Int) else (x0.length : Int))) ∧ (((ix x0 v13).Epoch) = ((ix x1 v13).Epoch)))))] τ) ∧ Mem w0 H w Hk9 []) ?_ ?_
 ·
  replace hm := hG66
  by_cases hc16 : v13 < (if (x1.length : Int) < (x0.length : Int) then (x1.length : Int) else (x0.length : Int))
  ·
   replace hm := hm hc16
   obtain ⟨hg17, hm⟩ := hm
   obtain ⟨_, rfl, hx18⟩ := DtL.getI (α := api_Span) (hF1.mono (hle4.trans hle10)).dat hg17
   have hg19 := hm
   obtain ⟨_, rfl, hx20⟩ := DtL.getI (α := api_Span) (hF2.mono (hle4.trans hle10)).dat hg19
   refine CW.drawE 20 [.int .i64 v13, .slice A1 n1 c1, .int .i64 ((x0.length : Int)), .slice A2 n2 c2, .int .i64 ((x1.length : Int)), .int .i64 (if (x1.length : Int) < (x0.length : Int) then (x1.length : Int) else (x0.length : Int)), .bool true, .bool true, .slice A1 n1 c1, .int .i64 v13, elp A1 (v13.toNat * 3 + 0), elp A1 (v13.toNat * 3 + 0), .int .i64 ((ix x0 v13).Epoch), .slice A2 n2 c2, .int .i64 v13, elp A2 (v13.toNat * 3 + 0), elp A2 (v13.toNat * 3 + 0), .int .i64 ((ix x1 v13).Epoch), .bool (decide (((ix x0 v13).Epoch) = ((ix x1 v13).Epoch))), .bool (decide (((ix x0 v13).Epoch) = ((ix x1 v13).Epoch)))]
    [[(8, none)], [(0, none)], [(18, some 1)], [(1, none)], [(20, some 3)], [(19, some 2), (21, some 4)], [(17, some 0), (22, some 5)], [(23, some 6)], [(0, none), (24, some 7)], [(8, none), (24, some 7)], [(24, some 7), (25, some 8), (26, some 9)], [(24, some 7), (27, some 10)], [(24, some 7), (28, some 11)], [(1, none), (24, some 7)], [(8, none), (24, some 7)], [(24, some 7), (30, some 13), (31, some 14)], [(24, some 7), (32, some 15)], [(24, some 7), (33, some 16)], [(24, some 7), (29, some 12), (34, some 17)], [(24, some 7), (35, some 18)]] [(0, none), (1, none), (6, none), (7, none), (8, none), (36, some 19)] (by kernel_rfl) hM (by kernel_rfl) ⟨?_, ?_, ?_, ?_, ?_, ?_, ?_, ?_, ?_, ?_, ?_, ?_, ?_, ?_, ?_, ?_, ?_, ?_, ?_, ?_, trivial⟩ ?_
   · exact One.ex (fun H' τ w hled hM => Ex.move (.int .i64 v13) rfl) rfl (fun _ => rfl) rfl
   · exact One.ex (fun H' τ w hled hM => Ex.move (.slice A1 n1 c1) rfl) rfl (fun _ => rfl) rfl
   · exact One.ex (fun H' τ w hled hM => Ex.lenN st22.1 rfl hF1.hn) rfl (fun _ => rfl) rfl
   · exact One.ex (fun H' τ w hled hM => Ex.move (.slice A2 n2 c2) rfl) rfl (fun _ => rfl) rfl
   · exact One.ex (fun H' τ w hled hM => Ex.lenN st22.1 rfl hF2.hn) rfl (fun _ => rfl) rfl
   · exact One.ex (fun H' τ w hled hM => Ex.minI rfl rfl) rfl (fun _ => rfl) rfl
   · exact One.ex (fun H' τ w hled hM => Ex.yes (Ex.lss rfl rfl) hc16) rfl (fun _ => rfl) rfl
   · exact One.ex (fun H' τ w hled hM => Ex.move (.bool true) rfl) rfl (fun _ => rfl) rfl
   · exact One.ex (fun H' τ w hled hM => Ex.move (.slice A1 n1 c1) rfl) rfl (fun _ => rfl) rfl
   · exact One.ex (fun H' τ w hled hM => Ex.move (.int .i64 v13) rfl) rfl (fun _ => rfl) rfl
   · exact One.ex (fun H' τ w hled hM => Ex.index st22 rfl rfl v13.toNat (hF1.ne hg17) hg17.nat (hF1.lt hg17)) rfl (fun _ => rfl) rfl
   · exact One.ex (fun H' τ w hled hM => Ex.fieldE fa98_0 (hF1.ne hg17) rfl) rfl (fun _ => rfl) rfl
   · exact One.ex (fun H' τ w hled hM => Ex.loadE hM ((hle4.trans hle10).trans hled) hF1.rdc to3 rfl (hx18 0 _ rfl)) rfl (fun _ => rfl) rfl
   · exact One.ex (fun H' τ w hled hM => Ex.move (.slice A2 n2 c2) rfl) rfl (fun _ => rfl) rfl
   · exact One.ex (fun H' τ w hled hM => Ex.move (.int .i64 v13) rfl) rfl (fun _ => rfl) rfl
   · exact One.ex (fun H' τ w hled hM => Ex.index st22 rfl rfl v13.toNat (hF2.ne hg19) hg19.nat (hF2.lt hg19)) rfl (fun _ => rfl) rfl
   · exact One.ex (fun H' τ w hled hM => Ex.fieldE fa98_0 (hF2.ne hg19) rfl) rfl (fun _ => rfl) rfl
   · exact One.ex (fun H' τ w hled hM => Ex.loadE hM ((hle4.trans hle10).trans hled) hF2.rdc to3 rfl (hx20 0 _ rfl)) rfl (fun _ => rfl) rfl
   · exact One.ex (fun H' τ w hled hM => Ex.eql rfl rfl) rfl (fun _ => rfl) rfl
   · exact One.ex (fun H' τ w hled hM => Ex.pickT (.bool (decide (((ix x0 v13).Epoch) = ((ix x1 v13).Epoch)))) rfl rfl) rfl (fun _ => rfl) rfl
   intro τ w hM
   change RW _ _ _ _ _ _ _ _ (sl [(0, .slice A1 n1 c1), (1, .slice A2 n2 c2), (6, .int .i64 v11), (7, .int .i64 v12), (8, .int .i64 v13), (36, .bool (decide (((ix x0 v13).Epoch) = ((ix x1 v13).Epoch))))] τ) _
   refine RW.nil ?_
   exact And.intro rfl (And.intro (sl_canon ⟨rfl, rfl, rfl, rfl, rfl, (congrArg Value.bool (decide_eq_decide.2 (imAnd hc16 Iff.rfl))), trivial⟩) hM)
  ·
   skip
   refine CW.drawE 20 [.int .i64 v13, .slice A1 n1 c1, .int .i64 ((x0.length : Int)), .slice A2 n2 c2, .int .i64 ((x1.length : Int)), .int .i64 (if (x1.length : Int) < (x0.length : Int) then (x1.length : Int) else (x0.length : Int)), .bool false, .bool false, undef, undef, undef, undef, undef, undef, undef, undef, undef, undef, undef, .bool false]
    [[(8, none)], [(0, none)], [(18, some 1)], [(1, none)], [(20, some 3)], [(19, some 2), (21, some 4)], [(17, some 0), (22, some 5)], [(23, some 6)], [(24, some 7)], [(24, some 7)], [(24, some 7)], [(24, some 7)], [(24, some 7)], [(24, some 7)], [(24, some 7)], [(24, some 7)], [(24, some 7)], [(24, some 7)], [(24, some 7)], [(24, some 7), (35, some 18)]] [(0, none), (1, none), (6, none), (7, none), (8, none), (36, some 19)] (by kernel_rfl) hM (by kernel_rfl) ⟨?_, ?_, ?_, ?_, ?_, ?_, ?_, ?_, ?_, ?_, ?_, ?_, ?_, ?_, ?_, ?_, ?_, ?_, ?_, ?_, trivial⟩ ?_
   · exact One.ex (fun H' τ w hled hM => Ex.move (.int .i64 v13) rfl) rfl (fun _ => rfl) rfl
   · exact One.ex (fun H' τ w hled hM => Ex.move (.slice A1 n1 c1) rfl) rfl (fun _ => rfl) rfl
   · exact One.ex (fun H' τ w hled hM => Ex.lenN st22.1 rfl hF1.hn) rfl (fun _ => rfl) rfl
   · exact One.ex (fun H' τ w hled hM => Ex.move (.slice A2 n2 c2) rfl) rfl (fun _ => rfl) rfl
   · exact One.ex (fun H' τ w hled hM => Ex.lenN st22.1 rfl hF2.hn) rfl (fun _ => rfl) rfl
   · exact One.ex (fun H' τ w hled hM => Ex.minI rfl rfl) rfl (fun _ => rfl) rfl
   · exact One.ex (fun H' τ w hled hM => Ex.no (Ex.lss rfl rfl) hc16) rfl (fun _ => rfl) rfl
   · exact One.ex (fun H' τ w hled hM => Ex.move (.bool false) rfl) rfl (fun _ => rfl) rfl
   · exact One.pass (fun _ => rfl) rfl
   · exact One.pass (fun _ => rfl) rfl
   · exact One.pass (fun _ => rfl) rfl
   · exact One.pass (fun _ => rfl) rfl
   · exact One.pass (fun _ => rfl) rfl
   · exact One.pass (fun _ => rfl) rfl
   · exact One.pass (fun _ => rfl) rfl
   · exact One.pass (fun _ => rfl) rfl
   · exact One.pass (fun _ => rfl) rfl
   · exact One.pass (fun _ => rfl) rfl
   · exact One.pass (fun _ => rfl) rfl
   · exact One.ex (fun H' τ w hled hM => Ex.pickF (.bool false) rfl rfl) rfl (fun _ => rfl) rfl
   intro τ w hM
   change RW _ _ _ _ _ _ _ _ (sl [(0, .slice A1 n1 c1), (1, .slice A2 n2 c2), (6, .int .i64 v11), (7, .int .i64 v12), (8, .int .i64 v13), (36, .bool false)] τ) _
   refine RW.nil ?_
   exact And.intro rfl (And.intro (sl_canon ⟨rfl, rfl, rfl, rfl, rfl, (congrArg Value.bool (decide_eq_false (fun q => hc16 q.1)).symm), trivial⟩) hM)
 rintro _ _ w ⟨rfl, ⟨τ, rfl⟩, hM⟩
 refine CW.cond_dec (p := (v13 < (if (x1.length : Int) < (x0.length : Int) then (x1.length : Int) else (x0.length : Int))) ∧ (((ix x0 v13).Epoch) = ((ix x1 v13).Epoch))) rfl (fun hc21 => ?_) (fun hc21 => ?_)
 ·
  replace hm := And.left hm hc21
  refine CW.skip <| CW.seq <| CW.block <| CW.seq ?_
  obtain ⟨hg22, hm⟩ := hm
  obtain ⟨_, rfl, hx23⟩ := DtL.getI (α := api_Span) (hF1.mono (hle4.trans hle10)).dat hg22
  obtain ⟨hg24, hm⟩ := hm
  obtain ⟨_, rfl, hx25⟩ := DtL.getI (α := api_Span) (hF2.mono (hle4.trans hle10)).dat hg24
  refine CW.drawL 18 [] [(fun Hq us E => us = [.slice A1 n1 c1] ∧ E = [] ∧ True), (fun Hq us E => us = [.int .i64 v13] ∧ E = [] ∧ True), (fun Hq us E => us = [elp A1 (v13.toNat * 3 + 0)] ∧ E = [] ∧ True), (fun Hq us E => us = [elp A1 (v13.toNat * 3 + 2)] ∧ E = [] ∧ True), (fun Hq us E => us = [.int .i64 ((ix x0 v13).To)] ∧ E = [] ∧ True), (fun Hq us E => us = [.slice A2 n2 c2] ∧ E = [] ∧ True), (fun Hq us E => us = [.int .i64 v13] ∧ E = [] ∧ True), (fun Hq us E => us = [elp A2 (v13.toNat * 3 + 0)] ∧ E = [] ∧ True), (fun Hq us E => us = [elp A2 (v13.toNat * 3 + 2)] ∧ E = [] ∧ True), (fun Hq us E => us = [.int .i64 ((ix x1 v13).To)] ∧ E = [] ∧ True), (fun Hq us E => us = [.int .i64 (if ((ix x1 v13).To) < ((ix x0 v13).To) then ((ix x1 v13).To) else ((ix x0 v13).To))] ∧ E = [] ∧ True), (fun Hq us E => us = [.slice A1 n1 c1] ∧ E = [] ∧ True), (fun Hq us E => us = [.int .i64 v13] ∧ E = [] ∧ True), (fun Hq us E => us = [elp A1 (v13.toNat * 3 + 0)] ∧ E = [] ∧ True), (fun Hq us E => us = [elp A1 (v13.toNat * 3 + 0)] ∧ E = [] ∧ True), (fun Hq us E => us = [.int .i64 ((ix x0 v13).Epoch)] ∧ E = [] ∧ True), (fun Hq us E => us = [.int .i64 (if ((ix x1 v13).To) < ((ix x0 v13).To) then ((ix x1 v13).To) else ((ix x0 v13).To))] ∧ E = [] ∧ True), (fun Hq us E => us = [.int .i64 ((ix x0 v13).Epoch)] ∧ E = [] ∧ True)]
   (fun k => [[0], [1], [2], [3], [4], [5], [6], [7], [8], [9], [10], [11], [12], [13], [14], [15], [16], [17]].getD k []) (fun _ => none) (by kernel_rfl) hM (by kernel_rfl) (by kernel_rfl) (by kernel_rfl) rfl (by simp only [List.forall_mem_cons]; exact ⟨fun _ _ _ _ hle ⟨e1, e2, _⟩ => ⟨e1, e2, trivial⟩, fun _ _ _ _ hle ⟨e1, e2, _⟩ => ⟨e1, e2, trivial⟩, fun _ _ _ _ hle ⟨e1, e2, _⟩ => ⟨e1, e2, trivial⟩, fun _ _ _ _ hle ⟨e1, e2, _⟩ => ⟨e1, e2, trivial⟩, fun _ _ _ _ hle ⟨e1, e2, _⟩ => ⟨e1, e2, trivial⟩, fun _ _ _ _ hle ⟨e1, e2, _⟩ => ⟨e1, e2, trivial⟩, fun _ _ _ _ hle ⟨e1, e2, _⟩ => ⟨e1, e2, trivial⟩, fun _ _ _ _ hle ⟨e1, e2, _⟩ => ⟨e1, e2, trivial⟩, fun _ _ _ _ hle ⟨e1, e2, _⟩ => ⟨e1, e2, trivial⟩, fun _ _ _ _ hle ⟨e1, e2, _⟩ => ⟨e1, e2, trivial⟩, fun _ _ _ _ hle ⟨e1, e2, _⟩ => ⟨e1, e2, trivial⟩, fun _ _ _ _ hle ⟨e1, e2, _⟩ => ⟨e1, e2, trivial⟩, fun _ _ _ _ hle ⟨e1, e2, _⟩ => ⟨e1, e2, trivial⟩, fun _ _ _ _ hle ⟨e1, e2, _⟩ => ⟨e1, e2, trivial⟩, fun _ _ _ _ hle ⟨e1, e2, _⟩ => ⟨e1, e2, trivial⟩, fun _ _ _ _ hle ⟨e1, e2, _⟩ => ⟨e1, e2, trivial⟩, fun _ _ _ _ hle ⟨e1, e2, _⟩ => ⟨e1, e2, trivial⟩, fun _ _ _ _ hle ⟨e1, e2, _⟩ => ⟨e1, e2, trivial⟩, by simp⟩) ⟨?_, ?_, ?_, ?_, ?_, ?_, ?_, ?_, ?_, ?_, ?_, ?_, ?_, ?_, ?_, ?_, ?_, ?_, trivial⟩ ?_
  ·
   intro H' σ' w R E hle hMR hE0 hE hp hf
   obtain rfl := hE0 rfl
   obtain ⟨τ, rfl⟩ := sl_canon (σ := σ') (l := [(0, .slice A1 n1 c1)]) ⟨(hf 0 (by kernel_rfl)).trans rfl, trivial⟩
   have hM := Mem.subR (R := R) hMR
   exact RW.step (Ex.move (.slice A1 n1 c1) rfl) rfl rfl rfl (RW.nil ⟨rfl, rfl, _, rfl, H', [], Hp.le.refl _, hMR, rfl, rfl, trivial⟩)
  ·
   intro H' σ' w R E hle hMR hE0 hE hp hf
   obtain rfl := hE0 rfl
   obtain ⟨τ, rfl⟩ := sl_canon (σ := σ') (l := [(8, .int .i64 v13)]) ⟨(hf 8 (by kernel_rfl)).trans rfl, trivial⟩
   have hM := Mem.subR (R := R) hMR
   exact RW.step (Ex.move (.int .i64 v13) rfl) rfl rfl rfl (RW.nil ⟨rfl, rfl, _, rfl, H', [], Hp.le.refl _, hMR, rfl, rfl, trivial⟩)
  ·
   intro H' σ' w R E hle hMR hE0 hE hp hf
   obtain rfl := hE0 rfl
   obtain ⟨_, hg⟩ := hp 0 (by decide) (by kernel_rfl)
   obtain ⟨e26, _, _⟩ := hg.get rfl
   have e27 : σ' 39 = .slice A1 n1 c1 := (List.cons.inj e26).1
   obtain ⟨_, hg⟩ := hp 1 (by decide) (by kernel_rfl)
   obtain ⟨e28, _, _⟩ := hg.get rfl
   have e29 : σ' 40 = .int .i64 v13 := (List.cons.inj e28).1
   obtain ⟨τ, rfl⟩ := sl_canon (σ := σ') (l := [(39, .slice A1 n1 c1), (40, .int .i64 v13)]) ⟨e27, e29, trivial⟩
   have hM := Mem.subR (R := R) hMR
   exact RW.step (Ex.index st22 rfl rfl v13.toNat (hF1.ne hg22) hg22.nat (hF1.lt hg22)) rfl rfl rfl (RW.nil ⟨rfl, rfl, _, rfl, H', [], Hp.le.refl _, hMR, rfl, rfl, trivial⟩)
  ·
   intro H' σ' w R E hle hMR hE0 hE hp hf
   obtain rfl := hE0 rfl
   obtain ⟨_, hg⟩ := hp 2 (by decide) (by kernel_rfl)
   obtain ⟨e30, _, _⟩ := hg.get rfl
   have e31 : σ' 41 = elp A1 (v13.toNat * 3 + 0) := (List.cons.inj e30).1
   obtain ⟨τ, rfl⟩ := sl_canon (σ := σ') (l := [(41, elp A1 (v13.toNat * 3 + 0))]) ⟨e31, trivial⟩
   have hM := Mem.subR (R := R) hMR
   exact RW.step (Ex.fieldE fa98_2 (hF1.ne hg22) rfl) rfl rfl rfl (RW.nil ⟨rfl, rfl, _, rfl, H', [], Hp.le.refl _, hMR, rfl, rfl, trivial⟩)
  ·
   intro H' σ' w R E hle hMR hE0 hE hp hf
   obtain rfl := hE0 rfl
   obtain ⟨_, hg⟩ := hp 3 (by decide) (by kernel_rfl)
   obtain ⟨e32, _, _⟩ := hg.get rfl
   have e33 : σ' 42 = elp A1 (v13.toNat * 3 + 2) := (List.cons.inj e32).1
   obtain ⟨τ, rfl⟩ := sl_canon (σ := σ') (l := [(42, elp A1 (v13.toNat * 3 + 2))]) ⟨e33, trivial⟩
   have hM := Mem.subR (R := R) hMR
   exact RW.step (Ex.loadE hM ((hle4.trans hle10).trans hle) hF1.rdc to3 rfl (hx23 2 _ rfl)) rfl rfl rfl (RW.nil ⟨rfl, rfl, _, rfl, H', [], Hp.le.refl _, hMR, rfl, rfl, trivial⟩)
  ·
   intro H' σ' w R E hle hMR hE0 hE hp hf
   obtain rfl := hE0 rfl
   obtain ⟨τ, rfl⟩ := sl_canon (σ := σ') (l := [(1, .slice A2 n2 c2)]) ⟨(hf 1 (by kernel_rfl)).trans rfl, trivial⟩
   have hM := Mem.subR (R := R) hMR
   exact RW.step (Ex.move (.slice A2 n2 c2) rfl) rfl rfl rfl (RW.nil ⟨rfl, rfl, _, rfl, H', [], Hp.le.refl _, hMR, rfl, rfl, trivial⟩)
  ·
   intro H' σ' w R E hle hMR hE0 hE hp hf
   obtain rfl := hE0 rfl
   obtain ⟨τ, rfl⟩ := sl_canon (σ := σ') (l := [(8, .int .i64 v13)]) ⟨(hf 8 (by kernel_rfl)).trans rfl, trivial⟩
   have hM := Mem.subR (R := R) hMR
   exact RW.step (Ex.move (.int .i64 v13) rfl) rfl rfl rfl (RW.nil ⟨rfl, rfl, _, rfl, H', [], Hp.le.refl _, hMR, rfl, rfl, trivial⟩)
  ·
   intro H' σ' w R E hle hMR hE0 hE hp hf
   obtain rfl := hE0 rfl
   obtain ⟨_, hg⟩ := hp 5 (by decide) (by kernel_rfl)
   obtain ⟨e34, _, _⟩ := hg.get rfl
   have e35 : σ' 44 = .slice A2 n2 c2 := (List.cons.inj e34).1
   obtain ⟨_, hg⟩ := hp 6 (by decide) (by kernel_rfl)
   obtain ⟨e36, _, _⟩ := hg.get rfl
   have e37 : σ' 45 = .int .i64 v13 := (List.cons.inj e36).1
   obtain ⟨τ, rfl⟩ := sl_canon (σ := σ') (l := [(44, .slice A2 n2 c2), (45, .int .i64 v13)]) ⟨e35, e37, trivial⟩
   have hM := Mem.subR (R := R) hMR
   exact RW.step (Ex.index st22 rfl rfl v13.toNat (hF2.ne hg24) hg24.nat (hF2.lt hg24)) rfl rfl rfl (RW.nil ⟨rfl, rfl, _, rfl, H', [], Hp.le.refl _, hMR, rfl, rfl, trivial⟩)
  ·
   intro H' σ' w R E hle hMR hE0 hE hp hf
   obtain rfl := hE0 rfl
   obtain ⟨_, hg⟩ := hp 7 (by decide) (by kernel_rfl)
   obtain ⟨e38, _, _⟩ := hg.get rfl
   have e39 : σ' 46 = elp A2 (v13.toNat * 3 + 0) := (List.cons.inj e38).1
   obtain ⟨τ, rfl⟩ := sl_canon (σ := σ') (l := [(46, elp A2 (v13.toNat * 3 + 0))]) ⟨e39, trivial⟩
   have hM := Mem.subR (R := R) hMR
   exact RW.step (Ex.fieldE fa98_2 (hF2.ne hg24) rfl) rfl rfl rfl (RW.nil ⟨rfl, rfl, _, rfl, H', [], Hp.le.refl _, hMR, rfl, rfl, trivial⟩)
  ·
   intro H' σ' w R E hle hMR hE0 hE hp hf
   obtain rfl := hE0 rfl
   obtain ⟨_, hg⟩ := hp 8 (by decide) (by kernel_rfl)
   obtain ⟨e40, _, _⟩ := hg.get rfl
   have e41 : σ' 47 = elp A2 (v13.toNat * 3 + 2) := (List.cons.inj e40).1
   obtain ⟨τ, rfl⟩ := sl_canon (σ := σ') (l := [(47, elp A2 (v13.toNat * 3 + 2))]) ⟨e41, trivial⟩
   have hM := Mem.subR (R := R) hMR
   exact RW.step (Ex.loadE hM ((hle4.trans hle10).trans hle) hF2.rdc to3 rfl (hx25 2 _ rfl)) rfl rfl rfl (RW.nil ⟨rfl, rfl, _, rfl, H', [], Hp.le.refl _, hMR, rfl, rfl, trivial⟩)
  ·
   intro H' σ' w R E hle hMR hE0 hE hp hf
   obtain rfl := hE0 rfl
   obtain ⟨_, hg⟩ := hp 4 (by decide) (by kernel_rfl)
   obtain ⟨e42, _, _⟩ := hg.get rfl
   have e43 : σ' 43 = .int .i64 ((ix x0 v13).To) := (List.cons.inj e42).1
   obtain ⟨_, hg⟩ := hp 9 (by decide) (by kernel_rfl)
   obtain ⟨e44, _, _⟩ := hg.get rfl
   have e45 : σ' 48 = .int .i64 ((ix x1 v13).To) := (List.cons.inj e44).1
   obtain ⟨τ, rfl⟩ := sl_canon (σ := σ') (l := [(43, .int .i64 ((ix x0 v13).To)), (48, .int .i64 ((ix x1 v13).To))]) ⟨e43, e45, trivial⟩
   have hM := Mem.subR (R := R) hMR
   exact RW.step (Ex.minI rfl rfl) rfl rfl rfl (RW.nil ⟨rfl, rfl, _, rfl, H', [], Hp.le.refl _, hMR, rfl, rfl, trivial⟩)
  ·
   intro H' σ' w R E hle hMR hE0 hE hp hf
   obtain rfl := hE0 rfl
   obtain ⟨τ, rfl⟩ := sl_canon (σ := σ') (l := [(0, .slice A1 n1 c1)]) ⟨(hf 0 (by kernel_rfl)).trans rfl, trivial⟩
   have hM := Mem.subR (R := R) hMR
   exact RW.step (Ex.move (.slice A1 n1 c1) rfl) rfl rfl rfl (RW.nil ⟨rfl, rfl, _, rfl, H', [], Hp.le.refl _, hMR, rfl, rfl, trivial⟩)
  ·
   intro H' σ' w R E hle hMR hE0 hE hp hf
   obtain rfl := hE0 rfl
   obtain ⟨τ, rfl⟩ := sl_canon (σ := σ') (l := [(8, .int .i64 v13)]) ⟨(hf 8 (by kernel_rfl)).trans rfl, trivial⟩
   have hM := Mem.subR (R := R) hMR
   exact RW.step (Ex.move (.int .i64 v13) rfl) rfl rfl rfl (RW.nil ⟨rfl, rfl, _, rfl, H', [], Hp.le.refl _, hMR, rfl, rfl, trivial⟩)
  ·
   intro H' σ' w R E hle hMR hE0 hE hp hf
   obtain rfl := hE0 rfl
   obtain ⟨_, hg⟩ := hp 11 (by decide) (by kernel_rfl)
   obtain ⟨e46, _, _⟩ := hg.get rfl
   have e47 : σ' 50 = .slice A1 n1 c1 := (List.cons.inj e46).1
   obtain ⟨_, hg⟩ := hp 12 (by decide) (by kernel_rfl)
   obtain ⟨e48, _, _⟩ := hg.get rfl
   have e49 : σ' 51 = .int .i64 v13 := (List.cons.inj e48).1
   obtain ⟨τ, rfl⟩ := sl_canon (σ := σ') (l := [(50, .slice A1 n1 c1), (51, .int .i64 v13)]) ⟨e47, e49, trivial⟩
   have hM := Mem.subR (R := R) hMR
   exact RW.step (Ex.index st22 rfl rfl v13.toNat (hF1.ne hg22) hg22.nat (hF1.lt hg22)) rfl rfl rfl (RW.nil ⟨rfl, rfl, _, rfl, H', [], Hp.le.refl _, hMR, rfl, rfl, trivial⟩)
  ·
   intro H' σ' w R E hle hMR hE0 hE hp hf
   obtain rfl := hE0 rfl
   obtain ⟨_, hg⟩ := hp 13 (by decide) (by kernel_rfl)
   obtain ⟨e50, _, _⟩ := hg.get rfl
   have e51 : σ' 52 = elp A1 (v13.toNat * 3 + 0) := (List.cons.inj e50).1
   obtain ⟨τ, rfl⟩ := sl_canon (σ := σ') (l := [(52, elp A1 (v13.toNat * 3 + 0))]) ⟨e51, trivial⟩
   have hM := Mem.subR (R := R) hMR
   exact RW.step (Ex.fieldE fa98_0 (hF1.ne hg22) rfl) rfl rfl rfl (RW.nil ⟨rfl, rfl, _, rfl, H', [], Hp.le.refl _, hMR, rfl, rfl, trivial⟩)
  ·
   intro H' σ' w R E hle hMR hE0 hE hp hf
   obtain rfl := hE0 rfl
   obtain ⟨_, hg⟩ := hp 14 (by decide) (by kernel_rfl)
   obtain ⟨e52, _, _⟩ := hg.get rfl
   have e53 : σ' 53 = elp A1 (v13.toNat * 3 + 0) := (List.cons.inj e52).1
   obtain ⟨τ, rfl⟩ := sl_canon (σ := σ') (l := [(53, elp A1 (v13.toNat * 3 + 0))]) ⟨e53, trivial⟩
   have hM := Mem.subR (R := R) hMR
   exact RW.step (Ex.loadE hM ((hle4.trans hle10).trans hle) hF1.rdc to3 rfl (hx23 0 _ rfl)) rfl rfl rfl (RW.nil ⟨rfl, rfl, _, rfl, H', [], Hp.le.refl _, hMR, rfl, rfl, trivial⟩)
  ·
   intro H' σ' w R E hle hMR hE0 hE hp hf
   obtain rfl := hE0 rfl
   obtain ⟨_, hg⟩ := hp 10 (by decide) (by kernel_rfl)
   obtain ⟨e54, _, _⟩ := hg.get rfl
   have e55 : σ' 49 = .int .i64 (if ((ix x1 v13).To) < ((ix x0 v13).To) then ((ix x1 v13).To) else ((ix x0 v13).To)) := (List.cons.inj e54).1
   obtain ⟨τ, rfl⟩ := sl_canon (σ := σ') (l := [(49, .int .i64 (if ((ix x1 v13).To) < ((ix x0 v13).To) then ((ix x1 v13).To) else ((ix x0 v13).To)))]) ⟨e55, trivial⟩
   have hM := Mem.subR (R := R) hMR
   exact RW.step (Ex.assign (.int .i64 (if ((ix x1 v13).To) < ((ix x0 v13).To) then ((ix x1 v13).To) else ((ix x0 v13).To))) rfl) rfl rfl rfl (RW.nil ⟨rfl, rfl, _, rfl, H', [], Hp.le.refl _, hMR, rfl, rfl, trivial⟩)
  ·
   intro H' σ' w R E hle hMR hE0 hE hp hf
   obtain rfl := hE0 rfl
   obtain ⟨_, hg⟩ := hp 15 (by decide) (by kernel_rfl)
   obtain ⟨e56, _, _⟩ := hg.get rfl
   have e57 : σ' 54 = .int .i64 ((ix x0 v13).Epoch) := (List.cons.inj e56).1
   obtain ⟨τ, rfl⟩ := sl_canon (σ := σ') (l := [(54, .int .i64 ((ix x0 v13).Epoch))]) ⟨e57, trivial⟩
   have hM := Mem.subR (R := R) hMR
   exact RW.step (Ex.assign (.int .i64 ((ix x0 v13).Epoch)) rfl) rfl rfl rfl (RW.nil ⟨rfl, rfl, _, rfl, H', [], Hp.le.refl _, hMR, rfl, rfl, trivial⟩)
  ·
   intro H8 σ' w X miss hms hle8 hM hX hX0 hf
   simp [subs] at hms
   rcases hms with rfl
   ·
    obtain ⟨H58, hH8⟩ : ∃ x, x = H8 := ⟨_, rfl⟩
    subst hH8
    have hle59 := hle8
    obtain ⟨_, g0, y0⟩ := hX 0 (by decide) (by kernel_rfl)
    obtain ⟨_, rfl, _⟩ := g0.get rfl
    replace y0 : X 0 = [] := y0
    obtain ⟨_, g0, y1⟩ := hX 1 (by decide) (by kernel_rfl)
    obtain ⟨_, rfl, _⟩ := g0.get rfl
    replace y1 : X 1 = [] := y1
    obtain ⟨_, g0, y2⟩ := hX 2 (by decide) (by kernel_rfl)
    obtain ⟨_, rfl, _⟩ := g0.get rfl
    replace y2 : X 2 = [] := y2
    obtain ⟨_, g0, y3⟩ := hX 3 (by decide) (by kernel_rfl)
    obtain ⟨_, rfl, _⟩ := g0.get rfl
    replace y3 : X 3 = [] := y3
    obtain ⟨_, g0, y4⟩ := hX 4 (by decide) (by kernel_rfl)
    obtain ⟨_, rfl, _⟩ := g0.get rfl
    replace y4 : X 4 = [] := y4
    obtain ⟨_, g0, y5⟩ := hX 5 (by decide) (by kernel_rfl)
    obtain ⟨_, rfl, _⟩ := g0.get rfl
    replace y5 : X 5 = [] := y5
    obtain ⟨_, g0, y6⟩ := hX 6 (by decide) (by kernel_rfl)
    obtain ⟨_, rfl, _⟩ := g0.get rfl
    replace y6 : X 6 = [] := y6
    obtain ⟨_, g0, y7⟩ := hX 7 (by decide) (by kernel_rfl)
    obtain ⟨_, rfl, _⟩ := g0.get rfl
    replace y7 : X 7 = [] := y7
    obtain ⟨_, g0, y8⟩ := hX 8 (by decide) (by kernel_rfl)
    obtain ⟨_, rfl, _⟩ := g0.get rfl
    replace y8 : X 8 = [] := y8
    obtain ⟨_, g0, y9⟩ := hX 9 (by decide) (by kernel_rfl)
    obtain ⟨_, rfl, _⟩ := g0.get rfl
    replace y9 : X 9 = [] := y9
    obtain ⟨_, g0, y10⟩ := hX 10 (by decide) (by kernel_rfl)
    obtain ⟨_, rfl, _⟩ := g0.get rfl
    replace y10 : X 10 = [] := y10
    obtain ⟨_, g0, y11⟩ := hX 11 (by decide) (by kernel_rfl)
    obtain ⟨_, rfl, _⟩ := g0.get rfl
    replace y11 : X 11 = [] := y11
    obtain ⟨_, g0, y12⟩ := hX 12 (by decide) (by kernel_rfl)
    obtain ⟨_, rfl, _⟩ := g0.get rfl
    replace y12 : X 12 = [] := y12
    obtain ⟨_, g0, y13⟩ := hX 13 (by decide) (by kernel_rfl)
    obtain ⟨_, rfl, _⟩ := g0.get rfl
    replace y13 : X 13 = [] := y13
    obtain ⟨_, g0, y14⟩ := hX 14 (by decide) (by kernel_rfl)
    obtain ⟨_, rfl, _⟩ := g0.get rfl
    replace y14 : X 14 = [] := y14
    obtain ⟨_, g0, y15⟩ := hX 15 (by decide) (by kernel_rfl)
    obtain ⟨_, rfl, _⟩ := g0.get rfl
    replace y15 : X 15 = [] := y15
    obtain ⟨_, g0, y16⟩ := hX 16 (by decide) (by kernel_rfl)
    obtain ⟨e60, rfl, _⟩ := g0.get rfl
    have e61 : σ' 6 = .int .i64 (if ((ix x1 v13).To) < ((ix x0 v13).To) then ((ix x1 v13).To) else ((ix x0 v13).To)) := (List.cons.inj e60).1
    replace y16 : X 16 = [] := y16
    obtain ⟨_, g0, y17⟩ := hX 17 (by decide) (by kernel_rfl)
    obtain ⟨e62, rfl, _⟩ := g0.get rfl
    have e63 : σ' 7 = .int .i64 ((ix x0 v13).Epoch) := (List.cons.inj e62).1
    replace y17 : X 17 = [] := y17
    have hfl : flatX X 18 = [] := by
     show X 0 ++ (X 1 ++ (X 2 ++ (X 3 ++ (X 4 ++ (X 5 ++ (X 6 ++ (X 7 ++ (X 8 ++ (X 9 ++ (X 10 ++ (X 11 ++ (X 12 ++ (X 13 ++ (X 14 ++ (X 15 ++ (X 16 ++ (X 17 ++ []))))))))))))))))) = _
     rw [y0, y1, y2, y3, y4, y5, y6, y7, y8, y9, y10, y11, y12, y13, y14, y15, y16, y17]; rfl
    rw [hfl] at hM
    obtain ⟨τ, rfl⟩ := sl_canon (σ := σ') (l := [(0, .slice A1 n1 c1), (1, .slice A2 n2 c2), (6, .int .i64 (if ((ix x1 v13).To) < ((ix x0 v13).To) then ((ix x1 v13).To) else ((ix x0 v13).To))), (7, .int .i64 ((ix x0 v13).Epoch)), (8, .int .i64 v13)]) ⟨(hf 0 (by kernel_rfl)).trans rfl, (hf 1 (by kernel_rfl)).trans rfl, e61, e63, (hf 8 (by kernel_rfl)).trans rfl, trivial⟩
    replace hM : Mem w0 H w H58 [] := hM
    change RA _ _ _ _ _ _ _ (sl [(0, .slice A1 n1 c1), (1, .slice A2 n2 c2), (6, .int .i64 (if ((ix x1 v13).To) < ((ix x0 v13).To) then ((ix x1 v13).To) else ((ix x0 v13).To))), (7, .int .i64 ((ix x0 v13).Epoch)), (8, .int .i64 v13)] τ) _ 18 _
    refine RA.done (by kernel_rfl) ?_
    refine CW.seq ?_
    refine CW.drawE 11 [.slice A1 n1 c1, .int .i64 v13, elp A1 (v13.toNat * 3 + 0), elp A1 (v13.toNat * 3 + 2), .int .i64 ((ix x0 v13).To), .slice A2 n2 c2, .int .i64 v13, elp A2 (v13.toNat * 3 + 0), elp A2 (v13.toNat * 3 + 2), .int .i64 ((ix x1 v13).To), .bool (decide (((ix x0 v13).To) ≠ ((ix x1 v13).To)))]
     [[(0, none)], [(8, none)], [(55, some 0), (56, some 1)], [(57, some 2)], [(58, some 3)], [(1, none)], [(8, none)], [(60, some 5), (61, some 6)], [(62, some 7)], [(63, some 8)], [(59, some 4), (64, some 9)]] [(0, none), (1, none), (6, none), (7, none), (8, none), (65, some 10)] (by kernel_rfl) hM (by kernel_rfl) ⟨?_, ?_, ?_, ?_, ?_, ?_, ?_, ?_, ?_, ?_, ?_, trivial⟩ ?_
    · exact One.ex (fun H' τ w hled hM => Ex.move (.slice A1 n1 c1) rfl) rfl (fun _ => rfl) rfl
    · exact One.ex (fun H' τ w hled hM => Ex.move (.int .i64 v13) rfl) rfl (fun _ => rfl) rfl
    · exact One.ex (fun H' τ w hled hM => Ex.index st22 rfl rfl v13.toNat (hF1.ne hg22) hg22.nat (hF1.lt hg22)) rfl (fun _ => rfl) rfl
    · exact One.ex (fun H' τ w hled hM => Ex.fieldE fa98_2 (hF1.ne hg22) rfl) rfl (fun _ => rfl) rfl
    · exact One.ex (fun H' τ w hled hM => Ex.loadE hM (((hle4.trans hle10).trans hle59).trans hled) hF1.rdc to3 rfl (hx23 2 _ rfl)) rfl (fun _ => rfl) rfl
    · exact One.ex (fun H' τ w hled hM => Ex.move (.slice A2 n2 c2) rfl) rfl (fun _ => rfl) rfl
    · exact One.ex (fun H' τ w hled hM => Ex.move (.int .i64 v13) rfl) rfl (fun _ => rfl) rfl
    · exact One.ex (fun H' τ w hled hM => Ex.index st22 rfl rfl v13.toNat (hF2.ne hg24) hg24.nat (hF2.lt hg24)) rfl (fun _ => rfl) rfl
    · exact One.ex (fun H' τ w hled hM => Ex.fieldE fa98_2 (hF2.ne hg24) rfl) rfl (fun _ => rfl) rfl
    · exact One.ex (fun H' τ w hled hM => Ex.loadE hM (((hle4.trans hle10).trans hle59).trans hled) hF2.rdc to3 rfl (hx25 2 _ rfl)) rfl (fun _ => rfl) rfl
    · exact One.ex (fun H' τ w hled hM => Ex.neq rfl rfl) rfl (fun _ => rfl) rfl
    intro τ w hM
    change RW _ _ _ _ _ _ _ _ (sl [(0, .slice A1 n1 c1), (1, .slice A2 n2 c2), (6, .int .i64 (if ((ix x1 v13).To) < ((ix x0 v13).To) then ((ix x1 v13).To) else ((ix x0 v13).To))), (7, .int .i64 ((ix x0 v13).Epoch)), (8, .int .i64 v13), (65, .bool (decide (((ix x0 v13).To) ≠ ((ix x1 v13).To))))] τ) _
    refine RW.nil ?_
    refine CW.cond_dec (p := ((ix x0 v13).To) ≠ ((ix x1 v13).To)) rfl (fun hc64 => ?_) (fun hc64 => ?_)
    ·
     replace hm := And.left hm hc64
     refine CW.exit ?_
     refine CW.seq <| CW.region <| RW.st (Ex.move (.int .i64 (if ((ix x1 v13).To) < ((ix x0 v13).To) then ((ix x1 v13).To) else ((ix x0 v13).To))) rfl) rfl <| RW.st (Ex.move (.int .i64 ((ix x0 v13).Epoch)) rfl) rfl <| RW.st (Ex.assign (.int .i64 (if ((ix x1 v13).To) < ((ix x0 v13).To) then ((ix x1 v13).To) else ((ix x0 v13).To))) rfl) rfl <| RW.st (Ex.assign (.int .i64 ((ix x0 v13).Epoch)) rfl) rfl <| RW.nil <| CW.ret ?_
     refine end_tmp2 (.inl rfl) rfl (.int .i64 (if ((ix x1 v13).To) < ((ix x0 v13).To) then ((ix x1 v13).To) else ((ix x0 v13).To))) (.int .i64 ((ix x0 v13).Epoch)) rfl rfl ?_
     exact ⟨_, _, hM, (if ((ix x1 v13).To) < ((ix x0 v13).To) then ((ix x1 v13).To) else ((ix x0 v13).To), (ix x0 v13).Epoch), hm, rfl, rfl⟩
    ·
     replace hm := And.right hm hc64
     refine CW.skip <| CW.region <| RW.st (Ex.move (.int .i64 v13) rfl) rfl ?_
     obtain ⟨hg65, hm⟩ := hm
     refine RW.st (Ex.add rfl rfl hg65.1 hg65.2) rfl <| RW.st (Ex.assign (.int .i64 (v13 + 1)) rfl) rfl <| RW.nil ?_
     exact And.intro rfl ⟨k14, ⟨if ((ix x1 v13).To) < ((ix x0 v13).To) then ((ix x1 v13).To) else ((ix x0 v13).To), (ix x0 v13).Epoch, v13 + 1, H58, hle10.trans hle59, sl_canon ⟨rfl, rfl, rfl, rfl, rfl, trivial⟩, hM, (by rw [hrec15]; exact hm)⟩, Nat.lt_succ_self _⟩
 ·
  replace hm := And.right hm hc21
  refine CW.exit ?_
  refine CW.seq <| CW.region <| RW.st (Ex.move (.int .i64 v11) rfl) rfl <| RW.st (Ex.move (.int .i64 v12) rfl) rfl <| RW.st (Ex.assign (.int .i64 v11) rfl) rfl <| RW.st (Ex.assign (.int .i64 v12) rfl) rfl <| RW.nil <| CW.ret ?_
  refine end_tmp2 (.inl rfl) rfl (.int .i64 v11) (.int .i64 v12) rfl rfl ?_
  exact ⟨_, _, hM, (v11, v12), hm, rfl, rfl⟩
end Go.Proofs.YtahlanamngfkcaaDoor

namespace Go.Proofs.YtahlanamngfkcaaDoor
open Go.RowKit
theorem ref07_Apply_lift {H : Hp} (x0 : List (List Sec)) (x1 : List api_Write) {A1 : Option Addr} {n1 c1 : Nat} {s1 : List Value} (hF1 : Fz (α := List Sec) H A1 n1 c1 x0 s1) {A2 : Option Addr} {n2 c2 : Nat} {s2 : List Value} (hF2 : Fz (α := api_Write) H A2 n2 c2 x1 s2) {Φ : List (List Sec) × Int × Int → Prop} (hm : ref07_Apply_W x0 x1 Φ) : RetP Tryd.prog 89 #[.slice A1 n1 c1, .slice A2 n2 c2] H (fun H' v L => ∃ y, Φ y ∧ ∃ A70, ∃ n70, ∃ c70, ∃ s70, ∃ rs71, v = .tuple #[.slice A70 n70 c70, .int .i64 (y.2.1), .int .i64 (y.2.2)] ∧ DeepL (α := List Sec) [71] H' s70 y.1 rs71 ∧ n70 = y.1.length ∧ L = .row (.slice A70 n70 c70) 61 1 n70 s70 :: rs71) := by
 refine RetP.of_code Tryd.func89 rfl (Nat.le_of_ble_eq_true rfl) fun w0 hM => ?_
 refine CW.seq <| CW.region <| RW.st (Ex.assign (.slice none 0 0) rfl) rfl <| RW.st (Ex.assign (.int .i64 0) rfl) rfl <| RW.st (Ex.assign (.int .i64 0) rfl) rfl <| RW.nil <| CW.seq <| CW.seq <| CW.region <| RW.st (Ex.move (.slice A1 n1 c1) rfl) rfl ?_
 refine RW.callP hM (ref07_Check_lift x0 hF1 hm) en97 rfl rfl rfl rfl ?_; rintro _ w H4 _ hle5 ⟨v3, hm, rfl, rfl⟩ hM
 replace hM : Mem w0 H w H4 [] := hM
 refine RW.st (Ex.assign (.int .i64 v3) rfl) rfl <| RW.nil <| CW.seq <| CW.region <| RW.st (Ex.move (.int .i64 v3) rfl) rfl <| RW.st (Ex.neq rfl rfl) rfl <| RW.nil ?_
 refine CW.cond_dec (p := v3 ≠ 0) rfl (fun hc6 => ?_) (fun hc6 => ?_)
 ·
  replace hm := And.left hm hc6
  refine CW.seq <| CW.region <| RW.st (Ex.move (.int .i64 v3) rfl) rfl <| RW.st (Ex.assign (.slice none 0 0) rfl) rfl <| RW.st (Ex.assign (.int .i64 0) rfl) rfl <| RW.st (Ex.assign (.int .i64 v3) rfl) rfl <| RW.nil <| CW.ret ?_
  refine thenQ_ret ?_
  refine end_tmp3 (.inl rfl) rfl (.slice none 0 0) (.int .i64 0) (.int .i64 v3) rfl rfl rfl ?_
  replace hM := hM.nilRow 61 1
  exact ⟨_, _, hM, (([] : List (List Sec)), 0, v3), hm, none, 0, 0, [], [], rfl, (DeepL.nil : DeepL (α := List Sec) [71] H4 [] [] []), rfl, rfl⟩
 ·
  replace hm := And.right hm hc6
  refine CW.skip <| CW.seq <| CW.region <| RW.st (Ex.move (.slice A1 n1 c1) rfl) rfl ?_
  refine RW.callP hM (ref07_Copy_lift x0 (hF1.mono hle5) hm) en25 rfl rfl rfl rfl ?_; rintro _ w H8 _ hle9 ⟨v7, hm, A10, n10, c10, s10, rs11, rfl, hd12, hn13, rfl⟩ hM
  replace hM := Mem.toTail (a := [.row (.slice A10 n10 c10) 61 1 n10 s10]) (b := rs11) (c := []) hM
  replace hM : Mem w0 H w H8 (.row (.slice A10 n10 c10) 61 1 n10 s10 :: rs11) := hM
  refine RW.st (Ex.assign (.slice A10 n10 c10) rfl) rfl <| RW.nil <| CW.seq <| CW.seq <| CW.region <| RW.st (Ex.assign (.int .i64 0) rfl) rfl <| RW.nil <| CW.block ?_
  obtain ⟨m69, hm⟩ := hm
  skip
  refine CW.loop (β := Nat) (fun n σ w => ∃ (v16 : List (List Sec)), ∃ (A17 : Option Addr), ∃ (n18 : Nat), ∃ (c19 : Nat), ∃ (s20 : List Value), ∃ (rs21 : List Ent), ∃ (v24 : Int), ∃ Hk14, H8.le Hk14 ∧ (∃ τ, σ = sl [(0, .slice A1 n1 c1), (1, .slice A2 n2 c2), (8, .slice A17 n18 c19), (9, .int .i64 v24)] τ) ∧ Mem w0 H w Hk14 (.row (.slice A17 n18 c19) 61 1 n18 s20 :: rs21) ∧ (DeepL (α := List Sec) [71] Hk14 s20 v16 rs21) ∧ (n18 = v16.length) ∧ LoopN (ref07_Apply_L1 x0 x1 Φ) n (v16, v24)) (fun n => n) m69 ⟨v7, A10, n10, c10, s10, rs11, 0, H8, (Hp.le.refl _), sl_canon ⟨rfl, rfl, rfl, rfl, trivial⟩, hM, hd12, hn13, hm⟩ ?_
  rintro k25 _ w ⟨v16, A17, n18, c19, s20, rs21, v24, Hk14, hle15, ⟨τ, rfl⟩, hM, hd22, hn23, hm⟩
  obtain _ | k25 := k25
  · exact hm.elim
  replace hm : (ref07_Apply_L1 x0 x1 Φ) (v16, v24) (LoopN (ref07_Apply_L1 x0 x1 Φ) k25) := hm
  generalize hrec26 : LoopN (ref07_Apply_L1 x0 x1 Φ) k25 = rec1 at hm
  refine CW.seq <| CW.seq <| CW.region <| RW.st (Ex.move (.int .i64 v24) rfl) rfl <| RW.st (Ex.move (.slice A2 n2 c2) rfl) rfl <| RW.st (Ex.lenN st43.1 rfl hF2.hn) rfl <| RW.st (Ex.lss rfl rfl) rfl <| RW.nil ?_
  refine CW.cond_dec (p := v24 < (x1.length : Int)) rfl (fun hc27 => ?_) (fun hc27 => ?_)
  ·
   replace hm := And.left hm hc27
   refine CW.skip <| CW.seq <| CW.block <| CW.seq <| CW.seq <| CW.region <| RW.st (Ex.move (.slice A1 n1 c1) rfl) rfl <| RW.st (Ex.move (.slice A2 n2 c2) rfl) rfl <| RW.st (Ex.move (.int .i64 v24) rfl) rfl ?_
   obtain ⟨hg28, hm⟩ := hm
   refine RW.st (Ex.index st43 rfl rfl v24.toNat (hF2.ne hg28) hg28.nat (hF2.lt hg28)) rfl ?_
   obtain ⟨_, ⟨A29, n29, c29, s29, rfl, hF29⟩, hx30⟩ := DtL.getI (α := api_Write) (hF2.mono ((hle5.trans hle9).trans hle15)).dat hg28
   refine RW.st (Ex.loadEA hM ((hle5.trans hle9).trans hle15) hF2.rdc [.int .i64 ((ix x1 v24).Volume), .int .i64 ((ix x1 v24).Start), .slice A29 n29 c29] ta100 rfl (hF2.ne hg28) rfl (chunk_sub (off := 0) (n := 3) hx30 rfl)) rfl ?_
   refine RW.callP hM (ref07_Fits_lift x0 (ix x1 v24) (hF1.mono ((hle5.trans hle9).trans hle15)) hF29 hm) en109 rfl rfl rfl rfl ?_; rintro _ w H32 _ hle33 ⟨v31, hm, rfl, rfl⟩ hM
   replace hM : Mem w0 H w H32 (.row (.slice A17 n18 c19) 61 1 n18 s20 :: rs21) := hM
   refine RW.st (Ex.assign (.int .i64 v31) rfl) rfl <| RW.nil <| CW.seq <| CW.region <| RW.st (Ex.move (.int .i64 v31) rfl) rfl <| RW.st (Ex.neq rfl rfl) rfl <| RW.nil ?_
   refine CW.cond_dec (p := v31 ≠ 0) rfl (fun hc34 => ?_) (fun hc34 => ?_)
   ·
    replace hm := And.left hm hc34
    refine CW.seq <| CW.region <| RW.st (Ex.move (.int .i64 v24) rfl) rfl <| RW.st (Ex.move (.int .i64 v31) rfl) rfl <| RW.st (Ex.assign (.slice none 0 0) rfl) rfl <| RW.st (Ex.assign (.int .i64 v24) rfl) rfl <| RW.st (Ex.assign (.int .i64 v31) rfl) rfl <| RW.nil <| CW.ret ?_
    refine thenQ_ret (blockQ_ret (thenQ_ret (thenQ_ret (blockQ_ret (thenQ_ret ?_)))))
    refine end_tmp3 (.inl rfl) rfl (.slice none 0 0) (.int .i64 v24) (.int .i64 v31) rfl rfl rfl ?_
    replace hM := hM.nilRow 61 1
    exact ⟨_, _, ((Mem.dropT (L1 := [.row (.slice none 0 0) 61 1 0 [], .row (.slice A17 n18 c19) 61 1 n18 s20]) (T := rs21) hM).pick [0] rfl rfl), (([] : List (List Sec)), v24, v31), hm, none, 0, 0, [], [], rfl, (DeepL.nil : DeepL (α := List Sec) [71] H32 [] [] []), rfl, rfl⟩
   ·
    replace hm := And.right hm hc34
    refine CW.skip <| CW.seq <| CW.region <| RW.st (Ex.assign (.int .i64 0) rfl) rfl <| RW.nil <| CW.block ?_
    obtain ⟨m68, hm⟩ := hm
    skip
    refine CW.loop (β := Nat) (fun n σ w => ∃ (v37 : List (List Sec)), ∃ (A38 : Option Addr), ∃ (n39 : Nat), ∃ (c40 : Nat), ∃ (s41 : List Value), ∃ (rs42 : List Ent), ∃ (v45 : Int), ∃ Hk35, H32.le Hk35 ∧ (∃ τ, σ = sl [(0, .slice A1 n1 c1), (1, .slice A2 n2 c2), (8, .slice A38 n39 c40), (9, .int .i64 v24), (11, .int .i64 v45)] τ) ∧ Mem w0 H w Hk35 (.row (.slice A38 n39 c40) 61 1 n39 s41 :: rs42) ∧ (DeepL (α := List Sec) [71] Hk35 s41 v37 rs42) ∧ (n39 = v37.length) ∧ LoopN (ref07_Apply_L2 x1 v24 rec1 Φ) n (v37, v45)) (fun n => n) m68 ⟨v16, A17, n18, c19, s20, rs21, 0, H32, (Hp.le.refl _), sl_canon ⟨rfl, rfl, rfl, rfl, rfl, trivial⟩, hM, (hd22.mono hle33), hn23, hm⟩ ?_
    rintro k46 _ w ⟨v37, A38, n39, c40, s41, rs42, v45, Hk35, hle36, ⟨τ, rfl⟩, hM, hd43, hn44, hm⟩
    obtain _ | k46 := k46
    · exact hm.elim
    replace hm : (ref07_Apply_L2 x1 v24 rec1 Φ) (v37, v45) (LoopN (ref07_Apply_L2 x1 v24 rec1 Φ) k46) := hm
    generalize hrec47 : LoopN (ref07_Apply_L2 x1 v24 rec1 Φ) k46 = rec2 at hm
    refine CW.seq <| CW.seq <| CW.region <| RW.st (Ex.move (.int .i64 v45) rfl) rfl <| RW.st (Ex.move (.slice A2 n2 c2) rfl) rfl <| RW.st (Ex.move (.int .i64 v24) rfl) rfl <| RW.st (Ex.index st43 rfl rfl v24.toNat (hF2.ne hg28) hg28.nat (hF2.lt hg28)) rfl <| RW.st (Ex.fieldE fa100_2 (hF2.ne hg28) rfl) rfl <| RW.st (Ex.loadE hM ((((hle5.trans hle9).trans hle15).trans hle33).trans hle36) hF2.rdc to61 rfl (hx30 2 _ rfl)) rfl <| RW.st (Ex.lenN st61.1 rfl hF29.hn) rfl <| RW.st (Ex.lss rfl rfl) rfl <| RW.nil ?_
    refine CW.cond_dec (p := v45 < (((ix x1 v24).Data).length : Int)) rfl (fun hc48 => ?_) (fun hc48 => ?_)
    ·
     replace hm := And.left hm hc48
     refine CW.skip <| CW.seq <| CW.block ?_
     obtain ⟨hg49, hm⟩ := hm
     obtain ⟨c51, _, c52, _, rs53, rfl, ⟨A50, n50, c50, s50, rfl, rfl, hF50, hn55⟩, hh54, hM⟩ := Mem.focus [.row (.slice A38 n39 c40) 61 1 n39 s41] hM hd43 hg49
     replace hM : Mem w0 H w Hk35 (.row (.slice A50 n50 c50) 71 8 n50 s50 :: .row (.slice A38 n39 c40) 61 1 n39 (c51 ++ ([.slice A50 n50 c50] ++ c52)) :: rs53) := hM
     have hx56 := Hole.get (ch := [.slice A50 n50 c50]) hh54
     obtain ⟨hg57, hm⟩ := hm
     obtain ⟨hg58, hm⟩ := hm
     obtain ⟨_, rfl, hx59⟩ := DtL.getI (α := Sec) (hF29.mono (hle33.trans hle36)).dat hg58
     refine CW.drawE 23 [.slice A38 n39 c40, .slice A2 n2 c2, .int .i64 v24, elp A2 (v24.toNat * 3 + 0), elp A2 (v24.toNat * 3 + 0), .int .i64 ((ix x1 v24).Volume), elp A38 ((((ix x1 v24).Volume).toNat) * 1 + 0), .slice A50 n50 c50, .slice A2 n2 c2, .int .i64 v24, elp A2 (v24.toNat * 3 + 0), elp A2 (v24.toNat * 3 + 1), .int .i64 ((ix x1 v24).Start), .int .i64 v45, .int .i64 (((ix x1 v24).Start) + v45), .slice A2 n2 c2, .int .i64 v24, elp A2 (v24.toNat * 3 + 0), elp A2 (v24.toNat * 3 + 2), .slice A29 n29 c29, .int .i64 v45, elp A29 (v45.toNat * 8 + 0), .agg #[u8 (ix ((ix x1 v24).Data) v45).b0, u8 (ix ((ix x1 v24).Data) v45).b1, u8 (ix ((ix x1 v24).Data) v45).b2, u8 (ix ((ix x1 v24).Data) v45).b3, u8 (ix ((ix x1 v24).Data) v45).b4, u8 (ix ((ix x1 v24).Data) v45).b5, u8 (ix ((ix x1 v24).Data) v45).b6, u8 (ix ((ix x1 v24).Data) v45).b7]]
      [[(8, none)], [(1, none)], [(9, none)], [(46, some 1), (47, some 2)], [(48, some 3)], [(49, some 4)], [(45, some 0), (50, some 5)], [(51, some 6)], [(1, none)], [(9, none)], [(53, some 8), (54, some 9)], [(55, some 10)], [(56, some 11)], [(11, none)], [(57, some 12), (58, some 13)], [(1, none)], [(9, none)], [(60, some 15), (61, some 16)], [(62, some 17)], [(63, some 18)], [(11, none)], [(64, some 19), (65, some 20)], [(66, some 21)]] [(0, none), (1, none), (8, none), (9, none), (11, none), (52, some 7), (59, some 14), (67, some 22)] (by kernel_rfl) hM (by kernel_rfl) ⟨?_, ?_, ?_, ?_, ?_, ?_, ?_, ?_, ?_, ?_, ?_, ?_, ?_, ?_, ?_, ?_, ?_, ?_, ?_, ?_, ?_, ?_, ?_, trivial⟩ ?_
     · exact One.ex (fun H' τ w hled hM => Ex.move (.slice A38 n39 c40) rfl) rfl (fun _ => rfl) rfl
     · exact One.ex (fun H' τ w hled hM => Ex.move (.slice A2 n2 c2) rfl) rfl (fun _ => rfl) rfl
     · exact One.ex (fun H' τ w hled hM => Ex.move (.int .i64 v24) rfl) rfl (fun _ => rfl) rfl
     · exact One.ex (fun H' τ w hled hM => Ex.index st43 rfl rfl v24.toNat (hF2.ne hg28) hg28.nat (hF2.lt hg28)) rfl (fun _ => rfl) rfl
     · exact One.ex (fun H' τ w hled hM => Ex.fieldE fa100_0 (hF2.ne hg28) rfl) rfl (fun _ => rfl) rfl
     · exact One.ex (fun H' τ w hled hM => Ex.loadE hM (((((hle5.trans hle9).trans hle15).trans hle33).trans hle36).trans hled) hF2.rdc to3 rfl (hx30 0 _ rfl)) rfl (fun _ => rfl) rfl
     · exact One.ex (fun H' τ w hled hM => Ex.index st25 rfl rfl (((ix x1 v24).Volume).toNat) (hM.rowNeD (α := List Sec) (p := 1) rfl hn44 hg49) hg49.nat (Nat.lt_of_lt_of_eq hg49.lt (hn44).symm)) rfl (fun _ => rfl) rfl
     · exact One.ex (fun H' τ w hled hM => Ex.loadR hM 1 rfl to61 (hM.rowNeD (α := List Sec) (p := 1) rfl hn44 hg49) rfl (hx56 0 _ rfl)) rfl (fun _ => rfl) rfl
     · exact One.ex (fun H' τ w hled hM => Ex.move (.slice A2 n2 c2) rfl) rfl (fun _ => rfl) rfl
     · exact One.ex (fun H' τ w hled hM => Ex.move (.int .i64 v24) rfl) rfl (fun _ => rfl) rfl
     · exact One.ex (fun H' τ w hled hM => Ex.index st43 rfl rfl v24.toNat (hF2.ne hg28) hg28.nat (hF2.lt hg28)) rfl (fun _ => rfl) rfl
     · exact One.ex (fun H' τ w hled hM => Ex.fieldE fa100_1 (hF2.ne hg28) rfl) rfl (fun _ => rfl) rfl
     · exact One.ex (fun H' τ w hled hM => Ex.loadE hM (((((hle5.trans hle9).trans hle15).trans hle33).trans hle36).trans hled) hF2.rdc to3 rfl (hx30 1 _ rfl)) rfl (fun _ => rfl) rfl
     · exact One.ex (fun H' τ w hled hM => Ex.move (.int .i64 v45) rfl) rfl (fun _ => rfl) rfl
     · exact One.ex (fun H' τ w hled hM => Ex.add rfl rfl hg57.1 hg57.2) rfl (fun _ => rfl) rfl
     · exact One.ex (fun H' τ w hled hM => Ex.move (.slice A2 n2 c2) rfl) rfl (fun _ => rfl) rfl
     · exact One.ex (fun H' τ w hled hM => Ex.move (.int .i64 v24) rfl) rfl (fun _ => rfl) rfl
     · exact One.ex (fun H' τ w hled hM => Ex.index st43 rfl rfl v24.toNat (hF2.ne hg28) hg28.nat (hF2.lt hg28)) rfl (fun _ => rfl) rfl
     · exact One.ex (fun H' τ w hled hM => Ex.fieldE fa100_2 (hF2.ne hg28) rfl) rfl (fun _ => rfl) rfl
     · exact One.ex (fun H' τ w hled hM => Ex.loadE hM (((((hle5.trans hle9).trans hle15).trans hle33).trans hle36).trans hled) hF2.rdc to61 rfl (hx30 2 _ rfl)) rfl (fun _ => rfl) rfl
     · exact One.ex (fun H' τ w hled hM => Ex.move (.int .i64 v45) rfl) rfl (fun _ => rfl) rfl
     · exact One.ex (fun H' τ w hled hM => Ex.index st61 rfl rfl v45.toNat (hF29.ne hg58) hg58.nat (hF29.lt hg58)) rfl (fun _ => rfl) rfl
     · exact One.ex (fun H' τ w hled hM => Ex.loadEA hM ((hle33.trans hle36).trans hled) hF29.rdc [u8 (ix ((ix x1 v24).Data) v45).b0, u8 (ix ((ix x1 v24).Data) v45).b1, u8 (ix ((ix x1 v24).Data) v45).b2, u8 (ix ((ix x1 v24).Data) v45).b3, u8 (ix ((ix x1 v24).Data) v45).b4, u8 (ix ((ix x1 v24).Data) v45).b5, u8 (ix ((ix x1 v24).Data) v45).b6, u8 (ix ((ix x1 v24).Data) v45).b7] ta71 rfl (hF29.ne hg58) rfl (chunk_sub (off := 0) (n := 8) hx59 rfl)) rfl (fun _ => rfl) rfl
     intro τ w hM
     change RW _ _ _ _ _ _ _ _ (sl [(0, .slice A1 n1 c1), (1, .slice A2 n2 c2), (8, .slice A38 n39 c40), (9, .int .i64 v24), (11, .int .i64 v45), (52, .slice A50 n50 c50), (59, .int .i64 (((ix x1 v24).Start) + v45)), (67, .agg #[u8 (ix ((ix x1 v24).Data) v45).b0, u8 (ix ((ix x1 v24).Data) v45).b1, u8 (ix ((ix x1 v24).Data) v45).b2, u8 (ix ((ix x1 v24).Data) v45).b3, u8 (ix ((ix x1 v24).Data) v45).b4, u8 (ix ((ix x1 v24).Data) v45).b5, u8 (ix ((ix x1 v24).Data) v45).b6, u8 (ix ((ix x1 v24).Data) v45).b7])] τ) _
     obtain ⟨hg60, hm⟩ := hm
     refine RW.st (Ex.index st61 rfl rfl ((((ix x1 v24).Start) + v45).toNat) (hM.rowNeD (α := Sec) (p := 0) rfl hn55 hg60) hg60.nat (Nat.lt_of_lt_of_eq hg60.lt (hn55).symm)) rfl ?_
     refine RW.storeD (α := Sec) (off := 0) (x' := (ix ((ix x1 v24).Data) v45)) hM 0 hF50 (.agg #[u8 (ix ((ix x1 v24).Data) v45).b0, u8 (ix ((ix x1 v24).Data) v45).b1, u8 (ix ((ix x1 v24).Data) v45).b2, u8 (ix ((ix x1 v24).Data) v45).b3, u8 (ix ((ix x1 v24).Data) v45).b4, u8 (ix ((ix x1 v24).Data) v45).b5, u8 (ix ((ix x1 v24).Data) v45).b6, u8 (ix ((ix x1 v24).Data) v45).b7]) [u8 (ix ((ix x1 v24).Data) v45).b0, u8 (ix ((ix x1 v24).Data) v45).b1, u8 (ix ((ix x1 v24).Data) v45).b2, u8 (ix ((ix x1 v24).Data) v45).b3, u8 (ix ((ix x1 v24).Data) v45).b4, u8 (ix ((ix x1 v24).Data) v45).b5, u8 (ix ((ix x1 v24).Data) v45).b6, u8 (ix ((ix x1 v24).Data) v45).b7] sz71 rfl hn55 hg60 (Nat.le_of_ble_eq_true rfl) rfl rfl (oneAll ⟨rfl, rfl, rfl, rfl, rfl, rfl, rfl, rfl, trivial⟩) rfl (fun ch h => rdWhole h (show Dt.rd (α := Sec) _ [u8 (ix ((ix x1 v24).Data) v45).b0, u8 (ix ((ix x1 v24).Data) v45).b1, u8 (ix ((ix x1 v24).Data) v45).b2, u8 (ix ((ix x1 v24).Data) v45).b3, u8 (ix ((ix x1 v24).Data) v45).b4, u8 (ix ((ix x1 v24).Data) v45).b5, u8 (ix ((ix x1 v24).Data) v45).b6, u8 (ix ((ix x1 v24).Data) v45).b7] (ix ((ix x1 v24).Data) v45) from rfl)) rfl rfl ?_
     intro s61 w hd62 hM
     replace hM : Mem w0 H w Hk35 (.row (.slice A50 n50 c50) 71 8 n50 s61 :: .row (.slice A38 n39 c40) 61 1 n39 (c51 ++ ([.slice A50 n50 c50] ++ c52)) :: rs53) := hM
     refine RW.nil <| CW.region <| RW.st (Ex.move (.int .i64 v45) rfl) rfl ?_
     obtain ⟨hg63, hm⟩ := hm
     refine RW.st (Ex.add rfl rfl hg63.1 hg63.2) rfl <| RW.st (Ex.assign (.int .i64 (v45 + 1)) rfl) rfl <| RW.nil ?_
     obtain ⟨s64, rs65, hd66, hM⟩ := Mem.unfocus (α := List Sec) (Ts := [71]) (x := (put (ix v37 ((ix x1 v24).Volume)) (((ix x1 v24).Start) + v45) (ix ((ix x1 v24).Data) v45))) [.row (.slice A38 n39 c40) 61 1 n39 (c51 ++ ([.slice A50 n50 c50] ++ c52))] hM 0 rfl hh54 ⟨A50, n50, c50, s61, rfl, rfl, hd62, (hn55).trans (put_len _ _ _).symm⟩
     replace hM : Mem w0 H w Hk35 (.row (.slice A38 n39 c40) 61 1 n39 s64 :: rs65) := hM
     exact And.intro rfl ⟨k46, ⟨(put v37 ((ix x1 v24).Volume) (put (ix v37 ((ix x1 v24).Volume)) (((ix x1 v24).Start) + v45) (ix ((ix x1 v24).Data) v45))), A38, n39, c40, s64, rs65, v45 + 1, Hk35, hle36.trans (Hp.le.refl _), sl_canon ⟨rfl, rfl, rfl, rfl, rfl, trivial⟩, hM, hd66, (hn44).trans (put_len _ _ _).symm, (by rw [hrec47]; exact hm)⟩, Nat.lt_succ_self _⟩
    ·
     replace hm := And.right hm hc48
     refine CW.exit ?_
     refine CW.region <| RW.st (Ex.move (.int .i64 v24) rfl) rfl ?_
     obtain ⟨hg67, hm⟩ := hm
     refine RW.st (Ex.add rfl rfl hg67.1 hg67.2) rfl <| RW.st (Ex.assign (.int .i64 (v24 + 1)) rfl) rfl <| RW.nil ?_
     exact And.intro rfl ⟨k25, ⟨v37, A38, n39, c40, s41, rs42, v24 + 1, Hk35, hle15.trans (hle33.trans hle36), sl_canon ⟨rfl, rfl, rfl, rfl, trivial⟩, hM, hd43, hn44, (by rw [hrec26]; exact hm)⟩, Nat.lt_succ_self _⟩
  ·
   replace hm := And.right hm hc27
   refine CW.exit ?_
   refine CW.seq <| CW.region <| RW.st (Ex.move (.slice A17 n18 c19) rfl) rfl <| RW.st (Ex.assign (.slice A17 n18 c19) rfl) rfl <| RW.st (Ex.assign (.int .i64 0) rfl) rfl <| RW.st (Ex.assign (.int .i64 0) rfl) rfl <| RW.nil <| CW.ret ?_
   refine end_tmp3 (.inl rfl) rfl (.slice A17 n18 c19) (.int .i64 0) (.int .i64 0) rfl rfl rfl ?_
   exact ⟨_, _, hM, (v16, 0, 0), hm, A17, n18, c19, s20, rs21, rfl, hd22, hn23, rfl⟩
theorem ref02_Set_lift {H : Hp} (x0 : api_Bitmap) (x1 : api_Extent) {A1 : Option Addr} {n1 c1 : Nat} {s1 : List Value} (hF1 : Fz (α := BitVec 64) H A1 n1 c1 x0.Words s1) {Φ : api_Bitmap × Int → Prop} (hm : ref02_Set_W x0 x1 Φ) : RetP Tryd.prog 66 #[.agg #[.int .i64 x0.Size, .slice A1 n1 c1], .agg #[.int .i64 x1.Start, .int .i64 x1.Count]] H (fun H' v L => ∃ y, Φ y ∧ ∃ A11, ∃ n11, ∃ c11, ∃ s11, v = .tuple #[.agg #[.int .i64 (y.1.Size), .slice A11 n11 c11], .int .i64 (y.2)] ∧ DtL (α := BitVec 64) H' s11 y.1.Words ∧ n11 = y.1.Words.length ∧ L = [.row (.slice A11 n11 c11) 151 1 n11 s11]) := by
 refine RetP.of_code Tryd.func66 rfl (Nat.le_of_ble_eq_true rfl) fun w0 hM => ?_
 refine CW.seq <| CW.region ?_
 refine RW.box hM (.agg #[.int .i64 x0.Size, .slice A1 n1 c1]) [.int .i64 x0.Size, .slice A1 n1 c1] rfl rfl rfl rfl ?_; intro b2 w hM
 replace hM : Mem w0 H w H [.box b2 65 [.int .i64 x0.Size, .slice A1 n1 c1]] := hM
 refine RW.box hM (.agg #[.int .i64 x1.Start, .int .i64 x1.Count]) [.int .i64 x1.Start, .int .i64 x1.Count] rfl rfl rfl rfl ?_; intro b3 w hM
 replace hM : Mem w0 H w H [.box b3 103 [.int .i64 x1.Start, .int .i64 x1.Count], .box b2 65 [.int .i64 x0.Size, .slice A1 n1 c1]] := hM
 refine RW.alloc hM tz65 [.int .i64 0, .slice none 0 0] rfl rfl rfl ?_; intro b4 w hM
 replace hM : Mem w0 H w H [.box b4 65 [.int .i64 0, .slice none 0 0], .box b3 103 [.int .i64 x1.Start, .int .i64 x1.Count], .box b2 65 [.int .i64 x0.Size, .slice A1 n1 c1]] := hM
 refine RW.st (Ex.assign (.int .i64 0) rfl) rfl <| RW.nil <| CW.seq <| CW.region <| RW.st (Ex.loadA hM 2 [.int .i64 x0.Size, .slice A1 n1 c1] ta65 rfl rfl rfl rfl) rfl <| RW.st (Ex.loadA hM 1 [.int .i64 x1.Start, .int .i64 x1.Count] ta103 rfl rfl rfl rfl) rfl ?_
 refine RW.callP hM (ref02_change_lift x0 x1 true hF1 hm) en114 rfl rfl rfl rfl ?_; rintro _ w H6 _ hle7 ⟨v5, hm, A8, n8, c8, s8, rfl, hd9, hn10, rfl⟩ hM
 replace hM : Mem w0 H w H6 [.row (.slice A8 n8 c8) 151 1 n8 s8, .box b4 65 [.int .i64 0, .slice none 0 0], .box b3 103 [.int .i64 x1.Start, .int .i64 x1.Count], .box b2 65 [.int .i64 x0.Size, .slice A1 n1 c1]] := hM
 refine RW.st (Ex.extract rfl rfl) rfl <| RW.st (Ex.extract rfl rfl) rfl ?_
 refine RW.store hM 1 (.agg #[.int .i64 v5.1.Size, .slice A8 n8 c8]) [.int .i64 v5.1.Size, .slice A8 n8 c8] [.int .i64 v5.1.Size, .slice A8 n8 c8] sz65 rfl rfl rfl (oneAll ⟨rfl, rfl, trivial⟩) rfl (Nat.le_of_ble_eq_true rfl) rfl [.row (.slice A8 n8 c8) 151 1 n8 s8, .box b4 65 [.int .i64 v5.1.Size, .slice A8 n8 c8], .box b3 103 [.int .i64 x1.Start, .int .i64 x1.Count], .box b2 65 [.int .i64 x0.Size, .slice A1 n1 c1]] rfl rfl rfl ?_; intro w hM
 refine RW.st (Ex.assign (.int .i64 v5.2) rfl) rfl <| RW.nil <| CW.ret ?_
 refine end_cell_tmp (k := 1) (.inl rfl) rfl hM rfl (.int .i64 v5.2) rfl ta65 [.int .i64 v5.1.Size, .slice A8 n8 c8] rfl rfl ?_
 exact ⟨_, _, (hM.pick [0] rfl rfl), (v5.1, v5.2), hm, A8, n8, c8, s8, rfl, hd9, hn10, rfl⟩
theorem image_checkSizes_lift {H : Hp} (x0 : List Int) {A1 : Option Addr} {n1 c1 : Nat} {s1 : List Value} (hF1 : Fz (α := Int) H A1 n1 c1 x0 s1) {Φ : Int → Prop} (hm : image_checkSizes_W x0 Φ) : RetP Tryd.prog 110 #[.slice A1 n1 c1] H (fun _ v L => ∃ y, Φ y ∧ v = .int .i64 (y) ∧ L = []) := by
 refine RetP.of_code Tryd.func110 rfl (Nat.le_of_ble_eq_true rfl) fun w0 hM => ?_
 refine CW.seq <| CW.region <| RW.st (Ex.assign (.int .i64 0) rfl) rfl <| RW.nil <| CW.seq ?_
 skip
 refine CW.cut (fun D σ w => D = [] ∧ (∃ τ, σ = sl [(0, .slice A1 n1 c1), (10, .bool (decide (((x0.length : Int) < 1) ∨ (8 < (x0.length : Int)))))] τ) ∧ Mem w0 H w H []) ?_ ?_
 ·
  skip
  refine CW.region <| RW.st (Ex.move (.slice A1 n1 c1) rfl) rfl <| RW.st (Ex.lenN st40.1 rfl hF1.hn) rfl <| RW.st (Ex.lss rfl rfl) rfl <| RW.st (Ex.move (.bool (decide ((x0.length : Int) < 1))) rfl) rfl ?_
  refine RW.split 6 (p := (x0.length : Int) < 1) rfl (fun hc2 => ?_) (fun hc2 => ?_)
  ·
   skip
   refine RW.pass rfl rfl <| RW.pass rfl rfl <| RW.pass rfl rfl <| RW.st (Ex.pickT (.bool true) rfl rfl) rfl <| RW.nil ?_
   exact And.intro rfl (And.intro (sl_canon ⟨rfl, (congrArg Value.bool (decide_eq_true (.inl hc2)).symm), trivial⟩) hM)
  ·
   skip
   refine RW.st (Ex.move (.slice A1 n1 c1) rfl) rfl <| RW.st (Ex.lenN st40.1 rfl hF1.hn) rfl <| RW.st (Ex.gtr rfl rfl) rfl <| RW.st (Ex.pickF (.bool (decide (8 < (x0.length : Int)))) rfl rfl) rfl <| RW.nil ?_
   exact And.intro rfl (And.intro (sl_canon ⟨rfl, (congrArg Value.bool (decide_eq_decide.2 (imOr hc2 Iff.rfl))), trivial⟩) hM)
 rintro _ _ w ⟨rfl, ⟨τ, rfl⟩, hM⟩
 refine CW.cond_dec (p := ((x0.length : Int) < 1) ∨ (8 < (x0.length : Int))) rfl (fun hc3 => ?_) (fun hc3 => ?_)
 ·
  replace hm := And.left hm hc3
  refine CW.seq <| CW.region <| RW.st (Ex.assign (.int .i64 6) rfl) rfl <| RW.nil <| CW.ret ?_
  refine thenQ_ret ?_
  refine end_tmp (.inl rfl) rfl (.int .i64 6) rfl ?_
  exact ⟨_, _, hM, 6, hm, rfl, rfl⟩
 ·
  replace hm := And.right hm hc3
  refine CW.skip <| CW.seq <| CW.seq <| CW.region <| RW.st (Ex.move (.slice A1 n1 c1) rfl) rfl ?_
  refine RW.callP hM (slices_ContainsFunc_int_int__image_checkSizes_1_lift x0 hF1 hm) en140 rfl rfl rfl rfl ?_; rintro _ w H5 _ hle6 ⟨v4, hm, rfl, rfl⟩ hM
  replace hM : Mem w0 H w H5 [] := hM
  refine RW.nil ?_
  refine CW.cond_b rfl (fun hc7 => ?_) (fun hc7 => ?_)
  ·
   replace hm := And.left hm hc7
   refine CW.seq <| CW.region <| RW.st (Ex.assign (.int .i64 2) rfl) rfl <| RW.nil <| CW.ret ?_
   refine thenQ_ret ?_
   refine end_tmp (.inl rfl) rfl (.int .i64 2) rfl ?_
   exact ⟨_, _, hM, 2, hm, rfl, rfl⟩
  ·
   replace hm := And.right hm hc7
   refine CW.skip <| CW.seq <| CW.region <| RW.st (Ex.assign (.int .i64 0) rfl) rfl <| RW.nil <| CW.ret ?_
   refine end_tmp (.inl rfl) rfl (.int .i64 0) rfl ?_
   exact ⟨_, _, hM, 0, hm, rfl, rfl⟩
theorem bitmap_Or_lift {H : Hp} (x0 : api_Bitmap) (x1 : api_Bitmap) {A1 : Option Addr} {n1 c1 : Nat} {s1 : List Value} (hF1 : Fz (α := BitVec 64) H A1 n1 c1 x0.Words s1) {A2 : Option Addr} {n2 c2 : Nat} {s2 : List Value} (hF2 : Fz (α := BitVec 64) H A2 n2 c2 x1.Words s2) {Φ : api_Bitmap × Int → Prop} (hm : bitmap_Or_W x0 x1 Φ) : RetP Tryd.prog 82 #[.agg #[.int .i64 x0.Size, .slice A1 n1 c1], .agg #[.int .i64 x1.Size, .slice A2 n2 c2]] H (fun H' v L => ∃ y, Φ y ∧ ∃ A12, ∃ n12, ∃ c12, ∃ s12, v = .tuple #[.agg #[.int .i64 (y.1.Size), .slice A12 n12 c12], .int .i64 (y.2)] ∧ DtL (α := BitVec 64) H' s12 y.1.Words ∧ n12 = y.1.Words.length ∧ L = [.row (.slice A12 n12 c12) 151 1 n12 s12]) := by
 refine RetP.of_code Tryd.func82 rfl (Nat.le_of_ble_eq_true rfl) fun w0 hM => ?_
 refine CW.seq <| CW.region ?_
 refine RW.box hM (.agg #[.int .i64 x0.Size, .slice A1 n1 c1]) [.int .i64 x0.Size, .slice A1 n1 c1] rfl rfl rfl rfl ?_; intro b3 w hM
 replace hM : Mem w0 H w H [.box b3 65 [.int .i64 x0.Size, .slice A1 n1 c1]] := hM
 refine RW.box hM (.agg #[.int .i64 x1.Size, .slice A2 n2 c2]) [.int .i64 x1.Size, .slice A2 n2 c2] rfl rfl rfl rfl ?_; intro b4 w hM
 replace hM : Mem w0 H w H [.box b4 65 [.int .i64 x1.Size, .slice A2 n2 c2], .box b3 65 [.int .i64 x0.Size, .slice A1 n1 c1]] := hM
 refine RW.alloc hM tz65 [.int .i64 0, .slice none 0 0] rfl rfl rfl ?_; intro b5 w hM
 replace hM : Mem w0 H w H [.box b5 65 [.int .i64 0, .slice none 0 0], .box b4 65 [.int .i64 x1.Size, .slice A2 n2 c2], .box b3 65 [.int .i64 x0.Size, .slice A1 n1 c1]] := hM
 refine RW.st (Ex.assign (.int .i64 0) rfl) rfl <| RW.nil <| CW.seq <| CW.region <| RW.st (Ex.loadA hM 2 [.int .i64 x0.Size, .slice A1 n1 c1] ta65 rfl rfl rfl rfl) rfl <| RW.st (Ex.loadA hM 1 [.int .i64 x1.Size, .slice A2 n2 c2] ta65 rfl rfl rfl rfl) rfl ?_
 refine RW.callP hM (bitmap_both__bitmap_Or_1_lift x0 x1 hF1 hF2 hm) en125 rfl rfl rfl rfl ?_; rintro _ w H7 _ hle8 ⟨v6, hm, A9, n9, c9, s9, rfl, hd10, hn11, rfl⟩ hM
 replace hM : Mem w0 H w H7 [.row (.slice A9 n9 c9) 151 1 n9 s9, .box b5 65 [.int .i64 0, .slice none 0 0], .box b4 65 [.int .i64 x1.Size, .slice A2 n2 c2], .box b3 65 [.int .i64 x0.Size, .slice A1 n1 c1]] := hM
 refine RW.st (Ex.extract rfl rfl) rfl <| RW.st (Ex.extract rfl rfl) rfl ?_
 refine RW.store hM 1 (.agg #[.int .i64 v6.1.Size, .slice A9 n9 c9]) [.int .i64 v6.1.Size, .slice A9 n9 c9] [.int .i64 v6.1.Size, .slice A9 n9 c9] sz65 rfl rfl rfl (oneAll ⟨rfl, rfl, trivial⟩) rfl (Nat.le_of_ble_eq_true rfl) rfl [.row (.slice A9 n9 c9) 151 1 n9 s9, .box b5 65 [.int .i64 v6.1.Size, .slice A9 n9 c9], .box b4 65 [.int .i64 x1.Size, .slice A2 n2 c2], .box b3 65 [.int .i64 x0.Size, .slice A1 n1 c1]] rfl rfl rfl ?_; intro w hM
 refine RW.st (Ex.assign (.int .i64 v6.2) rfl) rfl <| RW.nil <| CW.ret ?_
 refine end_cell_tmp (k := 1) (.inl rfl) rfl hM rfl (.int .i64 v6.2) rfl ta65 [.int .i64 v6.1.Size, .slice A9 n9 c9] rfl rfl ?_
 exact ⟨_, _, (hM.pick [0] rfl rfl), (v6.1, v6.2), hm, A9, n9, c9, s9, rfl, hd10, hn11, rfl⟩
theorem slices_ContainsFunc_int_int__cycle_positions_1_lift {H : Hp} (x0 : List Int) {A1 : Option Addr} {n1 c1 : Nat} {s1 : List Value} (hF1 : Fz (α := Int) H A1 n1 c1 x0 s1) {Φ : Bool → Prop} (hm : slices_ContainsFunc_int_int__cycle_positions_1_W x0 Φ) : RetP Tryd.prog 140 #[.slice A1 n1 c1, .func (.func 141) #[] #[]] H (fun _ v L => ∃ y, Φ y ∧ v = .bool y ∧ L = []) := by
 refine RetP.of_code Tryd.func140 rfl (Nat.le_of_ble_eq_true rfl) fun w0 hM => ?_
 refine CW.seq <| CW.region <| RW.st (Ex.assign (.bool false) rfl) rfl <| RW.nil <| CW.seq <| CW.region <| RW.st (Ex.move (.slice A1 n1 c1) rfl) rfl <| RW.st (Ex.move (.func (.func 141) #[] #[]) rfl) rfl ?_
 refine RW.callP hM (slices_IndexFunc_int_int__cycle_positions_1_lift x0 hF1 hm) en157 rfl rfl rfl rfl ?_; rintro _ w H3 _ hle4 ⟨v2, hm, rfl, rfl⟩ hM
 replace hM : Mem w0 H w H3 [] := hM
 refine RW.st (Ex.geq rfl rfl) rfl <| RW.st (Ex.assign (.bool (decide (0 ≤ v2))) rfl) rfl <| RW.nil <| CW.ret ?_
 refine end_tmp (.inl rfl) rfl (.bool (decide (0 ≤ v2))) rfl ?_
 exact ⟨_, _, hM, decide (0 ≤ v2), hm, rfl, rfl⟩
theorem law47_fitting_lift {H : Hp} (x0 : List (List Sec)) (x1 : List api_Write) {A1 : Option Addr} {n1 c1 : Nat} {s1 : List Value} (hF1 : Fz (α := List Sec) H A1 n1 c1 x0 s1) {A2 : Option Addr} {n2 c2 : Nat} {s2 : List Value} (hF2 : Fz (α := api_Write) H A2 n2 c2 x1 s2) {Φ : List api_Write → Prop} (hm : law47_fitting_W x0 x1 Φ) : RetP Tryd.prog 60 #[.slice A1 n1 c1, .slice A2 n2 c2] H (fun H' v L => ∃ y, Φ y ∧ ∃ A46, ∃ n46, ∃ c46, ∃ s46, v = .slice A46 n46 c46 ∧ DtL (α := api_Write) H' s46 y ∧ n46 = y.length ∧ L = [.row (.slice A46 n46 c46) 100 3 n46 s46]) := by
 refine RetP.of_code Tryd.func60 rfl (Nat.le_of_ble_eq_true rfl) fun w0 hM => ?_
 refine CW.seq <| CW.region <| RW.st (Ex.assign (.slice none 0 0) rfl) rfl <| RW.nil <| CW.seq <| CW.region <| RW.st (Ex.assign (.slice none 0 0) rfl) rfl <| RW.nil <| CW.seq <| CW.seq <| CW.region <| RW.st (Ex.assign (.int .i64 0) rfl) rfl <| RW.nil <| CW.block ?_
 obtain ⟨m45, hm⟩ := hm
 skip
 replace hM := hM.nilRow 100 3
 refine CW.loop (β := Nat) (fun n σ w => ∃ (v5 : List api_Write), ∃ (A6 : Option Addr), ∃ (n7 : Nat), ∃ (c8 : Nat), ∃ (s9 : List Value), ∃ (v12 : Int), ∃ Hk3, H.le Hk3 ∧ (∃ τ, σ = sl [(0, .slice A1 n1 c1), (1, .slice A2 n2 c2), (5, .slice A6 n7 c8), (6, .int .i64 v12)] τ) ∧ Mem w0 H w Hk3 [.row (.slice A6 n7 c8) 100 3 n7 s9] ∧ (DtL (α := api_Write) Hk3 s9 v5) ∧ (n7 = v5.length) ∧ LoopN (law47_fitting_L1 x0 x1 Φ) n (v5, v12)) (fun n => n) m45 ⟨([] : List api_Write), none, 0, 0, [], 0, H, (Hp.le.refl _), sl_canon ⟨rfl, rfl, rfl, rfl, trivial⟩, hM, (DtL.nil : DtL _ [] ([] : List api_Write)), rfl, hm⟩ ?_
 rintro k13 _ w ⟨v5, A6, n7, c8, s9, v12, Hk3, hle4, ⟨τ, rfl⟩, hM, hd10, hn11, hm⟩
 obtain _ | k13 := k13
 · exact hm.elim
 replace hm : (law47_fitting_L1 x0 x1 Φ) (v5, v12) (LoopN (law47_fitting_L1 x0 x1 Φ) k13) := hm
 generalize hrec14 : LoopN (law47_fitting_L1 x0 x1 Φ) k13 = rec1 at hm
 refine CW.seq ?_
 skip
 refine CW.cut (fun D σ w => D = [] ∧ (∃ τ, σ = sl [(0, .slice A1 n1 c1), (1, .slice A2 n2 c2), (5, .slice A6 n7 c8), (6, .int .i64 v12), (14, .bool (decide ((v12 < (x1.length : Int)) ∧ (v12 < 8))))] τ) ∧ Mem w0 H w Hk3 [.row (.slice A6 n7 c8) 100 3 n7 s9]) ?_ ?_
 ·
  skip
  refine CW.region <| RW.st (Ex.move (.int .i64 v12) rfl) rfl <| RW.st (Ex.move (.slice A2 n2 c2) rfl) rfl <| RW.st (Ex.lenN st43.1 rfl hF2.hn) rfl <| RW.st (Ex.lss rfl rfl) rfl <| RW.st (Ex.move (.bool (decide (v12 < (x1.length : Int)))) rfl) rfl ?_
  refine RW.split 11 (p := v12 < (x1.length : Int)) rfl (fun hc15 => ?_) (fun hc15 => ?_)
  ·
   skip
   refine RW.st (Ex.move (.int .i64 v12) rfl) rfl <| RW.st (Ex.lss rfl rfl) rfl <| RW.st (Ex.pickT (.bool (decide (v12 < 8))) rfl rfl) rfl <| RW.nil ?_
   exact And.intro rfl (And.intro (sl_canon ⟨rfl, rfl, rfl, rfl, (congrArg Value.bool (decide_eq_decide.2 (imAnd hc15 Iff.rfl))), trivial⟩) hM)
  ·
   skip
   refine RW.pass rfl rfl <| RW.pass rfl rfl <| RW.st (Ex.pickF (.bool false) rfl rfl) rfl <| RW.nil ?_
   exact And.intro rfl (And.intro (sl_canon ⟨rfl, rfl, rfl, rfl, (congrArg Value.bool (decide_eq_false (fun q => hc15 q.1)).symm), trivial⟩) hM)
 rintro _ _ w ⟨rfl, ⟨τ, rfl⟩, hM⟩
 refine CW.cond_dec (p := (v12 < (x1.length : Int)) ∧ (v12 < 8)) rfl (fun hc16 => ?_) (fun hc16 => ?_)
 ·
  replace hm := And.left hm hc16
  refine CW.skip <| CW.seq <| CW.block <| CW.seq <| CW.region <| RW.st (Ex.move (.slice A1 n1 c1) rfl) rfl <| RW.st (Ex.move (.slice A2 n2 c2) rfl) rfl <| RW.st (Ex.move (.int .i64 v12) rfl) rfl ?_
  obtain ⟨hg27, hm⟩ := hm
  refine RW.st (Ex.index st43 rfl rfl v12.toNat (hF2.ne hg27) hg27.nat (hF2.lt hg27)) rfl ?_
  obtain ⟨_, ⟨A28, n28, c28, s28, rfl, hF28⟩, hx29⟩ := DtL.getI (α := api_Write) (hF2.mono hle4).dat hg27
  refine RW.st (Ex.loadEA hM hle4 hF2.rdc [.int .i64 ((ix x1 v12).Volume), .int .i64 ((ix x1 v12).Start), .slice A28 n28 c28] ta100 rfl (hF2.ne hg27) rfl (chunk_sub (off := 0) (n := 3) hx29 rfl)) rfl ?_
  refine RW.callP hM (ref07_Fits_lift x0 (ix x1 v12) (hF1.mono hle4) hF28 hm) en109 rfl rfl rfl rfl ?_; rintro _ w H31 _ hle32 ⟨v30, hm, rfl, rfl⟩ hM
  replace hM : Mem w0 H w H31 [.row (.slice A6 n7 c8) 100 3 n7 s9] := hM
  refine RW.st (Ex.eql rfl rfl) rfl <| RW.nil ?_
  refine CW.cond_dec (p := v30 = 0) rfl (fun hc33 => ?_) (fun hc33 => ?_)
  ·
   replace hm := And.left hm hc33
   refine CW.region <| RW.st (Ex.move (.slice A6 n7 c8) rfl) rfl <| RW.st (Ex.move (.slice A2 n2 c2) rfl) rfl <| RW.st (Ex.move (.int .i64 v12) rfl) rfl <| RW.st (Ex.index st43 rfl rfl v12.toNat (hF2.ne hg27) hg27.nat (hF2.lt hg27)) rfl <| RW.st (Ex.loadEA hM (hle4.trans hle32) hF2.rdc [.int .i64 ((ix x1 v12).Volume), .int .i64 ((ix x1 v12).Start), .slice A28 n28 c28] ta100 rfl (hF2.ne hg27) rfl (chunk_sub (off := 0) (n := 3) hx29 rfl)) rfl ?_
   refine RW.buildSlice hM st43 tz100 [(0, .agg #[.int .i64 ((ix x1 v12).Volume), .int .i64 ((ix x1 v12).Start), .slice A28 n28 c28])] [.int .i64 ((ix x1 v12).Volume), .int .i64 ((ix x1 v12).Start), .slice A28 n28 c28] (by decide) rfl rfl rfl (by decide) rfl rfl ?_; intro b34 w hM
   have hd35 : DtL H31 [.int .i64 ((ix x1 v12).Volume), .int .i64 ((ix x1 v12).Start), .slice A28 n28 c28] ([(ix x1 v12)] : List api_Write) := (DtL.cons (c1 := [.int .i64 ((ix x1 v12).Volume), .int .i64 ((ix x1 v12).Start), .slice A28 n28 c28]) ⟨_, _, _, _, rfl, (hF28.mono hle32)⟩ DtL.nil)
   replace hM : Mem w0 H w H31 [.row (.slice (some ⟨b34, 0, none⟩) 1 1) 100 3 1 [.int .i64 ((ix x1 v12).Volume), .int .i64 ((ix x1 v12).Start), .slice A28 n28 c28], .row (.slice A6 n7 c8) 100 3 n7 s9] := hM
   obtain ⟨hg42, hm⟩ := hm
   refine RW.appendD (α := api_Write) (xs := v5) (ys := ([(ix x1 v12)] : List api_Write)) hM 1 st43 rfl rfl (hd10.mono hle32) hn11 rfl (fun j u hj => hM.rowCell (k := 0) rfl rfl hj) hd35 rfl hg42 rfl rfl ?_; intro A36 n37 c38 s39 w hd40 hn41 hM
   replace hM : Mem w0 H w H31 [.row (.slice (some ⟨b34, 0, none⟩) 1 1) 100 3 1 [.int .i64 ((ix x1 v12).Volume), .int .i64 ((ix x1 v12).Start), .slice A28 n28 c28], .row (.slice A36 n37 c38) 100 3 n37 s39] := hM
   refine RW.st (Ex.assign (.slice A36 n37 c38) rfl) rfl <| RW.nil <| CW.region <| RW.st (Ex.move (.int .i64 v12) rfl) rfl ?_
   obtain ⟨hg43, hm⟩ := hm
   refine RW.st (Ex.add rfl rfl hg43.1 hg43.2) rfl <| RW.st (Ex.assign (.int .i64 (v12 + 1)) rfl) rfl <| RW.nil ?_
   exact And.intro rfl ⟨k13, ⟨(v5 ++ ([(ix x1 v12)] : List api_Write)), A36, n37, c38, s39, v12 + 1, H31, hle4.trans hle32, sl_canon ⟨rfl, rfl, rfl, rfl, trivial⟩, (hM.pick [1] rfl rfl), hd40, hn41, (by rw [hrec14]; exact hm)⟩, Nat.lt_succ_self _⟩
  ·
   replace hm := And.right hm hc33
   refine CW.skip <| CW.region <| RW.st (Ex.move (.int .i64 v12) rfl) rfl ?_
   obtain ⟨hg44, hm⟩ := hm
   refine RW.st (Ex.add rfl rfl hg44.1 hg44.2) rfl <| RW.st (Ex.assign (.int .i64 (v12 + 1)) rfl) rfl <| RW.nil ?_
   exact And.intro rfl ⟨k13, ⟨v5, A6, n7, c8, s9, v12 + 1, H31, hle4.trans hle32, sl_canon ⟨rfl, rfl, rfl, rfl, trivial⟩, hM, (hd10.mono hle32), hn11, (by rw [hrec14]; exact hm)⟩, Nat.lt_succ_self _⟩
 ·
  replace hm := And.right hm hc16
  refine CW.exit ?_
  refine CW.seq <| CW.region <| RW.st (Ex.move (.slice A6 n7 c8) rfl) rfl <| RW.st (Ex.assign (.slice A6 n7 c8) rfl) rfl <| RW.nil <| CW.ret ?_
  refine end_tmp (.inl rfl) rfl (.slice A6 n7 c8) rfl ?_
  exact ⟨_, _, hM, v5, hm, A6, n7, c8, s9, rfl, hd10, hn11, rfl⟩
end Go.Proofs.YtahlanamngfkcaaDoor

namespace Go.Proofs.YtahlanamngfkcaaDoor
open Go.RowKit
theorem ref02_FromExtents_lift {H : Hp} (x0 : Int) (x1 : List api_Extent) {A1 : Option Addr} {n1 c1 : Nat} {s1 : List Value} (hF1 : Fz (α := api_Extent) H A1 n1 c1 x1 s1) {Φ : api_Bitmap × Int → Prop} (hm : ref02_FromExtents_W x0 x1 Φ) : RetP Tryd.prog 26 #[.int .i64 x0, .slice A1 n1 c1] H (fun H' v L => ∃ y, Φ y ∧ ∃ A91, ∃ n91, ∃ c91, ∃ s91, v = .tuple #[.agg #[.int .i64 (y.1.Size), .slice A91 n91 c91], .int .i64 (y.2)] ∧ Fz (α := BitVec 64) H' A91 n91 c91 y.1.Words s91 ∧ L = []) := by
 refine RetP.of_code Tryd.func26 rfl (Nat.le_of_ble_eq_true rfl) fun w0 hM => ?_
 refine CW.seq <| CW.region ?_
 refine RW.alloc hM tz65 [.int .i64 0, .slice none 0 0] rfl rfl rfl ?_; intro b2 w hM
 replace hM : Mem w0 H w H [.box b2 65 [.int .i64 0, .slice none 0 0]] := hM
 refine RW.st (Ex.assign (.int .i64 0) rfl) rfl <| RW.nil <| CW.seq <| CW.region <| RW.st (Ex.move (.int .i64 x0) rfl) rfl ?_
 refine RW.callP hM (ref02_New_lift x0 hm) en65 rfl rfl rfl rfl ?_; rintro _ w H4 _ hle5 ⟨v3, hm, A6, n6, c6, s6, rfl, hd7, hn8, rfl⟩ hM
 replace hM : Mem w0 H w H4 [.row (.slice A6 n6 c6) 151 1 n6 s6, .box b2 65 [.int .i64 0, .slice none 0 0]] := hM
 refine RW.st (Ex.move (.tuple #[.agg #[.int .i64 v3.1.Size, .slice A6 n6 c6], .int .i64 v3.2]) rfl) rfl <| RW.st (Ex.extract rfl rfl) rfl <| RW.st (Ex.extract rfl rfl) rfl ?_
 refine RW.alloc hM tz65 [.int .i64 0, .slice none 0 0] rfl rfl rfl ?_; intro b9 w hM
 replace hM : Mem w0 H w H4 [.box b9 65 [.int .i64 0, .slice none 0 0], .row (.slice A6 n6 c6) 151 1 n6 s6, .box b2 65 [.int .i64 0, .slice none 0 0]] := hM
 refine RW.store hM 0 (.agg #[.int .i64 v3.1.Size, .slice A6 n6 c6]) [.int .i64 v3.1.Size, .slice A6 n6 c6] [.int .i64 v3.1.Size, .slice A6 n6 c6] sz65 rfl rfl rfl (oneAll ⟨rfl, rfl, trivial⟩) rfl (Nat.le_of_ble_eq_true rfl) rfl [.box b9 65 [.int .i64 v3.1.Size, .slice A6 n6 c6], .row (.slice A6 n6 c6) 151 1 n6 s6, .box b2 65 [.int .i64 0, .slice none 0 0]] rfl rfl rfl ?_; intro w hM
 refine RW.st (Ex.assign (.int .i64 v3.2) rfl) rfl <| RW.nil <| CW.seq <| CW.seq <| CW.region <| RW.st (Ex.assign (.int .i64 0) rfl) rfl <| RW.nil <| CW.block ?_
 obtain ⟨m90, hm⟩ := hm
 skip
 obtain ⟨H21, hM, hle22, hF23⟩ := hM.giveF (α := BitVec 64) 1 rfl hd7 hn8
 replace hM : Mem w0 H w H21 [.box b9 65 [.int .i64 v3.1.Size, .slice A6 n6 c6], .box b2 65 [.int .i64 0, .slice none 0 0]] := hM
 refine CW.loop (β := Nat) (fun n σ w => ∃ (v12 : Int), ∃ (v13 : List (BitVec 64)), ∃ (A14 : Option Addr), ∃ (n15 : Nat), ∃ (c16 : Nat), ∃ (s17 : List Value), ∃ (v19 : Int), ∃ (v20 : Int), ∃ Hk10, H4.le Hk10 ∧ (∃ τ, σ = sl [(1, .slice A1 n1 c1), (4, .pointer (some ⟨b2, 0, none⟩)), (6, .pointer (some ⟨b9, 0, none⟩)), (7, .int .i64 v19), (8, .int .i64 v20)] τ) ∧ Mem w0 H w Hk10 [.box b2 65 [.int .i64 0, .slice none 0 0], .box b9 65 [.int .i64 v12, .slice A14 n15 c16]] ∧ (Fz (α := BitVec 64) Hk10 A14 n15 c16 v13 s17) ∧ LoopN (ref02_FromExtents_L1 x1 Φ) n (v12, v13, v19, v20)) (fun n => n) m90 ⟨v3.1.Size, v3.1.Words, A6, n6, c6, s6, v3.2, 0, H21, hle22, sl_canon ⟨rfl, rfl, rfl, rfl, rfl, trivial⟩, (hM.pick [1, 0] rfl rfl), hF23, hm⟩ ?_
 rintro k24 _ w ⟨v12, v13, A14, n15, c16, s17, v19, v20, Hk10, hle11, ⟨τ, rfl⟩, hM, hF18, hm⟩
 obtain _ | k24 := k24
 · exact hm.elim
 replace hm : (ref02_FromExtents_L1 x1 Φ) (v12, v13, v19, v20) (LoopN (ref02_FromExtents_L1 x1 Φ) k24) := hm
 generalize hrec25 : LoopN (ref02_FromExtents_L1 x1 Φ) k24 = rec1 at hm
 refine CW.seq ?_
 skip
 refine CW.cut (fun D σ w => D = [] ∧ (∃ τ, σ = sl [(1, .slice A1 n1 c1), (4, .pointer (some ⟨b2, 0, none⟩)), (6, .pointer (some ⟨b9, 0, none⟩)), (7, .int .i64 v19), (8, .int .i64 v20), (21, .bool (decide ((v20 < (x1.length : Int)) ∧ (v19 = 0))))] τ) ∧ Mem w0 H w Hk10 [.box b2 65 [.int .i64 0, .slice none 0 0], .box b9 65 [.int .i64 v12, .slice A14 n15 c16]]) ?_ ?_
 ·
  skip
  refine CW.region <| RW.st (Ex.move (.int .i64 v20) rfl) rfl <| RW.st (Ex.move (.slice A1 n1 c1) rfl) rfl <| RW.st (Ex.lenN st68.1 rfl hF1.hn) rfl <| RW.st (Ex.lss rfl rfl) rfl <| RW.st (Ex.move (.bool (decide (v20 < (x1.length : Int)))) rfl) rfl ?_
  refine RW.split 18 (p := v20 < (x1.length : Int)) rfl (fun hc26 => ?_) (fun hc26 => ?_)
  ·
   skip
   refine RW.st (Ex.move (.int .i64 v19) rfl) rfl <| RW.st (Ex.eql rfl rfl) rfl <| RW.st (Ex.pickT (.bool (decide (v19 = 0))) rfl rfl) rfl <| RW.nil ?_
   exact And.intro rfl (And.intro (sl_canon ⟨rfl, rfl, rfl, rfl, rfl, (congrArg Value.bool (decide_eq_decide.2 (imAnd hc26 Iff.rfl))), trivial⟩) hM)
  ·
   skip
   refine RW.pass rfl rfl <| RW.pass rfl rfl <| RW.st (Ex.pickF (.bool false) rfl rfl) rfl <| RW.nil ?_
   exact And.intro rfl (And.intro (sl_canon ⟨rfl, rfl, rfl, rfl, rfl, (congrArg Value.bool (decide_eq_false (fun q => hc26 q.1)).symm), trivial⟩) hM)
 rintro _ _ w ⟨rfl, ⟨τ, rfl⟩, hM⟩
 refine CW.cond_dec (p := (v20 < (x1.length : Int)) ∧ (v19 = 0)) rfl (fun hc27 => ?_) (fun hc27 => ?_)
 ·
  replace hm := And.left hm hc27
  refine CW.skip <| CW.seq <| CW.block ?_
  obtain ⟨hg47, hm⟩ := hm
  obtain ⟨_, rfl, hx48⟩ := DtL.getI (α := api_Extent) (hF1.mono (hle5.trans hle11)).dat hg47
  obtain ⟨v49, hW50, hm⟩ := hm
  refine CW.drawL 9 [8] [(fun Hq us E => us = [.agg #[.int .i64 v12, .slice A14 n15 c16]] ∧ E = [] ∧ True), (fun Hq us E => us = [.slice A1 n1 c1] ∧ E = [] ∧ True), (fun Hq us E => us = [.int .i64 v20] ∧ E = [] ∧ True), (fun Hq us E => us = [elp A1 (v20.toNat * 2 + 0)] ∧ E = [] ∧ True), (fun Hq us E => us = [.agg #[.int .i64 ((ix x1 v20).Start), .int .i64 ((ix x1 v20).Count)]] ∧ E = [] ∧ True), (fun Hq us E => ∃ (A51 : Option Addr), ∃ (n51 : Nat), ∃ (c51 : Nat), ∃ (s51 : List Value), us = [.tuple #[.agg #[.int .i64 v49.1.Size, .slice A51 n51 c51], .int .i64 v49.2]] ∧ E = [] ∧ Fz (α := BitVec 64) Hq A51 n51 c51 v49.1.Words s51 ∧ True), (fun Hq us E => ∃ (A51 : Option Addr), ∃ (n51 : Nat), ∃ (c51 : Nat), ∃ (s51 : List Value), us = [.tuple #[.agg #[.int .i64 v49.1.Size, .slice A51 n51 c51], .int .i64 v49.2], .tuple #[.agg #[.int .i64 v49.1.Size, .slice A51 n51 c51], .int .i64 v49.2]] ∧ E = [] ∧ Fz (α := BitVec 64) Hq A51 n51 c51 v49.1.Words s51 ∧ True), (fun Hq us E => ∃ (A51 : Option Addr), ∃ (n51 : Nat), ∃ (c51 : Nat), ∃ (s51 : List Value), us = [.tuple #[.agg #[.int .i64 v49.1.Size, .slice A51 n51 c51], .int .i64 v49.2], .agg #[.int .i64 v49.1.Size, .slice A51 n51 c51]] ∧ E = [] ∧ Fz (α := BitVec 64) Hq A51 n51 c51 v49.1.Words s51 ∧ True), (fun Hq us E => us = [.int .i64 v49.2] ∧ E = [] ∧ True)]
   (fun k => [[0], [1], [2], [3], [4], [5], [5, 6], [6, 7], [8]].getD k []) (fun _ => none) (by kernel_rfl) hM (by kernel_rfl) (by kernel_rfl) (by kernel_rfl) rfl (by simp only [List.forall_mem_cons]; exact ⟨fun _ _ _ _ hle ⟨e1, e2, _⟩ => ⟨e1, e2, trivial⟩, fun _ _ _ _ hle ⟨e1, e2, _⟩ => ⟨e1, e2, trivial⟩, fun _ _ _ _ hle ⟨e1, e2, _⟩ => ⟨e1, e2, trivial⟩, fun _ _ _ _ hle ⟨e1, e2, _⟩ => ⟨e1, e2, trivial⟩, fun _ _ _ _ hle ⟨e1, e2, _⟩ => ⟨e1, e2, trivial⟩, fun _ _ _ _ hle ⟨A51, n51, c51, s51, e1, e2, hF54, _⟩ => ⟨A51, n51, c51, s51, e1, e2, hF54.mono hle, trivial⟩, fun _ _ _ _ hle ⟨A51, n51, c51, s51, e1, e2, hF54, _⟩ => ⟨A51, n51, c51, s51, e1, e2, hF54.mono hle, trivial⟩, fun _ _ _ _ hle ⟨A51, n51, c51, s51, e1, e2, hF54, _⟩ => ⟨A51, n51, c51, s51, e1, e2, hF54.mono hle, trivial⟩, fun _ _ _ _ hle ⟨e1, e2, _⟩ => ⟨e1, e2, trivial⟩, by simp⟩) ⟨?_, ?_, ?_, ?_, ?_, ?_, ?_, ?_, ?_, trivial⟩ ?_
  ·
   intro H' σ' w R E hle hMR hE0 hE hp hf
   obtain rfl := hE0 rfl
   obtain ⟨τ, rfl⟩ := sl_canon (σ := σ') (l := [(6, .pointer (some ⟨b9, 0, none⟩))]) ⟨(hf 6 (by kernel_rfl)).trans rfl, trivial⟩
   have hM := Mem.subR (R := R) hMR
   exact RW.step (Ex.loadA hM 1 [.int .i64 v12, .slice A14 n15 c16] ta65 rfl rfl rfl rfl) rfl rfl rfl (RW.nil ⟨rfl, rfl, _, rfl, H', [], Hp.le.refl _, hMR, rfl, rfl, trivial⟩)
  ·
   intro H' σ' w R E hle hMR hE0 hE hp hf
   obtain rfl := hE0 rfl
   obtain ⟨τ, rfl⟩ := sl_canon (σ := σ') (l := [(1, .slice A1 n1 c1)]) ⟨(hf 1 (by kernel_rfl)).trans rfl, trivial⟩
   have hM := Mem.subR (R := R) hMR
   exact RW.step (Ex.move (.slice A1 n1 c1) rfl) rfl rfl rfl (RW.nil ⟨rfl, rfl, _, rfl, H', [], Hp.le.refl _, hMR, rfl, rfl, trivial⟩)
  ·
   intro H' σ' w R E hle hMR hE0 hE hp hf
   obtain rfl := hE0 rfl
   obtain ⟨τ, rfl⟩ := sl_canon (σ := σ') (l := [(8, .int .i64 v20)]) ⟨(hf 8 (by kernel_rfl)).trans rfl, trivial⟩
   have hM := Mem.subR (R := R) hMR
   exact RW.step (Ex.move (.int .i64 v20) rfl) rfl rfl rfl (RW.nil ⟨rfl, rfl, _, rfl, H', [], Hp.le.refl _, hMR, rfl, rfl, trivial⟩)
  ·
   intro H' σ' w R E hle hMR hE0 hE hp hf
   obtain rfl := hE0 rfl
   obtain ⟨_, hg⟩ := hp 1 (by decide) (by kernel_rfl)
   obtain ⟨e55, _, _⟩ := hg.get rfl
   have e56 : σ' 26 = .slice A1 n1 c1 := (List.cons.inj e55).1
   obtain ⟨_, hg⟩ := hp 2 (by decide) (by kernel_rfl)
   obtain ⟨e57, _, _⟩ := hg.get rfl
   have e58 : σ' 27 = .int .i64 v20 := (List.cons.inj e57).1
   obtain ⟨τ, rfl⟩ := sl_canon (σ := σ') (l := [(26, .slice A1 n1 c1), (27, .int .i64 v20)]) ⟨e56, e58, trivial⟩
   have hM := Mem.subR (R := R) hMR
   exact RW.step (Ex.index st68 rfl rfl v20.toNat (hF1.ne hg47) hg47.nat (hF1.lt hg47)) rfl rfl rfl (RW.nil ⟨rfl, rfl, _, rfl, H', [], Hp.le.refl _, hMR, rfl, rfl, trivial⟩)
  ·
   intro H' σ' w R E hle hMR hE0 hE hp hf
   obtain rfl := hE0 rfl
   obtain ⟨_, hg⟩ := hp 3 (by decide) (by kernel_rfl)
   obtain ⟨e59, _, _⟩ := hg.get rfl
   have e60 : σ' 28 = elp A1 (v20.toNat * 2 + 0) := (List.cons.inj e59).1
   obtain ⟨τ, rfl⟩ := sl_canon (σ := σ') (l := [(28, elp A1 (v20.toNat * 2 + 0))]) ⟨e60, trivial⟩
   have hM := Mem.subR (R := R) hMR
   exact RW.step (Ex.loadEA hM ((hle5.trans hle11).trans hle) hF1.rdc [.int .i64 ((ix x1 v20).Start), .int .i64 ((ix x1 v20).Count)] ta103 rfl (hF1.ne hg47) rfl (chunk_sub (off := 0) (n := 2) hx48 rfl)) rfl rfl rfl (RW.nil ⟨rfl, rfl, _, rfl, H', [], Hp.le.refl _, hMR, rfl, rfl, trivial⟩)
  ·
   intro H' σ' w R E hle hMR hE0 hE hp hf
   obtain rfl := hE0 rfl
   obtain ⟨_, hg⟩ := hp 0 (by decide) (by kernel_rfl)
   obtain ⟨e61, _, _⟩ := hg.get rfl
   have e62 : σ' 25 = .agg #[.int .i64 v12, .slice A14 n15 c16] := (List.cons.inj e61).1
   obtain ⟨_, hg⟩ := hp 4 (by decide) (by kernel_rfl)
   obtain ⟨e63, _, _⟩ := hg.get rfl
   have e64 : σ' 29 = .agg #[.int .i64 ((ix x1 v20).Start), .int .i64 ((ix x1 v20).Count)] := (List.cons.inj e63).1
   obtain ⟨τ, rfl⟩ := sl_canon (σ := σ') (l := [(25, .agg #[.int .i64 v12, .slice A14 n15 c16]), (29, .agg #[.int .i64 ((ix x1 v20).Start), .int .i64 ((ix x1 v20).Count)])]) ⟨e62, e64, trivial⟩
   have hM := Mem.subR (R := R) hMR
   refine RW.callP hMR (ref02_Set_lift (api_Bitmap.mk v12 v13) (ix x1 v20) (hF18.mono hle) hW50) en66 rfl rfl rfl rfl ?_; rintro _ w H9 _ hle9 ⟨_, rfl, A51, n51, c51, s51, rfl, hd52, hn53, rfl⟩ hMR
   obtain ⟨H90, hMR, hle90, hF54⟩ := hMR.giveF (α := BitVec 64) 0 rfl hd52 hn53
   exact RW.nil ⟨rfl, rfl, _, rfl, H90, [], (hle9.trans hle90), hMR, A51, n51, c51, s51, rfl, rfl, hF54, trivial⟩
  ·
   intro H' σ' w R E hle hMR hE0 hE hp hf
   obtain rfl := hE0 rfl
   obtain ⟨_, hg⟩ := hp 5 (by decide) (by kernel_rfl)
   obtain ⟨A51, n51, c51, s51, e65, _, hF54, _⟩ := hg.get rfl
   have e66 : σ' 30 = .tuple #[.agg #[.int .i64 v49.1.Size, .slice A51 n51 c51], .int .i64 v49.2] := (List.cons.inj e65).1
   obtain ⟨τ, rfl⟩ := sl_canon (σ := σ') (l := [(30, .tuple #[.agg #[.int .i64 v49.1.Size, .slice A51 n51 c51], .int .i64 v49.2])]) ⟨e66, trivial⟩
   have hM := Mem.subR (R := R) hMR
   exact RW.step (Ex.move (.tuple #[.agg #[.int .i64 v49.1.Size, .slice A51 n51 c51], .int .i64 v49.2]) rfl) rfl rfl rfl (RW.nil ⟨rfl, rfl, _, rfl, H', [], Hp.le.refl _, hMR, A51, n51, c51, s51, rfl, rfl, hF54, trivial⟩)
  ·
   intro H' σ' w R E hle hMR hE0 hE hp hf
   obtain rfl := hE0 rfl
   obtain ⟨_, hg⟩ := hp 6 (by decide) (by kernel_rfl)
   obtain ⟨A51, n51, c51, s51, e67, _, hF54, _⟩ := hg.get rfl
   have e68 : σ' 30 = .tuple #[.agg #[.int .i64 v49.1.Size, .slice A51 n51 c51], .int .i64 v49.2] := (List.cons.inj e67).1
   have e69 : σ' 24 = .tuple #[.agg #[.int .i64 v49.1.Size, .slice A51 n51 c51], .int .i64 v49.2] := (List.cons.inj (List.cons.inj e67).2).1
   obtain ⟨τ, rfl⟩ := sl_canon (σ := σ') (l := [(24, .tuple #[.agg #[.int .i64 v49.1.Size, .slice A51 n51 c51], .int .i64 v49.2])]) ⟨e69, trivial⟩
   have hM := Mem.subR (R := R) hMR
   exact RW.step (Ex.extract rfl rfl) rfl rfl rfl (RW.nil ⟨rfl, rfl, _, rfl, H', [], Hp.le.refl _, hMR, A51, n51, c51, s51, rfl, rfl, hF54, trivial⟩)
  ·
   intro H' σ' w R E hle hMR hE0 hE hp hf
   obtain rfl := hE0 rfl
   obtain ⟨_, hg⟩ := hp 6 (by decide) (by kernel_rfl)
   obtain ⟨A51, n51, c51, s51, e70, _, hF54, _⟩ := hg.get rfl
   have e71 : σ' 30 = .tuple #[.agg #[.int .i64 v49.1.Size, .slice A51 n51 c51], .int .i64 v49.2] := (List.cons.inj e70).1
   have e72 : σ' 24 = .tuple #[.agg #[.int .i64 v49.1.Size, .slice A51 n51 c51], .int .i64 v49.2] := (List.cons.inj (List.cons.inj e70).2).1
   obtain ⟨τ, rfl⟩ := sl_canon (σ := σ') (l := [(24, .tuple #[.agg #[.int .i64 v49.1.Size, .slice A51 n51 c51], .int .i64 v49.2])]) ⟨e72, trivial⟩
   have hM := Mem.subR (R := R) hMR
   exact RW.step (Ex.extract rfl rfl) rfl rfl rfl (RW.nil ⟨rfl, rfl, _, rfl, H', [], Hp.le.refl _, hMR, rfl, rfl, trivial⟩)
  ·
   intro H8 σ' w X miss hms hle8 hM hX hX0 hf
   simp [subs] at hms
   rcases hms with rfl | rfl
   ·
    obtain ⟨H73, hH8⟩ : ∃ x, x = H8 := ⟨_, rfl⟩
    subst hH8
    have hle74 := hle8
    obtain ⟨_, g0, y0⟩ := hX 0 (by decide) (by kernel_rfl)
    obtain ⟨_, rfl, _⟩ := g0.get rfl
    replace y0 : X 0 = [] := y0
    obtain ⟨_, g0, y1⟩ := hX 1 (by decide) (by kernel_rfl)
    obtain ⟨_, rfl, _⟩ := g0.get rfl
    replace y1 : X 1 = [] := y1
    obtain ⟨_, g0, y2⟩ := hX 2 (by decide) (by kernel_rfl)
    obtain ⟨_, rfl, _⟩ := g0.get rfl
    replace y2 : X 2 = [] := y2
    obtain ⟨_, g0, y3⟩ := hX 3 (by decide) (by kernel_rfl)
    obtain ⟨_, rfl, _⟩ := g0.get rfl
    replace y3 : X 3 = [] := y3
    obtain ⟨_, g0, y4⟩ := hX 4 (by decide) (by kernel_rfl)
    obtain ⟨_, rfl, _⟩ := g0.get rfl
    replace y4 : X 4 = [] := y4
    obtain ⟨_, g0, y5⟩ := hX 5 (by decide) (by kernel_rfl)
    obtain ⟨A51, n51, c51, s51, e75, rfl, hF54, _⟩ := g0.get rfl
    have e76 : σ' 30 = .tuple #[.agg #[.int .i64 v49.1.Size, .slice A51 n51 c51], .int .i64 v49.2] := (List.cons.inj e75).1
    replace y5 : X 5 = [] := y5
    obtain ⟨_, g0, y6⟩ := hX 6 (by decide) (by kernel_rfl)
    obtain ⟨A51q, n51q, c51q, s51q, e77, rfl, _, _⟩ := g0.get rfl
    have e78 : σ' 30 = .tuple #[.agg #[.int .i64 v49.1.Size, .slice A51q n51q c51q], .int .i64 v49.2] := (List.cons.inj e77).1
    have he_ := e76.symm.trans e78
    have ⟨e79, e80, e81⟩ : A51 = A51q ∧ n51 = n51q ∧ c51 = c51q := by simp at he_; simp [he_]
    subst e79
    subst e80
    subst e81
    have e82 : σ' 24 = .tuple #[.agg #[.int .i64 v49.1.Size, .slice A51 n51 c51], .int .i64 v49.2] := (List.cons.inj (List.cons.inj e77).2).1
    replace y6 : X 6 = [] := y6
    obtain ⟨_, g0, y7⟩ := hX 7 (by decide) (by kernel_rfl)
    obtain ⟨A51q, n51q, c51q, s51q, e83, rfl, _, _⟩ := g0.get rfl
    have e84 : σ' 24 = .tuple #[.agg #[.int .i64 v49.1.Size, .slice A51q n51q c51q], .int .i64 v49.2] := (List.cons.inj e83).1
    have he_ := e82.symm.trans e84
    have ⟨e85, e86, e87⟩ : A51 = A51q ∧ n51 = n51q ∧ c51 = c51q := by simp at he_; simp [he_]
    subst e85
    subst e86
    subst e87
    have e88 : σ' 31 = .agg #[.int .i64 v49.1.Size, .slice A51 n51 c51] := (List.cons.inj (List.cons.inj e83).2).1
    replace y7 : X 7 = [] := y7
    obtain ⟨_, g0, y8⟩ := hX 8 (by decide) (by kernel_rfl)
    obtain ⟨e89, rfl, _⟩ := g0.get rfl
    have e90 : σ' 32 = .int .i64 v49.2 := (List.cons.inj e89).1
    replace y8 : X 8 = [] := y8
    have hfl : flatX X 9 = [] := by
     show X 0 ++ (X 1 ++ (X 2 ++ (X 3 ++ (X 4 ++ (X 5 ++ (X 6 ++ (X 7 ++ (X 8 ++ [])))))))) = _
     rw [y0, y1, y2, y3, y4, y5, y6, y7, y8]; rfl
    rw [hfl] at hM
    obtain ⟨τ, rfl⟩ := sl_canon (σ := σ') (l := [(1, .slice A1 n1 c1), (4, .pointer (some ⟨b2, 0, none⟩)), (6, .pointer (some ⟨b9, 0, none⟩)), (7, .int .i64 v19), (8, .int .i64 v20), (31, .agg #[.int .i64 v49.1.Size, .slice A51 n51 c51]), (32, .int .i64 v49.2)]) ⟨(hf 1 (by kernel_rfl)).trans rfl, (hf 4 (by kernel_rfl)).trans rfl, (hf 6 (by kernel_rfl)).trans rfl, (hf 7 (by kernel_rfl)).trans rfl, (hf 8 (by kernel_rfl)).trans rfl, e88, e90, trivial⟩
    replace hM : Mem w0 H w H73 [.box b2 65 [.int .i64 0, .slice none 0 0], .box b9 65 [.int .i64 v12, .slice A14 n15 c16]] := hM
    change RA _ _ _ _ _ _ _ (sl [(1, .slice A1 n1 c1), (4, .pointer (some ⟨b2, 0, none⟩)), (6, .pointer (some ⟨b9, 0, none⟩)), (7, .int .i64 v19), (8, .int .i64 v20), (31, .agg #[.int .i64 v49.1.Size, .slice A51 n51 c51]), (32, .int .i64 v49.2)] τ) _ 11 _
    refine RA.step [9] (by kernel_rfl) rfl ⟨⟨_, rfl, ?_⟩, trivial⟩
    refine RW.store hM 1 (.agg #[.int .i64 v49.1.Size, .slice A51 n51 c51]) [.int .i64 v49.1.Size, .slice A51 n51 c51] [.int .i64 v49.1.Size, .slice A51 n51 c51] sz65 rfl rfl rfl (oneAll ⟨rfl, rfl, trivial⟩) rfl (Nat.le_of_ble_eq_true rfl) rfl [.box b2 65 [.int .i64 0, .slice none 0 0], .box b9 65 [.int .i64 v49.1.Size, .slice A51 n51 c51]] rfl rfl rfl ?_; intro w hM
    refine RW.nil ?_
    refine And.intro rfl ?_
    refine RA.step [10] (by kernel_rfl) rfl ⟨⟨_, rfl, ?_⟩, trivial⟩
    refine RW.st (Ex.assign (.int .i64 v49.2) rfl) rfl <| RW.nil ?_
    refine And.intro rfl ?_
    refine RA.done (by kernel_rfl) ?_
    refine CW.region <| RW.st (Ex.move (.int .i64 v20) rfl) rfl ?_
    obtain ⟨hg91, hm⟩ := hm
    refine RW.st (Ex.add rfl rfl hg91.1 hg91.2) rfl <| RW.st (Ex.assign (.int .i64 (v20 + 1)) rfl) rfl <| RW.nil ?_
    exact And.intro rfl ⟨k24, ⟨v49.1.Size, v49.1.Words, A51, n51, c51, s51, v49.2, v20 + 1, H73, hle11.trans hle74, sl_canon ⟨rfl, rfl, rfl, rfl, rfl, trivial⟩, hM, hF54, (by rw [hrec25]; exact hm)⟩, Nat.lt_succ_self _⟩
   ·
    obtain ⟨H73, hH8⟩ : ∃ x, x = H8 := ⟨_, rfl⟩
    subst hH8
    have hle74 := hle8
    obtain ⟨_, g0, y0⟩ := hX 0 (by decide) (by kernel_rfl)
    obtain ⟨_, rfl, _⟩ := g0.get rfl
    replace y0 : X 0 = [] := y0
    obtain ⟨_, g0, y1⟩ := hX 1 (by decide) (by kernel_rfl)
    obtain ⟨_, rfl, _⟩ := g0.get rfl
    replace y1 : X 1 = [] := y1
    obtain ⟨_, g0, y2⟩ := hX 2 (by decide) (by kernel_rfl)
    obtain ⟨_, rfl, _⟩ := g0.get rfl
    replace y2 : X 2 = [] := y2
    obtain ⟨_, g0, y3⟩ := hX 3 (by decide) (by kernel_rfl)
    obtain ⟨_, rfl, _⟩ := g0.get rfl
    replace y3 : X 3 = [] := y3
    obtain ⟨_, g0, y4⟩ := hX 4 (by decide) (by kernel_rfl)
    obtain ⟨_, rfl, _⟩ := g0.get rfl
    replace y4 : X 4 = [] := y4
    obtain ⟨_, g0, y5⟩ := hX 5 (by decide) (by kernel_rfl)
    obtain ⟨A51, n51, c51, s51, e75, rfl, hF54, _⟩ := g0.get rfl
    have e76 : σ' 30 = .tuple #[.agg #[.int .i64 v49.1.Size, .slice A51 n51 c51], .int .i64 v49.2] := (List.cons.inj e75).1
    replace y5 : X 5 = [] := y5
    obtain ⟨_, g0, y6⟩ := hX 6 (by decide) (by kernel_rfl)
    obtain ⟨A51q, n51q, c51q, s51q, e77, rfl, _, _⟩ := g0.get rfl
    have e78 : σ' 30 = .tuple #[.agg #[.int .i64 v49.1.Size, .slice A51q n51q c51q], .int .i64 v49.2] := (List.cons.inj e77).1
    have he_ := e76.symm.trans e78
    have ⟨e79, e80, e81⟩ : A51 = A51q ∧ n51 = n51q ∧ c51 = c51q := by simp at he_; simp [he_]
    subst e79
    subst e80
    subst e81
    have e82 : σ' 24 = .tuple #[.agg #[.int .i64 v49.1.Size, .slice A51 n51 c51], .int .i64 v49.2] := (List.cons.inj (List.cons.inj e77).2).1
    replace y6 : X 6 = [] := y6
    obtain ⟨_, g0, y7⟩ := hX 7 (by decide) (by kernel_rfl)
    obtain ⟨A51q, n51q, c51q, s51q, e83, rfl, _, _⟩ := g0.get rfl
    have e84 : σ' 24 = .tuple #[.agg #[.int .i64 v49.1.Size, .slice A51q n51q c51q], .int .i64 v49.2] := (List.cons.inj e83).1
    have he_ := e82.symm.trans e84
    have ⟨e85, e86, e87⟩ : A51 = A51q ∧ n51 = n51q ∧ c51 = c51q := by simp at he_; simp [he_]
    subst e85
    subst e86
    subst e87
    have e88 : σ' 31 = .agg #[.int .i64 v49.1.Size, .slice A51 n51 c51] := (List.cons.inj (List.cons.inj e83).2).1
    replace y7 : X 7 = [] := y7
    have y8 : X 8 = [] := hX0 8 (by decide) (by kernel_rfl)
    have hfl : flatX X 9 = [] := by
     show X 0 ++ (X 1 ++ (X 2 ++ (X 3 ++ (X 4 ++ (X 5 ++ (X 6 ++ (X 7 ++ (X 8 ++ [])))))))) = _
     rw [y0, y1, y2, y3, y4, y5, y6, y7, y8]; rfl
    rw [hfl] at hM
    obtain ⟨τ, rfl⟩ := sl_canon (σ := σ') (l := [(1, .slice A1 n1 c1), (4, .pointer (some ⟨b2, 0, none⟩)), (6, .pointer (some ⟨b9, 0, none⟩)), (7, .int .i64 v19), (8, .int .i64 v20), (24, .tuple #[.agg #[.int .i64 v49.1.Size, .slice A51 n51 c51], .int .i64 v49.2]), (31, .agg #[.int .i64 v49.1.Size, .slice A51 n51 c51])]) ⟨(hf 1 (by kernel_rfl)).trans rfl, (hf 4 (by kernel_rfl)).trans rfl, (hf 6 (by kernel_rfl)).trans rfl, (hf 7 (by kernel_rfl)).trans rfl, (hf 8 (by kernel_rfl)).trans rfl, e82, e88, trivial⟩
    replace hM : Mem w0 H w H73 [.box b2 65 [.int .i64 0, .slice none 0 0], .box b9 65 [.int .i64 v12, .slice A14 n15 c16]] := hM
    change RA _ _ _ _ _ _ _ (sl [(1, .slice A1 n1 c1), (4, .pointer (some ⟨b2, 0, none⟩)), (6, .pointer (some ⟨b9, 0, none⟩)), (7, .int .i64 v19), (8, .int .i64 v20), (24, .tuple #[.agg #[.int .i64 v49.1.Size, .slice A51 n51 c51], .int .i64 v49.2]), (31, .agg #[.int .i64 v49.1.Size, .slice A51 n51 c51])] τ) _ 11 _
    refine RA.step [8, 9] (by kernel_rfl) rfl ⟨⟨_, rfl, ?_⟩, ⟨_, rfl, ?_⟩, trivial⟩
    ·
     refine RW.st (Ex.extract rfl rfl) rfl <| RW.nil ?_
     refine And.intro rfl ?_
     refine RA.step [9] (by kernel_rfl) rfl ⟨⟨_, rfl, ?_⟩, trivial⟩
     refine RW.store hM 1 (.agg #[.int .i64 v49.1.Size, .slice A51 n51 c51]) [.int .i64 v49.1.Size, .slice A51 n51 c51] [.int .i64 v49.1.Size, .slice A51 n51 c51] sz65 rfl rfl rfl (oneAll ⟨rfl, rfl, trivial⟩) rfl (Nat.le_of_ble_eq_true rfl) rfl [.box b2 65 [.int .i64 0, .slice none 0 0], .box b9 65 [.int .i64 v49.1.Size, .slice A51 n51 c51]] rfl rfl rfl ?_; intro w hM
     refine RW.nil ?_
     refine And.intro rfl ?_
     refine RA.step [10] (by kernel_rfl) rfl ⟨⟨_, rfl, ?_⟩, trivial⟩
     refine RW.st (Ex.assign (.int .i64 v49.2) rfl) rfl <| RW.nil ?_
     refine And.intro rfl ?_
     refine RA.done (by kernel_rfl) ?_
     refine CW.region <| RW.st (Ex.move (.int .i64 v20) rfl) rfl ?_
     obtain ⟨hg89, hm⟩ := hm
     refine RW.st (Ex.add rfl rfl hg89.1 hg89.2) rfl <| RW.st (Ex.assign (.int .i64 (v20 + 1)) rfl) rfl <| RW.nil ?_
     exact And.intro rfl ⟨k24, ⟨v49.1.Size, v49.1.Words, A51, n51, c51, s51, v49.2, v20 + 1, H73, hle11.trans hle74, sl_canon ⟨rfl, rfl, rfl, rfl, rfl, trivial⟩, hM, hF54, (by rw [hrec25]; exact hm)⟩, Nat.lt_succ_self _⟩
    ·
     refine RW.store hM 1 (.agg #[.int .i64 v49.1.Size, .slice A51 n51 c51]) [.int .i64 v49.1.Size, .slice A51 n51 c51] [.int .i64 v49.1.Size, .slice A51 n51 c51] sz65 rfl rfl rfl (oneAll ⟨rfl, rfl, trivial⟩) rfl (Nat.le_of_ble_eq_true rfl) rfl [.box b2 65 [.int .i64 0, .slice none 0 0], .box b9 65 [.int .i64 v49.1.Size, .slice A51 n51 c51]] rfl rfl rfl ?_; intro w hM
     refine RW.nil ?_
     refine And.intro rfl ?_
     refine RA.step [8] (by kernel_rfl) rfl ⟨⟨_, rfl, ?_⟩, trivial⟩
     refine RW.st (Ex.extract rfl rfl) rfl <| RW.nil ?_
     refine And.intro rfl ?_
     refine RA.step [10] (by kernel_rfl) rfl ⟨⟨_, rfl, ?_⟩, trivial⟩
     refine RW.st (Ex.assign (.int .i64 v49.2) rfl) rfl <| RW.nil ?_
     refine And.intro rfl ?_
     refine RA.done (by kernel_rfl) ?_
     refine CW.region <| RW.st (Ex.move (.int .i64 v20) rfl) rfl ?_
     obtain ⟨hg89, hm⟩ := hm
     refine RW.st (Ex.add rfl rfl hg89.1 hg89.2) rfl <| RW.st (Ex.assign (.int .i64 (v20 + 1)) rfl) rfl <| RW.nil ?_
     exact And.intro rfl ⟨k24, ⟨v49.1.Size, v49.1.Words, A51, n51, c51, s51, v49.2, v20 + 1, H73, hle11.trans hle74, sl_canon ⟨rfl, rfl, rfl, rfl, rfl, trivial⟩, hM, hF54, (by rw [hrec25]; exact hm)⟩, Nat.lt_succ_self _⟩
 ·
  replace hm := And.right hm hc27
  refine CW.exit ?_
  refine CW.seq <| CW.region <| RW.st (Ex.loadA hM 1 [.int .i64 v12, .slice A14 n15 c16] ta65 rfl rfl rfl rfl) rfl <| RW.st (Ex.move (.int .i64 v19) rfl) rfl ?_
  refine RW.store hM 0 (.agg #[.int .i64 v12, .slice A14 n15 c16]) [.int .i64 v12, .slice A14 n15 c16] [.int .i64 v12, .slice A14 n15 c16] sz65 rfl rfl rfl (oneAll ⟨rfl, rfl, trivial⟩) rfl (Nat.le_of_ble_eq_true rfl) rfl [.box b2 65 [.int .i64 v12, .slice A14 n15 c16], .box b9 65 [.int .i64 v12, .slice A14 n15 c16]] rfl rfl rfl ?_; intro w hM
  refine RW.st (Ex.assign (.int .i64 v19) rfl) rfl <| RW.nil <| CW.ret ?_
  refine end_cell_tmp (k := 0) (.inl rfl) rfl hM rfl (.int .i64 v19) rfl ta65 [.int .i64 v12, .slice A14 n15 c16] rfl rfl ?_
  exact ⟨_, _, (hM.pick [] rfl rfl), ((api_Bitmap.mk v12 v13), v19), hm, A14, n15, c16, s17, rfl, hF18, rfl⟩
end Go.Proofs.YtahlanamngfkcaaDoor

namespace Go.Proofs.YtahlanamngfkcaaDoor
open Go.RowKit
theorem ref43_Mark_lift {H : Hp} (x0 : List api_Bitmap) (x1 : List api_Write) {A1 : Option Addr} {n1 c1 : Nat} {s1 : List Value} (hF1 : Fz (α := api_Bitmap) H A1 n1 c1 x0 s1) {A2 : Option Addr} {n2 c2 : Nat} {s2 : List Value} (hF2 : Fz (α := api_Write) H A2 n2 c2 x1 s2) {Φ : List api_Bitmap → Prop} (hm : ref43_Mark_W x0 x1 Φ) : RetP Tryd.prog 90 #[.slice A1 n1 c1, .slice A2 n2 c2] H (fun H' v L => ∃ y, Φ y ∧ ∃ A143, ∃ n143, ∃ c143, ∃ s143, v = .slice A143 n143 c143 ∧ DtL (α := api_Bitmap) H' s143 y ∧ n143 = y.length ∧ L = [.row (.slice A143 n143 c143) 65 2 n143 s143]) := by
 refine RetP.of_code Tryd.func90 rfl (Nat.le_of_ble_eq_true rfl) fun w0 hM => ?_
 refine CW.seq <| CW.region <| RW.st (Ex.assign (.slice none 0 0) rfl) rfl <| RW.nil <| CW.seq <| CW.region <| RW.st (Ex.assign (.slice none 0 0) rfl) rfl <| RW.nil <| CW.seq <| CW.seq <| CW.region <| RW.st (Ex.assign (.int .i64 0) rfl) rfl <| RW.nil <| CW.block ?_
 obtain ⟨m142, hm⟩ := hm
 skip
 replace hM := hM.nilRow 65 2
 refine CW.loop (β := Nat) (fun n σ w => ∃ (v5 : List api_Bitmap), ∃ (A6 : Option Addr), ∃ (n7 : Nat), ∃ (c8 : Nat), ∃ (s9 : List Value), ∃ (v12 : Int), ∃ Hk3, H.le Hk3 ∧ (∃ τ, σ = sl [(0, .slice A1 n1 c1), (1, .slice A2 n2 c2), (5, .slice A6 n7 c8), (6, .int .i64 v12)] τ) ∧ Mem w0 H w Hk3 [.row (.slice A6 n7 c8) 65 2 n7 s9] ∧ (DtL (α := api_Bitmap) Hk3 s9 v5) ∧ (n7 = v5.length) ∧ LoopN (ref43_Mark_L1 x0 x1 Φ) n (v5, v12)) (fun n => n) m142 ⟨([] : List api_Bitmap), none, 0, 0, [], 0, H, (Hp.le.refl _), sl_canon ⟨rfl, rfl, rfl, rfl, trivial⟩, hM, (DtL.nil : DtL _ [] ([] : List api_Bitmap)), rfl, hm⟩ ?_
 rintro k13 _ w ⟨v5, A6, n7, c8, s9, v12, Hk3, hle4, ⟨τ, rfl⟩, hM, hd10, hn11, hm⟩
 obtain _ | k13 := k13
 · exact hm.elim
 replace hm : (ref43_Mark_L1 x0 x1 Φ) (v5, v12) (LoopN (ref43_Mark_L1 x0 x1 Φ) k13) := hm
 generalize hrec14 : LoopN (ref43_Mark_L1 x0 x1 Φ) k13 = rec1 at hm
 refine CW.seq <| CW.seq <| CW.region <| RW.st (Ex.move (.int .i64 v12) rfl) rfl <| RW.st (Ex.move (.slice A1 n1 c1) rfl) rfl <| RW.st (Ex.lenN st23.1 rfl hF1.hn) rfl <| RW.st (Ex.lss rfl rfl) rfl <| RW.nil ?_
 refine CW.cond_dec (p := v12 < (x0.length : Int)) rfl (fun hc15 => ?_) (fun hc15 => ?_)
 ·
  replace hm := And.left hm hc15
  refine CW.skip <| CW.seq <| CW.block <| CW.region <| RW.st (Ex.move (.slice A6 n7 c8) rfl) rfl <| RW.st (Ex.move (.slice A1 n1 c1) rfl) rfl <| RW.st (Ex.move (.int .i64 v12) rfl) rfl ?_
  obtain ⟨hg16, hm⟩ := hm
  refine RW.st (Ex.index st23 rfl rfl v12.toNat (hF1.ne hg16) hg16.nat (hF1.lt hg16)) rfl ?_
  obtain ⟨_, ⟨A17, n17, c17, s17, rfl, hF17⟩, hx18⟩ := DtL.getI (α := api_Bitmap) (hF1.mono hle4).dat hg16
  refine RW.st (Ex.loadEA hM hle4 hF1.rdc [.int .i64 ((ix x0 v12).Size), .slice A17 n17 c17] ta65 rfl (hF1.ne hg16) rfl (chunk_sub (off := 0) (n := 2) hx18 rfl)) rfl ?_
  refine RW.callP hM (ref02_Copy_lift (ix x0 v12) hF17 hm) en129 rfl rfl rfl rfl ?_; rintro _ w H20 _ hle21 ⟨v19, hm, A22, n22, c22, s22, rfl, hd23, hn24, rfl⟩ hM
  replace hM : Mem w0 H w H20 [.row (.slice A22 n22 c22) 151 1 n22 s22, .row (.slice A6 n7 c8) 65 2 n7 s9] := hM
  obtain ⟨H25, hM, hle26, hF27⟩ := hM.giveF (α := BitVec 64) 0 rfl hd23 hn24
  replace hM : Mem w0 H w H25 [.row (.slice A6 n7 c8) 65 2 n7 s9] := hM
  refine RW.buildSlice hM st23 tz65 [(0, .agg #[.int .i64 v19.Size, .slice A22 n22 c22])] [.int .i64 v19.Size, .slice A22 n22 c22] (by decide) rfl rfl rfl (by decide) rfl rfl ?_; intro b28 w hM
  have hd29 : DtL H25 [.int .i64 v19.Size, .slice A22 n22 c22] ([v19] : List api_Bitmap) := (DtL.cons (c1 := [.int .i64 v19.Size, .slice A22 n22 c22]) ⟨_, _, _, _, rfl, hF27⟩ DtL.nil)
  replace hM : Mem w0 H w H25 [.row (.slice (some ⟨b28, 0, none⟩) 1 1) 65 2 1 [.int .i64 v19.Size, .slice A22 n22 c22], .row (.slice A6 n7 c8) 65 2 n7 s9] := hM
  obtain ⟨hg36, hm⟩ := hm
  refine RW.appendD (α := api_Bitmap) (xs := v5) (ys := ([v19] : List api_Bitmap)) hM 1 st23 rfl rfl (hd10.mono (hle21.trans hle26)) hn11 rfl (fun j u hj => hM.rowCell (k := 0) rfl rfl hj) hd29 rfl hg36 rfl rfl ?_; intro A30 n31 c32 s33 w hd34 hn35 hM
  replace hM : Mem w0 H w H25 [.row (.slice (some ⟨b28, 0, none⟩) 1 1) 65 2 1 [.int .i64 v19.Size, .slice A22 n22 c22], .row (.slice A30 n31 c32) 65 2 n31 s33] := hM
  refine RW.st (Ex.assign (.slice A30 n31 c32) rfl) rfl <| RW.nil <| CW.region <| RW.st (Ex.move (.int .i64 v12) rfl) rfl ?_
  obtain ⟨hg37, hm⟩ := hm
  refine RW.st (Ex.add rfl rfl hg37.1 hg37.2) rfl <| RW.st (Ex.assign (.int .i64 (v12 + 1)) rfl) rfl <| RW.nil ?_
  exact And.intro rfl ⟨k13, ⟨(v5 ++ ([v19] : List api_Bitmap)), A30, n31, c32, s33, v12 + 1, H25, hle4.trans (hle21.trans hle26), sl_canon ⟨rfl, rfl, rfl, rfl, trivial⟩, (hM.pick [1] rfl rfl), hd34, hn35, (by rw [hrec14]; exact hm)⟩, Nat.lt_succ_self _⟩
 ·
  replace hm := And.right hm hc15
  refine CW.exit ?_
  refine CW.seq <| CW.seq <| CW.region <| RW.st (Ex.assign (.int .i64 0) rfl) rfl <| RW.nil <| CW.block ?_
  obtain ⟨m141, hm⟩ := hm
  skip
  refine CW.loop (β := Nat) (fun n σ w => ∃ (v40 : List api_Bitmap), ∃ (A41 : Option Addr), ∃ (n42 : Nat), ∃ (c43 : Nat), ∃ (s44 : List Value), ∃ (v47 : Int), ∃ Hk38, Hk3.le Hk38 ∧ (∃ τ, σ = sl [(1, .slice A2 n2 c2), (5, .slice A41 n42 c43), (7, .int .i64 v47)] τ) ∧ Mem w0 H w Hk38 [.row (.slice A41 n42 c43) 65 2 n42 s44] ∧ (DtL (α := api_Bitmap) Hk38 s44 v40) ∧ (n42 = v40.length) ∧ LoopN (ref43_Mark_L2 x1 Φ) n (v40, v47)) (fun n => n) m141 ⟨v5, A6, n7, c8, s9, 0, Hk3, (Hp.le.refl _), sl_canon ⟨rfl, rfl, rfl, trivial⟩, hM, hd10, hn11, hm⟩ ?_
  rintro k48 _ w ⟨v40, A41, n42, c43, s44, v47, Hk38, hle39, ⟨τ, rfl⟩, hM, hd45, hn46, hm⟩
  obtain _ | k48 := k48
  · exact hm.elim
  replace hm : (ref43_Mark_L2 x1 Φ) (v40, v47) (LoopN (ref43_Mark_L2 x1 Φ) k48) := hm
  generalize hrec49 : LoopN (ref43_Mark_L2 x1 Φ) k48 = rec2 at hm
  refine CW.seq <| CW.seq <| CW.region <| RW.st (Ex.move (.int .i64 v47) rfl) rfl <| RW.st (Ex.move (.slice A2 n2 c2) rfl) rfl <| RW.st (Ex.lenN st43.1 rfl hF2.hn) rfl <| RW.st (Ex.lss rfl rfl) rfl <| RW.nil ?_
  refine CW.cond_dec (p := v47 < (x1.length : Int)) rfl (fun hc50 => ?_) (fun hc50 => ?_)
  ·
   replace hm := And.left hm hc50
   refine CW.skip <| CW.seq <| CW.block <| CW.seq <| CW.region <| RW.st (Ex.move (.slice A2 n2 c2) rfl) rfl <| RW.st (Ex.move (.int .i64 v47) rfl) rfl ?_
   obtain ⟨hg61, hm⟩ := hm
   refine RW.st (Ex.index st43 rfl rfl v47.toNat (hF2.ne hg61) hg61.nat (hF2.lt hg61)) rfl ?_
   obtain ⟨_, ⟨A62, n62, c62, s62, rfl, hF62⟩, hx63⟩ := DtL.getI (α := api_Write) (hF2.mono (hle4.trans hle39)).dat hg61
   refine RW.st (Ex.loadEA hM (hle4.trans hle39) hF2.rdc [.int .i64 ((ix x1 v47).Volume), .int .i64 ((ix x1 v47).Start), .slice A62 n62 c62] ta100 rfl (hF2.ne hg61) rfl (chunk_sub (off := 0) (n := 3) hx63 rfl)) rfl ?_
   refine RW.alloc hM tz100 [.int .i64 0, .int .i64 0, .slice none 0 0] rfl rfl rfl ?_; intro b64 w hM
   replace hM : Mem w0 H w Hk38 [.box b64 100 [.int .i64 0, .int .i64 0, .slice none 0 0], .row (.slice A41 n42 c43) 65 2 n42 s44] := hM
   refine RW.store hM 0 (.agg #[.int .i64 ((ix x1 v47).Volume), .int .i64 ((ix x1 v47).Start), .slice A62 n62 c62]) [.int .i64 ((ix x1 v47).Volume), .int .i64 ((ix x1 v47).Start), .slice A62 n62 c62] [.int .i64 ((ix x1 v47).Volume), .int .i64 ((ix x1 v47).Start), .slice A62 n62 c62] sz100 rfl rfl rfl (oneAll ⟨rfl, rfl, rfl, trivial⟩) rfl (Nat.le_of_ble_eq_true rfl) rfl [.box b64 100 [.int .i64 ((ix x1 v47).Volume), .int .i64 ((ix x1 v47).Start), .slice A62 n62 c62], .row (.slice A41 n42 c43) 65 2 n42 s44] rfl rfl rfl ?_; intro w hM
   refine RW.nil ?_
   obtain ⟨hg74, hm⟩ := hm
   obtain ⟨_, ⟨A75, n75, c75, s75, rfl, hF75⟩, hx76⟩ := DtL.getI (α := api_Bitmap) hd45 hg74
   obtain ⟨v77, hW78, hm⟩ := hm
   refine CW.drawL 19 [17] [(fun Hq us E => us = [.slice A41 n42 c43] ∧ E = [] ∧ True), (fun Hq us E => us = [.pointer (some ⟨b64, 0, none⟩)] ∧ E = [] ∧ True), (fun Hq us E => us = [.int .i64 ((ix x1 v47).Volume)] ∧ E = [] ∧ True), (fun Hq us E => us = [.slice A41 n42 c43] ∧ E = [] ∧ True), (fun Hq us E => us = [.pointer (some ⟨b64, 0, none⟩)] ∧ E = [] ∧ True), (fun Hq us E => us = [.int .i64 ((ix x1 v47).Volume)] ∧ E = [] ∧ True), (fun Hq us E => us = [elp A41 ((((ix x1 v47).Volume).toNat) * 2 + 0)] ∧ E = [] ∧ True), (fun Hq us E => us = [.agg #[.int .i64 ((ix v40 ((ix x1 v47).Volume)).Size), .slice A75 n75 c75]] ∧ E = [] ∧ True), (fun Hq us E => us = [.pointer (some ⟨b64, 1, none⟩)] ∧ E = [] ∧ True), (fun Hq us E => us = [.int .i64 ((ix x1 v47).Start)] ∧ E = [] ∧ True), (fun Hq us E => us = [.pointer (some ⟨b64, 2, none⟩)] ∧ E = [] ∧ True), (fun Hq us E => us = [.slice A62 n62 c62] ∧ E = [] ∧ True), (fun Hq us E => us = [.int .i64 ((((ix x1 v47).Data).length : Int))] ∧ E = [] ∧ True), (fun Hq us E => us = [.agg #[.int .i64 ((ix x1 v47).Start), .int .i64 ((((ix x1 v47).Data).length : Int))]] ∧ E = [] ∧ True), (fun Hq us E => ∃ (A79 : Option Addr), ∃ (n79 : Nat), ∃ (c79 : Nat), ∃ (s79 : List Value), us = [.tuple #[.agg #[.int .i64 v77.1.Size, .slice A79 n79 c79], .int .i64 v77.2]] ∧ E = [] ∧ Fz (α := BitVec 64) Hq A79 n79 c79 v77.1.Words s79 ∧ True), (fun Hq us E => ∃ (A79 : Option Addr), ∃ (n79 : Nat), ∃ (c79 : Nat), ∃ (s79 : List Value), us = [.tuple #[.agg #[.int .i64 v77.1.Size, .slice A79 n79 c79], .int .i64 v77.2], .tuple #[.agg #[.int .i64 v77.1.Size, .slice A79 n79 c79], .int .i64 v77.2]] ∧ E = [] ∧ Fz (α := BitVec 64) Hq A79 n79 c79 v77.1.Words s79 ∧ True), (fun Hq us E => ∃ (A79 : Option Addr), ∃ (n79 : Nat), ∃ (c79 : Nat), ∃ (s79 : List Value), us = [.tuple #[.agg #[.int .i64 v77.1.Size, .slice A79 n79 c79], .int .i64 v77.2], .agg #[.int .i64 v77.1.Size, .slice A79 n79 c79]] ∧ E = [] ∧ Fz (α := BitVec 64) Hq A79 n79 c79 v77.1.Words s79 ∧ True), (fun Hq us E => us = [.int .i64 v77.2] ∧ E = [] ∧ True), (fun Hq us E => us = [elp A41 ((((ix x1 v47).Volume).toNat) * 2 + 0)] ∧ E = [] ∧ True)]
    (fun k => [[0], [1], [2], [3], [4], [5], [6], [7], [8], [9], [10], [11], [12], [13], [14], [14, 15], [15, 16], [17], [18]].getD k []) (fun _ => none) (by kernel_rfl) hM (by kernel_rfl) (by kernel_rfl) (by kernel_rfl) rfl (by simp only [List.forall_mem_cons]; exact ⟨fun _ _ _ _ hle ⟨e1, e2, _⟩ => ⟨e1, e2, trivial⟩, fun _ _ _ _ hle ⟨e1, e2, _⟩ => ⟨e1, e2, trivial⟩, fun _ _ _ _ hle ⟨e1, e2, _⟩ => ⟨e1, e2, trivial⟩, fun _ _ _ _ hle ⟨e1, e2, _⟩ => ⟨e1, e2, trivial⟩, fun _ _ _ _ hle ⟨e1, e2, _⟩ => ⟨e1, e2, trivial⟩, fun _ _ _ _ hle ⟨e1, e2, _⟩ => ⟨e1, e2, trivial⟩, fun _ _ _ _ hle ⟨e1, e2, _⟩ => ⟨e1, e2, trivial⟩, fun _ _ _ _ hle ⟨e1, e2, _⟩ => ⟨e1, e2, trivial⟩, fun _ _ _ _ hle ⟨e1, e2, _⟩ => ⟨e1, e2, trivial⟩, fun _ _ _ _ hle ⟨e1, e2, _⟩ => ⟨e1, e2, trivial⟩, fun _ _ _ _ hle ⟨e1, e2, _⟩ => ⟨e1, e2, trivial⟩, fun _ _ _ _ hle ⟨e1, e2, _⟩ => ⟨e1, e2, trivial⟩, fun _ _ _ _ hle ⟨e1, e2, _⟩ => ⟨e1, e2, trivial⟩, fun _ _ _ _ hle ⟨e1, e2, _⟩ => ⟨e1, e2, trivial⟩, fun _ _ _ _ hle ⟨A79, n79, c79, s79, e1, e2, hF82, _⟩ => ⟨A79, n79, c79, s79, e1, e2, hF82.mono hle, trivial⟩, fun _ _ _ _ hle ⟨A79, n79, c79, s79, e1, e2, hF82, _⟩ => ⟨A79, n79, c79, s79, e1, e2, hF82.mono hle, trivial⟩, fun _ _ _ _ hle ⟨A79, n79, c79, s79, e1, e2, hF82, _⟩ => ⟨A79, n79, c79, s79, e1, e2, hF82.mono hle, trivial⟩, fun _ _ _ _ hle ⟨e1, e2, _⟩ => ⟨e1, e2, trivial⟩, fun _ _ _ _ hle ⟨e1, e2, _⟩ => ⟨e1, e2, trivial⟩, by simp⟩) ⟨?_, ?_, ?_, ?_, ?_, ?_, ?_, ?_, ?_, ?_, ?_, ?_, ?_, ?_, ?_, ?_, ?_, ?_, ?_, trivial⟩ ?_
   ·
    intro H' σ' w R E hle hMR hE0 hE hp hf
    obtain rfl := hE0 rfl
    obtain ⟨τ, rfl⟩ := sl_canon (σ := σ') (l := [(5, .slice A41 n42 c43)]) ⟨(hf 5 (by kernel_rfl)).trans rfl, trivial⟩
    have hM := Mem.subR (R := R) hMR
    exact RW.step (Ex.move (.slice A41 n42 c43) rfl) rfl rfl rfl (RW.nil ⟨rfl, rfl, _, rfl, H', [], Hp.le.refl _, hMR, rfl, rfl, trivial⟩)
   ·
    intro H' σ' w R E hle hMR hE0 hE hp hf
    obtain rfl := hE0 rfl
    obtain ⟨τ, rfl⟩ := sl_canon (σ := σ') (l := [(8, .pointer (some ⟨b64, 0, none⟩))]) ⟨(hf 8 (by kernel_rfl)).trans rfl, trivial⟩
    have hM := Mem.subR (R := R) hMR
    exact RW.step (Ex.fieldAddr fa100_0 rfl) rfl rfl rfl (RW.nil ⟨rfl, rfl, _, rfl, H', [], Hp.le.refl _, hMR, rfl, rfl, trivial⟩)
   ·
    intro H' σ' w R E hle hMR hE0 hE hp hf
    obtain rfl := hE0 rfl
    obtain ⟨_, hg⟩ := hp 1 (by decide) (by kernel_rfl)
    obtain ⟨e83, _, _⟩ := hg.get rfl
    have e84 : σ' 35 = .pointer (some ⟨b64, 0, none⟩) := (List.cons.inj e83).1
    obtain ⟨τ, rfl⟩ := sl_canon (σ := σ') (l := [(35, .pointer (some ⟨b64, 0, none⟩))]) ⟨e84, trivial⟩
    have hM := Mem.subR (R := R) hMR
    exact RW.step (Ex.load1 hM 0 to3 rfl rfl rfl) rfl rfl rfl (RW.nil ⟨rfl, rfl, _, rfl, H', [], Hp.le.refl _, hMR, rfl, rfl, trivial⟩)
   ·
    intro H' σ' w R E hle hMR hE0 hE hp hf
    obtain rfl := hE0 rfl
    obtain ⟨τ, rfl⟩ := sl_canon (σ := σ') (l := [(5, .slice A41 n42 c43)]) ⟨(hf 5 (by kernel_rfl)).trans rfl, trivial⟩
    have hM := Mem.subR (R := R) hMR
    exact RW.step (Ex.move (.slice A41 n42 c43) rfl) rfl rfl rfl (RW.nil ⟨rfl, rfl, _, rfl, H', [], Hp.le.refl _, hMR, rfl, rfl, trivial⟩)
   ·
    intro H' σ' w R E hle hMR hE0 hE hp hf
    obtain rfl := hE0 rfl
    obtain ⟨τ, rfl⟩ := sl_canon (σ := σ') (l := [(8, .pointer (some ⟨b64, 0, none⟩))]) ⟨(hf 8 (by kernel_rfl)).trans rfl, trivial⟩
    have hM := Mem.subR (R := R) hMR
    exact RW.step (Ex.fieldAddr fa100_0 rfl) rfl rfl rfl (RW.nil ⟨rfl, rfl, _, rfl, H', [], Hp.le.refl _, hMR, rfl, rfl, trivial⟩)
   ·
    intro H' σ' w R E hle hMR hE0 hE hp hf
    obtain rfl := hE0 rfl
    obtain ⟨_, hg⟩ := hp 4 (by decide) (by kernel_rfl)
    obtain ⟨e85, _, _⟩ := hg.get rfl
    have e86 : σ' 38 = .pointer (some ⟨b64, 0, none⟩) := (List.cons.inj e85).1
    obtain ⟨τ, rfl⟩ := sl_canon (σ := σ') (l := [(38, .pointer (some ⟨b64, 0, none⟩))]) ⟨e86, trivial⟩
    have hM := Mem.subR (R := R) hMR
    exact RW.step (Ex.load1 hM 0 to3 rfl rfl rfl) rfl rfl rfl (RW.nil ⟨rfl, rfl, _, rfl, H', [], Hp.le.refl _, hMR, rfl, rfl, trivial⟩)
   ·
    intro H' σ' w R E hle hMR hE0 hE hp hf
    obtain rfl := hE0 rfl
    obtain ⟨_, hg⟩ := hp 3 (by decide) (by kernel_rfl)
    obtain ⟨e87, _, _⟩ := hg.get rfl
    have e88 : σ' 37 = .slice A41 n42 c43 := (List.cons.inj e87).1
    obtain ⟨_, hg⟩ := hp 5 (by decide) (by kernel_rfl)
    obtain ⟨e89, _, _⟩ := hg.get rfl
    have e90 : σ' 39 = .int .i64 ((ix x1 v47).Volume) := (List.cons.inj e89).1
    obtain ⟨τ, rfl⟩ := sl_canon (σ := σ') (l := [(37, .slice A41 n42 c43), (39, .int .i64 ((ix x1 v47).Volume))]) ⟨e88, e90, trivial⟩
    have hM := Mem.subR (R := R) hMR
    exact RW.step (Ex.index st23 rfl rfl (((ix x1 v47).Volume).toNat) (hM.rowNeD (α := api_Bitmap) (p := 1) rfl hn46 hg74) hg74.nat (Nat.lt_of_lt_of_eq hg74.lt (hn46).symm)) rfl rfl rfl (RW.nil ⟨rfl, rfl, _, rfl, H', [], Hp.le.refl _, hMR, rfl, rfl, trivial⟩)
   ·
    intro H' σ' w R E hle hMR hE0 hE hp hf
    obtain rfl := hE0 rfl
    obtain ⟨_, hg⟩ := hp 6 (by decide) (by kernel_rfl)
    obtain ⟨e91, _, _⟩ := hg.get rfl
    have e92 : σ' 40 = elp A41 ((((ix x1 v47).Volume).toNat) * 2 + 0) := (List.cons.inj e91).1
    obtain ⟨τ, rfl⟩ := sl_canon (σ := σ') (l := [(40, elp A41 ((((ix x1 v47).Volume).toNat) * 2 + 0))]) ⟨e92, trivial⟩
    have hM := Mem.subR (R := R) hMR
    exact RW.step (Ex.loadRA hM 1 rfl [.int .i64 ((ix v40 ((ix x1 v47).Volume)).Size), .slice A75 n75 c75] ta65 (hM.rowNeD (α := api_Bitmap) (p := 1) rfl hn46 hg74) rfl rfl (chunk_sub (off := 0) (n := 2) hx76 rfl)) rfl rfl rfl (RW.nil ⟨rfl, rfl, _, rfl, H', [], Hp.le.refl _, hMR, rfl, rfl, trivial⟩)
   ·
    intro H' σ' w R E hle hMR hE0 hE hp hf
    obtain rfl := hE0 rfl
    obtain ⟨τ, rfl⟩ := sl_canon (σ := σ') (l := [(8, .pointer (some ⟨b64, 0, none⟩))]) ⟨(hf 8 (by kernel_rfl)).trans rfl, trivial⟩
    have hM := Mem.subR (R := R) hMR
    exact RW.step (Ex.fieldAddr fa100_1 rfl) rfl rfl rfl (RW.nil ⟨rfl, rfl, _, rfl, H', [], Hp.le.refl _, hMR, rfl, rfl, trivial⟩)
   ·
    intro H' σ' w R E hle hMR hE0 hE hp hf
    obtain rfl := hE0 rfl
    obtain ⟨_, hg⟩ := hp 8 (by decide) (by kernel_rfl)
    obtain ⟨e93, _, _⟩ := hg.get rfl
    have e94 : σ' 42 = .pointer (some ⟨b64, 1, none⟩) := (List.cons.inj e93).1
    obtain ⟨τ, rfl⟩ := sl_canon (σ := σ') (l := [(42, .pointer (some ⟨b64, 1, none⟩))]) ⟨e94, trivial⟩
    have hM := Mem.subR (R := R) hMR
    exact RW.step (Ex.load1 hM 0 to3 rfl rfl rfl) rfl rfl rfl (RW.nil ⟨rfl, rfl, _, rfl, H', [], Hp.le.refl _, hMR, rfl, rfl, trivial⟩)
   ·
    intro H' σ' w R E hle hMR hE0 hE hp hf
    obtain rfl := hE0 rfl
    obtain ⟨τ, rfl⟩ := sl_canon (σ := σ') (l := [(8, .pointer (some ⟨b64, 0, none⟩))]) ⟨(hf 8 (by kernel_rfl)).trans rfl, trivial⟩
    have hM := Mem.subR (R := R) hMR
    exact RW.step (Ex.fieldAddr fa100_2 rfl) rfl rfl rfl (RW.nil ⟨rfl, rfl, _, rfl, H', [], Hp.le.refl _, hMR, rfl, rfl, trivial⟩)
   ·
    intro H' σ' w R E hle hMR hE0 hE hp hf
    obtain rfl := hE0 rfl
    obtain ⟨_, hg⟩ := hp 10 (by decide) (by kernel_rfl)
    obtain ⟨e95, _, _⟩ := hg.get rfl
    have e96 : σ' 44 = .pointer (some ⟨b64, 2, none⟩) := (List.cons.inj e95).1
    obtain ⟨τ, rfl⟩ := sl_canon (σ := σ') (l := [(44, .pointer (some ⟨b64, 2, none⟩))]) ⟨e96, trivial⟩
    have hM := Mem.subR (R := R) hMR
    exact RW.step (Ex.load1 hM 0 to61 rfl rfl rfl) rfl rfl rfl (RW.nil ⟨rfl, rfl, _, rfl, H', [], Hp.le.refl _, hMR, rfl, rfl, trivial⟩)
   ·
    intro H' σ' w R E hle hMR hE0 hE hp hf
    obtain rfl := hE0 rfl
    obtain ⟨_, hg⟩ := hp 11 (by decide) (by kernel_rfl)
    obtain ⟨e97, _, _⟩ := hg.get rfl
    have e98 : σ' 45 = .slice A62 n62 c62 := (List.cons.inj e97).1
    obtain ⟨τ, rfl⟩ := sl_canon (σ := σ') (l := [(45, .slice A62 n62 c62)]) ⟨e98, trivial⟩
    have hM := Mem.subR (R := R) hMR
    exact RW.step (Ex.lenN st61.1 rfl hF62.hn) rfl rfl rfl (RW.nil ⟨rfl, rfl, _, rfl, H', [], Hp.le.refl _, hMR, rfl, rfl, trivial⟩)
   ·
    intro H' σ' w R E hle hMR hE0 hE hp hf
    obtain rfl := hE0 rfl
    obtain ⟨_, hg⟩ := hp 9 (by decide) (by kernel_rfl)
    obtain ⟨e99, _, _⟩ := hg.get rfl
    have e100 : σ' 43 = .int .i64 ((ix x1 v47).Start) := (List.cons.inj e99).1
    obtain ⟨_, hg⟩ := hp 12 (by decide) (by kernel_rfl)
    obtain ⟨e101, _, _⟩ := hg.get rfl
    have e102 : σ' 46 = .int .i64 ((((ix x1 v47).Data).length : Int)) := (List.cons.inj e101).1
    obtain ⟨τ, rfl⟩ := sl_canon (σ := σ') (l := [(43, .int .i64 ((ix x1 v47).Start)), (46, .int .i64 ((((ix x1 v47).Data).length : Int)))]) ⟨e100, e102, trivial⟩
    have hM := Mem.subR (R := R) hMR
    exact RW.step (Ex.build bs103 [(0, .int .i64 ((ix x1 v47).Start)), (1, .int .i64 ((((ix x1 v47).Data).length : Int)))] [.int .i64 ((ix x1 v47).Start), .int .i64 ((((ix x1 v47).Data).length : Int))] rfl rfl) rfl rfl rfl (RW.nil ⟨rfl, rfl, _, rfl, H', [], Hp.le.refl _, hMR, rfl, rfl, trivial⟩)
   ·
    intro H' σ' w R E hle hMR hE0 hE hp hf
    obtain rfl := hE0 rfl
    obtain ⟨_, hg⟩ := hp 7 (by decide) (by kernel_rfl)
    obtain ⟨e103, _, _⟩ := hg.get rfl
    have e104 : σ' 41 = .agg #[.int .i64 ((ix v40 ((ix x1 v47).Volume)).Size), .slice A75 n75 c75] := (List.cons.inj e103).1
    obtain ⟨_, hg⟩ := hp 13 (by decide) (by kernel_rfl)
    obtain ⟨e105, _, _⟩ := hg.get rfl
    have e106 : σ' 47 = .agg #[.int .i64 ((ix x1 v47).Start), .int .i64 ((((ix x1 v47).Data).length : Int))] := (List.cons.inj e105).1
    obtain ⟨τ, rfl⟩ := sl_canon (σ := σ') (l := [(41, .agg #[.int .i64 ((ix v40 ((ix x1 v47).Volume)).Size), .slice A75 n75 c75]), (47, .agg #[.int .i64 ((ix x1 v47).Start), .int .i64 ((((ix x1 v47).Data).length : Int))])]) ⟨e104, e106, trivial⟩
    have hM := Mem.subR (R := R) hMR
    refine RW.callP hMR (ref02_Set_lift (ix v40 ((ix x1 v47).Volume)) (api_Extent.mk ((ix x1 v47).Start) (((ix x1 v47).Data).length : Int)) (hF75.mono hle) hW78) en66 rfl rfl rfl rfl ?_; rintro _ w H9 _ hle9 ⟨_, rfl, A79, n79, c79, s79, rfl, hd80, hn81, rfl⟩ hMR
    obtain ⟨H90, hMR, hle90, hF82⟩ := hMR.giveF (α := BitVec 64) 0 rfl hd80 hn81
    exact RW.nil ⟨rfl, rfl, _, rfl, H90, [], (hle9.trans hle90), hMR, A79, n79, c79, s79, rfl, rfl, hF82, trivial⟩
   ·
    intro H' σ' w R E hle hMR hE0 hE hp hf
    obtain rfl := hE0 rfl
    obtain ⟨_, hg⟩ := hp 14 (by decide) (by kernel_rfl)
    obtain ⟨A79, n79, c79, s79, e107, _, hF82, _⟩ := hg.get rfl
    have e108 : σ' 48 = .tuple #[.agg #[.int .i64 v77.1.Size, .slice A79 n79 c79], .int .i64 v77.2] := (List.cons.inj e107).1
    obtain ⟨τ, rfl⟩ := sl_canon (σ := σ') (l := [(48, .tuple #[.agg #[.int .i64 v77.1.Size, .slice A79 n79 c79], .int .i64 v77.2])]) ⟨e108, trivial⟩
    have hM := Mem.subR (R := R) hMR
    exact RW.step (Ex.move (.tuple #[.agg #[.int .i64 v77.1.Size, .slice A79 n79 c79], .int .i64 v77.2]) rfl) rfl rfl rfl (RW.nil ⟨rfl, rfl, _, rfl, H', [], Hp.le.refl _, hMR, A79, n79, c79, s79, rfl, rfl, hF82, trivial⟩)
   ·
    intro H' σ' w R E hle hMR hE0 hE hp hf
    obtain rfl := hE0 rfl
    obtain ⟨_, hg⟩ := hp 15 (by decide) (by kernel_rfl)
    obtain ⟨A79, n79, c79, s79, e109, _, hF82, _⟩ := hg.get rfl
    have e110 : σ' 48 = .tuple #[.agg #[.int .i64 v77.1.Size, .slice A79 n79 c79], .int .i64 v77.2] := (List.cons.inj e109).1
    have e111 : σ' 33 = .tuple #[.agg #[.int .i64 v77.1.Size, .slice A79 n79 c79], .int .i64 v77.2] := (List.cons.inj (List.cons.inj e109).2).1
    obtain ⟨τ, rfl⟩ := sl_canon (σ := σ') (l := [(33, .tuple #[.agg #[.int .i64 v77.1.Size, .slice A79 n79 c79], .int .i64 v77.2])]) ⟨e111, trivial⟩
    have hM := Mem.subR (R := R) hMR
    exact RW.step (Ex.extract rfl rfl) rfl rfl rfl (RW.nil ⟨rfl, rfl, _, rfl, H', [], Hp.le.refl _, hMR, A79, n79, c79, s79, rfl, rfl, hF82, trivial⟩)
   ·
    intro H' σ' w R E hle hMR hE0 hE hp hf
    obtain rfl := hE0 rfl
    obtain ⟨_, hg⟩ := hp 15 (by decide) (by kernel_rfl)
    obtain ⟨A79, n79, c79, s79, e112, _, hF82, _⟩ := hg.get rfl
    have e113 : σ' 48 = .tuple #[.agg #[.int .i64 v77.1.Size, .slice A79 n79 c79], .int .i64 v77.2] := (List.cons.inj e112).1
    have e114 : σ' 33 = .tuple #[.agg #[.int .i64 v77.1.Size, .slice A79 n79 c79], .int .i64 v77.2] := (List.cons.inj (List.cons.inj e112).2).1
    obtain ⟨τ, rfl⟩ := sl_canon (σ := σ') (l := [(33, .tuple #[.agg #[.int .i64 v77.1.Size, .slice A79 n79 c79], .int .i64 v77.2])]) ⟨e114, trivial⟩
    have hM := Mem.subR (R := R) hMR
    exact RW.step (Ex.extract rfl rfl) rfl rfl rfl (RW.nil ⟨rfl, rfl, _, rfl, H', [], Hp.le.refl _, hMR, rfl, rfl, trivial⟩)
   ·
    intro H' σ' w R E hle hMR hE0 hE hp hf
    obtain rfl := hE0 rfl
    obtain ⟨_, hg⟩ := hp 0 (by decide) (by kernel_rfl)
    obtain ⟨e115, _, _⟩ := hg.get rfl
    have e116 : σ' 34 = .slice A41 n42 c43 := (List.cons.inj e115).1
    obtain ⟨_, hg⟩ := hp 2 (by decide) (by kernel_rfl)
    obtain ⟨e117, _, _⟩ := hg.get rfl
    have e118 : σ' 36 = .int .i64 ((ix x1 v47).Volume) := (List.cons.inj e117).1
    obtain ⟨τ, rfl⟩ := sl_canon (σ := σ') (l := [(34, .slice A41 n42 c43), (36, .int .i64 ((ix x1 v47).Volume))]) ⟨e116, e118, trivial⟩
    have hM := Mem.subR (R := R) hMR
    exact RW.step (Ex.index st23 rfl rfl (((ix x1 v47).Volume).toNat) (hM.rowNeD (α := api_Bitmap) (p := 1) rfl hn46 hg74) hg74.nat (Nat.lt_of_lt_of_eq hg74.lt (hn46).symm)) rfl rfl rfl (RW.nil ⟨rfl, rfl, _, rfl, H', [], Hp.le.refl _, hMR, rfl, rfl, trivial⟩)
   ·
    intro H8 σ' w X miss hms hle8 hM hX hX0 hf
    simp [subs] at hms
    rcases hms with rfl | rfl
    ·
     obtain ⟨H119, hH8⟩ : ∃ x, x = H8 := ⟨_, rfl⟩
     subst hH8
     have hle120 := hle8
     obtain ⟨_, g0, y0⟩ := hX 0 (by decide) (by kernel_rfl)
     obtain ⟨_, rfl, _⟩ := g0.get rfl
     replace y0 : X 0 = [] := y0
     obtain ⟨_, g0, y1⟩ := hX 1 (by decide) (by kernel_rfl)
     obtain ⟨_, rfl, _⟩ := g0.get rfl
     replace y1 : X 1 = [] := y1
     obtain ⟨_, g0, y2⟩ := hX 2 (by decide) (by kernel_rfl)
     obtain ⟨_, rfl, _⟩ := g0.get rfl
     replace y2 : X 2 = [] := y2
     obtain ⟨_, g0, y3⟩ := hX 3 (by decide) (by kernel_rfl)
     obtain ⟨_, rfl, _⟩ := g0.get rfl
     replace y3 : X 3 = [] := y3
     obtain ⟨_, g0, y4⟩ := hX 4 (by decide) (by kernel_rfl)
     obtain ⟨_, rfl, _⟩ := g0.get rfl
     replace y4 : X 4 = [] := y4
     obtain ⟨_, g0, y5⟩ := hX 5 (by decide) (by kernel_rfl)
     obtain ⟨_, rfl, _⟩ := g0.get rfl
     replace y5 : X 5 = [] := y5
     obtain ⟨_, g0, y6⟩ := hX 6 (by decide) (by kernel_rfl)
     obtain ⟨_, rfl, _⟩ := g0.get rfl
     replace y6 : X 6 = [] := y6
     obtain ⟨_, g0, y7⟩ := hX 7 (by decide) (by kernel_rfl)
     obtain ⟨_, rfl, _⟩ := g0.get rfl
     replace y7 : X 7 = [] := y7
     obtain ⟨_, g0, y8⟩ := hX 8 (by decide) (by kernel_rfl)
     obtain ⟨_, rfl, _⟩ := g0.get rfl
     replace y8 : X 8 = [] := y8
     obtain ⟨_, g0, y9⟩ := hX 9 (by decide) (by kernel_rfl)
     obtain ⟨_, rfl, _⟩ := g0.get rfl
     replace y9 : X 9 = [] := y9
     obtain ⟨_, g0, y10⟩ := hX 10 (by decide) (by kernel_rfl)
     obtain ⟨_, rfl, _⟩ := g0.get rfl
     replace y10 : X 10 = [] := y10
     obtain ⟨_, g0, y11⟩ := hX 11 (by decide) (by kernel_rfl)
     obtain ⟨_, rfl, _⟩ := g0.get rfl
     replace y11 : X 11 = [] := y11
     obtain ⟨_, g0, y12⟩ := hX 12 (by decide) (by kernel_rfl)
     obtain ⟨_, rfl, _⟩ := g0.get rfl
     replace y12 : X 12 = [] := y12
     obtain ⟨_, g0, y13⟩ := hX 13 (by decide) (by kernel_rfl)
     obtain ⟨_, rfl, _⟩ := g0.get rfl
     replace y13 : X 13 = [] := y13
     obtain ⟨_, g0, y14⟩ := hX 14 (by decide) (by kernel_rfl)
     obtain ⟨A79, n79, c79, s79, e121, rfl, hF82, _⟩ := g0.get rfl
     have e122 : σ' 48 = .tuple #[.agg #[.int .i64 v77.1.Size, .slice A79 n79 c79], .int .i64 v77.2] := (List.cons.inj e121).1
     replace y14 : X 14 = [] := y14
     obtain ⟨_, g0, y15⟩ := hX 15 (by decide) (by kernel_rfl)
     obtain ⟨A79q, n79q, c79q, s79q, e123, rfl, _, _⟩ := g0.get rfl
     have e124 : σ' 48 = .tuple #[.agg #[.int .i64 v77.1.Size, .slice A79q n79q c79q], .int .i64 v77.2] := (List.cons.inj e123).1
     have he_ := e122.symm.trans e124
     have ⟨e125, e126, e127⟩ : A79 = A79q ∧ n79 = n79q ∧ c79 = c79q := by simp at he_; simp [he_]
     subst e125
     subst e126
     subst e127
     have e128 : σ' 33 = .tuple #[.agg #[.int .i64 v77.1.Size, .slice A79 n79 c79], .int .i64 v77.2] := (List.cons.inj (List.cons.inj e123).2).1
     replace y15 : X 15 = [] := y15
     obtain ⟨_, g0, y16⟩ := hX 16 (by decide) (by kernel_rfl)
     obtain ⟨A79q, n79q, c79q, s79q, e129, rfl, _, _⟩ := g0.get rfl
     have e130 : σ' 33 = .tuple #[.agg #[.int .i64 v77.1.Size, .slice A79q n79q c79q], .int .i64 v77.2] := (List.cons.inj e129).1
     have he_ := e128.symm.trans e130
     have ⟨e131, e132, e133⟩ : A79 = A79q ∧ n79 = n79q ∧ c79 = c79q := by simp at he_; simp [he_]
     subst e131
     subst e132
     subst e133
     have e134 : σ' 49 = .agg #[.int .i64 v77.1.Size, .slice A79 n79 c79] := (List.cons.inj (List.cons.inj e129).2).1
     replace y16 : X 16 = [] := y16
     obtain ⟨_, g0, y17⟩ := hX 17 (by decide) (by kernel_rfl)
     obtain ⟨_, rfl, _⟩ := g0.get rfl
     replace y17 : X 17 = [] := y17
     obtain ⟨_, g0, y18⟩ := hX 18 (by decide) (by kernel_rfl)
     obtain ⟨e135, rfl, _⟩ := g0.get rfl
     have e136 : σ' 51 = elp A41 ((((ix x1 v47).Volume).toNat) * 2 + 0) := (List.cons.inj e135).1
     replace y18 : X 18 = [] := y18
     have hfl : flatX X 19 = [] := by
      show X 0 ++ (X 1 ++ (X 2 ++ (X 3 ++ (X 4 ++ (X 5 ++ (X 6 ++ (X 7 ++ (X 8 ++ (X 9 ++ (X 10 ++ (X 11 ++ (X 12 ++ (X 13 ++ (X 14 ++ (X 15 ++ (X 16 ++ (X 17 ++ (X 18 ++ [])))))))))))))))))) = _
      rw [y0, y1, y2, y3, y4, y5, y6, y7, y8, y9, y10, y11, y12, y13, y14, y15, y16, y17, y18]; rfl
     rw [hfl] at hM
     obtain ⟨τ, rfl⟩ := sl_canon (σ := σ') (l := [(1, .slice A2 n2 c2), (5, .slice A41 n42 c43), (7, .int .i64 v47), (49, .agg #[.int .i64 v77.1.Size, .slice A79 n79 c79]), (51, elp A41 ((((ix x1 v47).Volume).toNat) * 2 + 0))]) ⟨(hf 1 (by kernel_rfl)).trans rfl, (hf 5 (by kernel_rfl)).trans rfl, (hf 7 (by kernel_rfl)).trans rfl, e134, e136, trivial⟩
     replace hM : Mem w0 H w H119 [.box b64 100 [.int .i64 ((ix x1 v47).Volume), .int .i64 ((ix x1 v47).Start), .slice A62 n62 c62], .row (.slice A41 n42 c43) 65 2 n42 s44] := hM
     change RA _ _ _ _ _ _ _ (sl [(1, .slice A2 n2 c2), (5, .slice A41 n42 c43), (7, .int .i64 v47), (49, .agg #[.int .i64 v77.1.Size, .slice A79 n79 c79]), (51, elp A41 ((((ix x1 v47).Volume).toNat) * 2 + 0))] τ) _ 20 _
     refine RA.step [19] (by kernel_rfl) rfl ⟨⟨_, rfl, ?_⟩, trivial⟩
     refine RW.storeD (α := api_Bitmap) (off := 0) (x' := v77.1) hM 1 (hd45.mono hle120) (.agg #[.int .i64 v77.1.Size, .slice A79 n79 c79]) [.int .i64 v77.1.Size, .slice A79 n79 c79] sz65 rfl hn46 hg74 (Nat.le_of_ble_eq_true rfl) rfl rfl (oneAll ⟨rfl, rfl, trivial⟩) rfl (fun ch h => rdWhole h ⟨_, _, _, _, rfl, hF82⟩) rfl rfl ?_
     intro s138 w hd139 hM
     replace hM : Mem w0 H w H119 [.box b64 100 [.int .i64 ((ix x1 v47).Volume), .int .i64 ((ix x1 v47).Start), .slice A62 n62 c62], .row (.slice A41 n42 c43) 65 2 n42 s138] := hM
     refine RW.nil ?_
     refine And.intro rfl ?_
     refine RA.done (by kernel_rfl) ?_
     refine CW.region <| RW.st (Ex.move (.int .i64 v47) rfl) rfl ?_
     obtain ⟨hg140, hm⟩ := hm
     refine RW.st (Ex.add rfl rfl hg140.1 hg140.2) rfl <| RW.st (Ex.assign (.int .i64 (v47 + 1)) rfl) rfl <| RW.nil ?_
     exact And.intro rfl ⟨k48, ⟨(put v40 ((ix x1 v47).Volume) v77.1), A41, n42, c43, s138, v47 + 1, H119, hle39.trans hle120, sl_canon ⟨rfl, rfl, rfl, trivial⟩, (hM.pick [1] rfl rfl), hd139, (hn46).trans (put_len _ _ _).symm, (by rw [hrec49]; exact hm)⟩, Nat.lt_succ_self _⟩
    ·
     obtain ⟨H119, hH8⟩ : ∃ x, x = H8 := ⟨_, rfl⟩
     subst hH8
     have hle120 := hle8
     obtain ⟨_, g0, y0⟩ := hX 0 (by decide) (by kernel_rfl)
     obtain ⟨_, rfl, _⟩ := g0.get rfl
     replace y0 : X 0 = [] := y0
     obtain ⟨_, g0, y1⟩ := hX 1 (by decide) (by kernel_rfl)
     obtain ⟨_, rfl, _⟩ := g0.get rfl
     replace y1 : X 1 = [] := y1
     obtain ⟨_, g0, y2⟩ := hX 2 (by decide) (by kernel_rfl)
     obtain ⟨_, rfl, _⟩ := g0.get rfl
     replace y2 : X 2 = [] := y2
     obtain ⟨_, g0, y3⟩ := hX 3 (by decide) (by kernel_rfl)
     obtain ⟨_, rfl, _⟩ := g0.get rfl
     replace y3 : X 3 = [] := y3
     obtain ⟨_, g0, y4⟩ := hX 4 (by decide) (by kernel_rfl)
     obtain ⟨_, rfl, _⟩ := g0.get rfl
     replace y4 : X 4 = [] := y4
     obtain ⟨_, g0, y5⟩ := hX 5 (by decide) (by kernel_rfl)
     obtain ⟨_, rfl, _⟩ := g0.get rfl
     replace y5 : X 5 = [] := y5
     obtain ⟨_, g0, y6⟩ := hX 6 (by decide) (by kernel_rfl)
     obtain ⟨_, rfl, _⟩ := g0.get rfl
     replace y6 : X 6 = [] := y6
     obtain ⟨_, g0, y7⟩ := hX 7 (by decide) (by kernel_rfl)
     obtain ⟨_, rfl, _⟩ := g0.get rfl
     replace y7 : X 7 = [] := y7
     obtain ⟨_, g0, y8⟩ := hX 8 (by decide) (by kernel_rfl)
     obtain ⟨_, rfl, _⟩ := g0.get rfl
     replace y8 : X 8 = [] := y8
     obtain ⟨_, g0, y9⟩ := hX 9 (by decide) (by kernel_rfl)
     obtain ⟨_, rfl, _⟩ := g0.get rfl
     replace y9 : X 9 = [] := y9
     obtain ⟨_, g0, y10⟩ := hX 10 (by decide) (by kernel_rfl)
     obtain ⟨_, rfl, _⟩ := g0.get rfl
     replace y10 : X 10 = [] := y10
     obtain ⟨_, g0, y11⟩ := hX 11 (by decide) (by kernel_rfl)
     obtain ⟨_, rfl, _⟩ := g0.get rfl
     replace y11 : X 11 = [] := y11
     obtain ⟨_, g0, y12⟩ := hX 12 (by decide) (by kernel_rfl)
     obtain ⟨_, rfl, _⟩ := g0.get rfl
     replace y12 : X 12 = [] := y12
     obtain ⟨_, g0, y13⟩ := hX 13 (by decide) (by kernel_rfl)
     obtain ⟨_, rfl, _⟩ := g0.get rfl
     replace y13 : X 13 = [] := y13
     obtain ⟨_, g0, y14⟩ := hX 14 (by decide) (by kernel_rfl)
     obtain ⟨A79, n79, c79, s79, e121, rfl, hF82, _⟩ := g0.get rfl
     have e122 : σ' 48 = .tuple #[.agg #[.int .i64 v77.1.Size, .slice A79 n79 c79], .int .i64 v77.2] := (List.cons.inj e121).1
     replace y14 : X 14 = [] := y14
     obtain ⟨_, g0, y15⟩ := hX 15 (by decide) (by kernel_rfl)
     obtain ⟨A79q, n79q, c79q, s79q, e123, rfl, _, _⟩ := g0.get rfl
     have e124 : σ' 48 = .tuple #[.agg #[.int .i64 v77.1.Size, .slice A79q n79q c79q], .int .i64 v77.2] := (List.cons.inj e123).1
     have he_ := e122.symm.trans e124
     have ⟨e125, e126, e127⟩ : A79 = A79q ∧ n79 = n79q ∧ c79 = c79q := by simp at he_; simp [he_]
     subst e125
     subst e126
     subst e127
     have e128 : σ' 33 = .tuple #[.agg #[.int .i64 v77.1.Size, .slice A79 n79 c79], .int .i64 v77.2] := (List.cons.inj (List.cons.inj e123).2).1
     replace y15 : X 15 = [] := y15
     obtain ⟨_, g0, y16⟩ := hX 16 (by decide) (by kernel_rfl)
     obtain ⟨A79q, n79q, c79q, s79q, e129, rfl, _, _⟩ := g0.get rfl
     have e130 : σ' 33 = .tuple #[.agg #[.int .i64 v77.1.Size, .slice A79q n79q c79q], .int .i64 v77.2] := (List.cons.inj e129).1
     have he_ := e128.symm.trans e130
     have ⟨e131, e132, e133⟩ : A79 = A79q ∧ n79 = n79q ∧ c79 = c79q := by simp at he_; simp [he_]
     subst e131
     subst e132
     subst e133
     have e134 : σ' 49 = .agg #[.int .i64 v77.1.Size, .slice A79 n79 c79] := (List.cons.inj (List.cons.inj e129).2).1
     replace y16 : X 16 = [] := y16
     have y17 : X 17 = [] := hX0 17 (by decide) (by kernel_rfl)
     obtain ⟨_, g0, y18⟩ := hX 18 (by decide) (by kernel_rfl)
     obtain ⟨e135, rfl, _⟩ := g0.get rfl
     have e136 : σ' 51 = elp A41 ((((ix x1 v47).Volume).toNat) * 2 + 0) := (List.cons.inj e135).1
     replace y18 : X 18 = [] := y18
     have hfl : flatX X 19 = [] := by
      show X 0 ++ (X 1 ++ (X 2 ++ (X 3 ++ (X 4 ++ (X 5 ++ (X 6 ++ (X 7 ++ (X 8 ++ (X 9 ++ (X 10 ++ (X 11 ++ (X 12 ++ (X 13 ++ (X 14 ++ (X 15 ++ (X 16 ++ (X 17 ++ (X 18 ++ [])))))))))))))))))) = _
      rw [y0, y1, y2, y3, y4, y5, y6, y7, y8, y9, y10, y11, y12, y13, y14, y15, y16, y17, y18]; rfl
     rw [hfl] at hM
     obtain ⟨τ, rfl⟩ := sl_canon (σ := σ') (l := [(1, .slice A2 n2 c2), (5, .slice A41 n42 c43), (7, .int .i64 v47), (33, .tuple #[.agg #[.int .i64 v77.1.Size, .slice A79 n79 c79], .int .i64 v77.2]), (49, .agg #[.int .i64 v77.1.Size, .slice A79 n79 c79]), (51, elp A41 ((((ix x1 v47).Volume).toNat) * 2 + 0))]) ⟨(hf 1 (by kernel_rfl)).trans rfl, (hf 5 (by kernel_rfl)).trans rfl, (hf 7 (by kernel_rfl)).trans rfl, e128, e134, e136, trivial⟩
     replace hM : Mem w0 H w H119 [.box b64 100 [.int .i64 ((ix x1 v47).Volume), .int .i64 ((ix x1 v47).Start), .slice A62 n62 c62], .row (.slice A41 n42 c43) 65 2 n42 s44] := hM
     change RA _ _ _ _ _ _ _ (sl [(1, .slice A2 n2 c2), (5, .slice A41 n42 c43), (7, .int .i64 v47), (33, .tuple #[.agg #[.int .i64 v77.1.Size, .slice A79 n79 c79], .int .i64 v77.2]), (49, .agg #[.int .i64 v77.1.Size, .slice A79 n79 c79]), (51, elp A41 ((((ix x1 v47).Volume).toNat) * 2 + 0))] τ) _ 20 _
     refine RA.step [17, 19] (by kernel_rfl) rfl ⟨⟨_, rfl, ?_⟩, ⟨_, rfl, ?_⟩, trivial⟩
     ·
      refine RW.st (Ex.extract rfl rfl) rfl <| RW.nil ?_
      refine And.intro rfl ?_
      refine RA.step [19] (by kernel_rfl) rfl ⟨⟨_, rfl, ?_⟩, trivial⟩
      refine RW.storeD (α := api_Bitmap) (off := 0) (x' := v77.1) hM 1 (hd45.mono hle120) (.agg #[.int .i64 v77.1.Size, .slice A79 n79 c79]) [.int .i64 v77.1.Size, .slice A79 n79 c79] sz65 rfl hn46 hg74 (Nat.le_of_ble_eq_true rfl) rfl rfl (oneAll ⟨rfl, rfl, trivial⟩) rfl (fun ch h => rdWhole h ⟨_, _, _, _, rfl, hF82⟩) rfl rfl ?_
      intro s138 w hd139 hM
      replace hM : Mem w0 H w H119 [.box b64 100 [.int .i64 ((ix x1 v47).Volume), .int .i64 ((ix x1 v47).Start), .slice A62 n62 c62], .row (.slice A41 n42 c43) 65 2 n42 s138] := hM
      refine RW.nil ?_
      refine And.intro rfl ?_
      refine RA.done (by kernel_rfl) ?_
      refine CW.region <| RW.st (Ex.move (.int .i64 v47) rfl) rfl ?_
      obtain ⟨hg140, hm⟩ := hm
      refine RW.st (Ex.add rfl rfl hg140.1 hg140.2) rfl <| RW.st (Ex.assign (.int .i64 (v47 + 1)) rfl) rfl <| RW.nil ?_
      exact And.intro rfl ⟨k48, ⟨(put v40 ((ix x1 v47).Volume) v77.1), A41, n42, c43, s138, v47 + 1, H119, hle39.trans hle120, sl_canon ⟨rfl, rfl, rfl, trivial⟩, (hM.pick [1] rfl rfl), hd139, (hn46).trans (put_len _ _ _).symm, (by rw [hrec49]; exact hm)⟩, Nat.lt_succ_self _⟩
     ·
      refine RW.storeD (α := api_Bitmap) (off := 0) (x' := v77.1) hM 1 (hd45.mono hle120) (.agg #[.int .i64 v77.1.Size, .slice A79 n79 c79]) [.int .i64 v77.1.Size, .slice A79 n79 c79] sz65 rfl hn46 hg74 (Nat.le_of_ble_eq_true rfl) rfl rfl (oneAll ⟨rfl, rfl, trivial⟩) rfl (fun ch h => rdWhole h ⟨_, _, _, _, rfl, hF82⟩) rfl rfl ?_
      intro s138 w hd139 hM
      replace hM : Mem w0 H w H119 [.box b64 100 [.int .i64 ((ix x1 v47).Volume), .int .i64 ((ix x1 v47).Start), .slice A62 n62 c62], .row (.slice A41 n42 c43) 65 2 n42 s138] := hM
      refine RW.nil ?_
      refine And.intro rfl ?_
      refine RA.step [17] (by kernel_rfl) rfl ⟨⟨_, rfl, ?_⟩, trivial⟩
      refine RW.st (Ex.extract rfl rfl) rfl <| RW.nil ?_
      refine And.intro rfl ?_
      refine RA.done (by kernel_rfl) ?_
      refine CW.region <| RW.st (Ex.move (.int .i64 v47) rfl) rfl ?_
      obtain ⟨hg140, hm⟩ := hm
      refine RW.st (Ex.add rfl rfl hg140.1 hg140.2) rfl <| RW.st (Ex.assign (.int .i64 (v47 + 1)) rfl) rfl <| RW.nil ?_
      exact And.intro rfl ⟨k48, ⟨(put v40 ((ix x1 v47).Volume) v77.1), A41, n42, c43, s138, v47 + 1, H119, hle39.trans hle120, sl_canon ⟨rfl, rfl, rfl, trivial⟩, (hM.pick [1] rfl rfl), hd139, (hn46).trans (put_len _ _ _).symm, (by rw [hrec49]; exact hm)⟩, Nat.lt_succ_self _⟩
  ·
   replace hm := And.right hm hc50
   refine CW.exit ?_
   refine CW.seq <| CW.region <| RW.st (Ex.move (.slice A41 n42 c43) rfl) rfl <| RW.st (Ex.assign (.slice A41 n42 c43) rfl) rfl <| RW.nil <| CW.ret ?_
   refine end_tmp (.inl rfl) rfl (.slice A41 n42 c43) rfl ?_
   exact ⟨_, _, hM, v40, hm, A41, n42, c43, s44, rfl, hd45, hn46, rfl⟩
theorem image_Check_lift {H : Hp} (x0 : List (List Sec)) {A1 : Option Addr} {n1 c1 : Nat} {s1 : List Value} (hF1 : Fz (α := List Sec) H A1 n1 c1 x0 s1) {Φ : Int → Prop} (hm : image_Check_W x0 Φ) : RetP Tryd.prog 62 #[.slice A1 n1 c1] H (fun _ v L => ∃ y, Φ y ∧ v = .int .i64 (y) ∧ L = []) := by
 refine RetP.of_code Tryd.func62 rfl (Nat.le_of_ble_eq_true rfl) fun w0 hM => ?_
 refine CW.seq <| CW.region <| RW.st (Ex.assign (.int .i64 0) rfl) rfl <| RW.nil <| CW.seq <| CW.region <| RW.st (Ex.move (.slice A1 n1 c1) rfl) rfl ?_
 refine RW.callP hM (image_sizes_lift x0 hF1 hm) en111 rfl rfl rfl rfl ?_; rintro _ w H3 _ hle4 ⟨v2, hm, A5, n5, c5, s5, rfl, hd6, hn7, rfl⟩ hM
 replace hM : Mem w0 H w H3 [.row (.slice A5 n5 c5) 3 1 n5 s5] := hM
 have hM1 := hM
 obtain ⟨H8, hM, hle9, hF10⟩ := hM.giveF (α := Int) 0 rfl hd6 hn7
 replace hM : Mem w0 H w H8 [] := hM
 refine RW.callB hM1 hM (image_checkSizes_lift v2 hF10 hm) en110 rfl rfl rfl rfl ?_; clear hM hM1; intro v11 w hm hM
 replace hM : Mem w0 H w H3 [.row (.slice A5 n5 c5) 3 1 n5 s5] := hM
 refine RW.st (Ex.assign (.int .i64 v11) rfl) rfl <| RW.nil <| CW.ret ?_
 refine end_tmp (.inl rfl) rfl (.int .i64 v11) rfl ?_
 exact ⟨_, _, (hM.pick [] rfl rfl), v11, hm, rfl, rfl⟩
theorem delta_marked_lift {H : Hp} (hT : TabH H 0) (x0 : api_Point) (x1 : api_Point) {A1 : Option Addr} {n1 c1 : Nat} {s1 : List Value} (_ : Fz (α := api_Span) H A1 n1 c1 x0.Lineage s1) {A2 : Option Addr} {n2 c2 : Nat} {s2 : List Value} (hF2 : Fz (α := api_Bitmap) H A2 n2 c2 x0.Dirty s2) {A3 : Option Addr} {n3 c3 : Nat} {s3 : List Value} (_ : Fz (α := List Sec) H A3 n3 c3 x0.Image s3) {A4 : Option Addr} {n4 c4 : Nat} {s4 : List Value} (_ : Fz (α := api_Span) H A4 n4 c4 x1.Lineage s4) {A5 : Option Addr} {n5 c5 : Nat} {s5 : List Value} (hF5 : Fz (α := api_Bitmap) H A5 n5 c5 x1.Dirty s5) {A6 : Option Addr} {n6 c6 : Nat} {s6 : List Value} (_ : Fz (α := List Sec) H A6 n6 c6 x1.Image s6) {Φ : List (List api_Extent) → Prop} (hm : delta_marked_W x0 x1 Φ) : RetP Tryd.prog 99 #[.agg #[.int .i64 x0.Site, .slice A1 n1 c1, .slice A2 n2 c2, .slice A3 n3 c3], .agg #[.int .i64 x1.Site, .slice A4 n4 c4, .slice A5 n5 c5, .slice A6 n6 c6]] H (fun H' v L => ∃ y, Φ y ∧ ∃ A110, ∃ n110, ∃ c110, ∃ s110, v = .slice A110 n110 c110 ∧ DtL (α := List api_Extent) H' s110 y ∧ n110 = y.length ∧ L = [.row (.slice A110 n110 c110) 68 1 n110 s110]) := by
 refine RetP.of_code Tryd.func99 rfl (Nat.le_of_ble_eq_true rfl) fun w0 hM => ?_
 refine CW.seq <| CW.region ?_
 refine RW.box hM (.agg #[.int .i64 x0.Site, .slice A1 n1 c1, .slice A2 n2 c2, .slice A3 n3 c3]) [.int .i64 x0.Site, .slice A1 n1 c1, .slice A2 n2 c2, .slice A3 n3 c3] rfl rfl rfl rfl ?_; intro b7 w hM
 replace hM : Mem w0 H w H [.box b7 27 [.int .i64 x0.Site, .slice A1 n1 c1, .slice A2 n2 c2, .slice A3 n3 c3]] := hM
 refine RW.box hM (.agg #[.int .i64 x1.Site, .slice A4 n4 c4, .slice A5 n5 c5, .slice A6 n6 c6]) [.int .i64 x1.Site, .slice A4 n4 c4, .slice A5 n5 c5, .slice A6 n6 c6] rfl rfl rfl rfl ?_; intro b8 w hM
 replace hM : Mem w0 H w H [.box b8 27 [.int .i64 x1.Site, .slice A4 n4 c4, .slice A5 n5 c5, .slice A6 n6 c6], .box b7 27 [.int .i64 x0.Site, .slice A1 n1 c1, .slice A2 n2 c2, .slice A3 n3 c3]] := hM
 refine RW.st (Ex.assign (.slice none 0 0) rfl) rfl <| RW.nil <| CW.seq <| CW.region <| RW.st (Ex.fieldAddr fa27_2 rfl) rfl <| RW.st (Ex.load1 hM 1 to23 rfl rfl rfl) rfl <| RW.st (Ex.lenN st23.1 rfl hF2.hn) rfl ?_
 obtain ⟨hg15, hm⟩ := hm
 obtain ⟨hg16, hm⟩ := hm
 refine RW.makeD (α := List api_Extent) (x0 := ([] : List api_Extent)) hM st30 tz68 [.slice none 0 0] rfl (fun _ => ⟨_, _, _, _, rfl, Fz.nil⟩) rfl rfl hg15 hg16 rfl rfl ?_; intro b9 n10 s12 w hd13 hn14 hM
 replace hM : Mem w0 H w H [.row (.slice (some ⟨b9, 0, none⟩) n10 n10) 68 1 n10 s12, .box b8 27 [.int .i64 x1.Site, .slice A4 n4 c4, .slice A5 n5 c5, .slice A6 n6 c6], .box b7 27 [.int .i64 x0.Site, .slice A1 n1 c1, .slice A2 n2 c2, .slice A3 n3 c3]] := hM
 refine RW.st (Ex.assign (.slice (some ⟨b9, 0, none⟩) n10 n10) rfl) rfl <| RW.nil <| CW.seq <| CW.seq <| CW.region <| RW.st (Ex.move (.slice (some ⟨b9, 0, none⟩) n10 n10) rfl) rfl <| RW.st (Ex.lenN st30.1 rfl hn14) rfl <| RW.st (Ex.move (.int .i64 0) rfl) rfl <| RW.nil <| CW.block ?_
 obtain ⟨m109, hm⟩ := hm
 skip
 refine CW.loop (β := Nat) (fun n σ w => ∃ (v19 : List (List api_Extent)), ∃ (A20 : Option Addr), ∃ (n21 : Nat), ∃ (c22 : Nat), ∃ (s23 : List Value), ∃ (v26 : Int), ∃ Hk17, H.le Hk17 ∧ (∃ τ, σ = sl [(2, .pointer (some ⟨b7, 0, none⟩)), (3, .pointer (some ⟨b8, 0, none⟩)), (5, .slice A20 n21 c22), (14, .int .i64 (((List.replicate (x0.Dirty.length : Int).toNat ([] : List api_Extent)).length : Int))), (15, .int .i64 v26)] τ) ∧ Mem w0 H w Hk17 [.box b7 27 [.int .i64 x0.Site, .slice A1 n1 c1, .slice A2 n2 c2, .slice A3 n3 c3], .box b8 27 [.int .i64 x1.Site, .slice A4 n4 c4, .slice A5 n5 c5, .slice A6 n6 c6], .row (.slice A20 n21 c22) 68 1 n21 s23] ∧ (DtL (α := List api_Extent) Hk17 s23 v19) ∧ (n21 = v19.length) ∧ LoopN (delta_marked_L1 x0 x1 Φ) n (v19, v26)) (fun n => n) m109 ⟨(List.replicate (x0.Dirty.length : Int).toNat ([] : List api_Extent)), (some ⟨b9, 0, none⟩), n10, n10, s12, 0, H, (Hp.le.refl _), sl_canon ⟨rfl, rfl, rfl, rfl, rfl, trivial⟩, (hM.pick [2, 1, 0] rfl rfl), hd13, hn14, hm⟩ ?_
 rintro k27 _ w ⟨v19, A20, n21, c22, s23, v26, Hk17, hle18, ⟨τ, rfl⟩, hM, hd24, hn25, hm⟩
 obtain _ | k27 := k27
 · exact hm.elim
 replace hm : (delta_marked_L1 x0 x1 Φ) (v19, v26) (LoopN (delta_marked_L1 x0 x1 Φ) k27) := hm
 generalize hrec28 : LoopN (delta_marked_L1 x0 x1 Φ) k27 = rec1 at hm
 refine CW.seq <| CW.region <| RW.st (Ex.lss rfl rfl) rfl <| RW.nil <| CW.seq ?_
 refine CW.cond_dec (p := v26 < ((List.replicate (x0.Dirty.length : Int).toNat ([] : List api_Extent)).length : Int)) rfl (fun hc29 => ?_) (fun hc29 => ?_)
 ·
  replace hm := And.left hm hc29
  refine CW.skip <| CW.seq <| CW.block <| CW.seq <| CW.region <| RW.st (Ex.move (.int .i64 v26) rfl) rfl <| RW.st (Ex.assign (.int .i64 v26) rfl) rfl <| RW.nil <| CW.seq ?_
  obtain ⟨hg30, hm⟩ := hm
  obtain ⟨_, ⟨A31, n31, c31, s31, rfl, hF31⟩, hx32⟩ := DtL.getI (α := api_Bitmap) (hF2.mono hle18).dat hg30
  obtain ⟨hg33, hm⟩ := hm
  obtain ⟨_, ⟨A34, n34, c34, s34, rfl, hF34⟩, hx35⟩ := DtL.getI (α := api_Bitmap) (hF5.mono hle18).dat hg33
  obtain ⟨v36, hW37, hm⟩ := hm
  refine CW.drawL 17 [] [(fun Hq us E => us = [.pointer (some ⟨b7, 2, none⟩)] ∧ E = [] ∧ True), (fun Hq us E => us = [.slice A2 n2 c2] ∧ E = [] ∧ True), (fun Hq us E => us = [.int .i64 v26] ∧ E = [] ∧ True), (fun Hq us E => us = [elp A2 (v26.toNat * 2 + 0)] ∧ E = [] ∧ True), (fun Hq us E => us = [.agg #[.int .i64 ((ix x0.Dirty v26).Size), .slice A31 n31 c31]] ∧ E = [] ∧ True), (fun Hq us E => us = [.pointer (some ⟨b8, 2, none⟩)] ∧ E = [] ∧ True), (fun Hq us E => us = [.slice A5 n5 c5] ∧ E = [] ∧ True), (fun Hq us E => us = [.int .i64 v26] ∧ E = [] ∧ True), (fun Hq us E => us = [elp A5 (v26.toNat * 2 + 0)] ∧ E = [] ∧ True), (fun Hq us E => us = [.agg #[.int .i64 ((ix x1.Dirty v26).Size), .slice A34 n34 c34]] ∧ E = [] ∧ True), (fun Hq us E => ∃ (A38 : Option Addr), ∃ (n38 : Nat), ∃ (c38 : Nat), ∃ (s38 : List Value), us = [.tuple #[.agg #[.int .i64 v36.1.Size, .slice A38 n38 c38], .int .i64 v36.2]] ∧ E = [] ∧ Fz (α := BitVec 64) Hq A38 n38 c38 v36.1.Words s38 ∧ True), (fun Hq us E => ∃ (A38 : Option Addr), ∃ (n38 : Nat), ∃ (c38 : Nat), ∃ (s38 : List Value), us = [.tuple #[.agg #[.int .i64 v36.1.Size, .slice A38 n38 c38], .int .i64 v36.2], .tuple #[.agg #[.int .i64 v36.1.Size, .slice A38 n38 c38], .int .i64 v36.2]] ∧ E = [] ∧ Fz (α := BitVec 64) Hq A38 n38 c38 v36.1.Words s38 ∧ True), (fun Hq us E => ∃ (A38 : Option Addr), ∃ (n38 : Nat), ∃ (c38 : Nat), ∃ (s38 : List Value), us = [.tuple #[.agg #[.int .i64 v36.1.Size, .slice A38 n38 c38], .int .i64 v36.2], .agg #[.int .i64 v36.1.Size, .slice A38 n38 c38]] ∧ E = [] ∧ Fz (α := BitVec 64) Hq A38 n38 c38 v36.1.Words s38 ∧ True), (fun Hq us E => us = [.int .i64 v36.2] ∧ E = [] ∧ True), (fun Hq us E => ∃ (b42 : Nat), us = [.pointer (some ⟨b42, 0, none⟩)] ∧ E = [.box b42 65 [.int .i64 0, .slice none 0 0]] ∧ True), (fun Hq us E => ∃ (A38 : Option Addr), ∃ (n38 : Nat), ∃ (c38 : Nat), ∃ (s38 : List Value), ∃ (b42 : Nat), us = [.agg #[.int .i64 v36.1.Size, .slice A38 n38 c38], .pointer (some ⟨b42, 0, none⟩)] ∧ E = [.box b42 65 [.int .i64 v36.1.Size, .slice A38 n38 c38]] ∧ Fz (α := BitVec 64) Hq A38 n38 c38 v36.1.Words s38 ∧ True), (fun Hq us E => us = [.int .i64 v36.2] ∧ E = [] ∧ True)]
   (fun k => [[0], [1], [2], [3], [4], [5], [6], [7], [8], [9], [10], [10, 11], [11, 12], [13], [14], [12, 14], [16]].getD k []) (fun k => [none, none, none, none, none, none, none, none, none, none, none, none, none, none, none, some 14, none].getD k none) (by kernel_rfl) hM (by kernel_rfl) (by kernel_rfl) (by kernel_rfl) rfl (by simp only [List.forall_mem_cons]; exact ⟨fun _ _ _ _ hle ⟨e1, e2, _⟩ => ⟨e1, e2, trivial⟩, fun _ _ _ _ hle ⟨e1, e2, _⟩ => ⟨e1, e2, trivial⟩, fun _ _ _ _ hle ⟨e1, e2, _⟩ => ⟨e1, e2, trivial⟩, fun _ _ _ _ hle ⟨e1, e2, _⟩ => ⟨e1, e2, trivial⟩, fun _ _ _ _ hle ⟨e1, e2, _⟩ => ⟨e1, e2, trivial⟩, fun _ _ _ _ hle ⟨e1, e2, _⟩ => ⟨e1, e2, trivial⟩, fun _ _ _ _ hle ⟨e1, e2, _⟩ => ⟨e1, e2, trivial⟩, fun _ _ _ _ hle ⟨e1, e2, _⟩ => ⟨e1, e2, trivial⟩, fun _ _ _ _ hle ⟨e1, e2, _⟩ => ⟨e1, e2, trivial⟩, fun _ _ _ _ hle ⟨e1, e2, _⟩ => ⟨e1, e2, trivial⟩, fun _ _ _ _ hle ⟨A38, n38, c38, s38, e1, e2, hF41, _⟩ => ⟨A38, n38, c38, s38, e1, e2, hF41.mono hle, trivial⟩, fun _ _ _ _ hle ⟨A38, n38, c38, s38, e1, e2, hF41, _⟩ => ⟨A38, n38, c38, s38, e1, e2, hF41.mono hle, trivial⟩, fun _ _ _ _ hle ⟨A38, n38, c38, s38, e1, e2, hF41, _⟩ => ⟨A38, n38, c38, s38, e1, e2, hF41.mono hle, trivial⟩, fun _ _ _ _ hle ⟨e1, e2, _⟩ => ⟨e1, e2, trivial⟩, fun _ _ _ _ hle ⟨b42, e1, e2, _⟩ => ⟨b42, e1, e2, trivial⟩, fun _ _ _ _ hle ⟨A38, n38, c38, s38, b42, e1, e2, hF41, _⟩ => ⟨A38, n38, c38, s38, b42, e1, e2, hF41.mono hle, trivial⟩, fun _ _ _ _ hle ⟨e1, e2, _⟩ => ⟨e1, e2, trivial⟩, by simp⟩) ⟨?_, ?_, ?_, ?_, ?_, ?_, ?_, ?_, ?_, ?_, ?_, ?_, ?_, ?_, ?_, ?_, ?_, trivial⟩ ?_
  ·
   intro H' σ' w R E hle hMR hE0 hE hp hf
   obtain rfl := hE0 rfl
   obtain ⟨τ, rfl⟩ := sl_canon (σ := σ') (l := [(2, .pointer (some ⟨b7, 0, none⟩))]) ⟨(hf 2 (by kernel_rfl)).trans rfl, trivial⟩
   have hM := Mem.subR (R := R) hMR
   exact RW.step (Ex.fieldAddr fa27_2 rfl) rfl rfl rfl (RW.nil ⟨rfl, rfl, _, rfl, H', [], Hp.le.refl _, hMR, rfl, rfl, trivial⟩)
  ·
   intro H' σ' w R E hle hMR hE0 hE hp hf
   obtain rfl := hE0 rfl
   obtain ⟨_, hg⟩ := hp 0 (by decide) (by kernel_rfl)
   obtain ⟨e43, _, _⟩ := hg.get rfl
   have e44 : σ' 19 = .pointer (some ⟨b7, 2, none⟩) := (List.cons.inj e43).1
   obtain ⟨τ, rfl⟩ := sl_canon (σ := σ') (l := [(19, .pointer (some ⟨b7, 2, none⟩))]) ⟨e44, trivial⟩
   have hM := Mem.subR (R := R) hMR
   exact RW.step (Ex.load1 hM 0 to23 rfl rfl rfl) rfl rfl rfl (RW.nil ⟨rfl, rfl, _, rfl, H', [], Hp.le.refl _, hMR, rfl, rfl, trivial⟩)
  ·
   intro H' σ' w R E hle hMR hE0 hE hp hf
   obtain rfl := hE0 rfl
   obtain ⟨τ, rfl⟩ := sl_canon (σ := σ') (l := [(6, .int .i64 v26)]) ⟨(hf 6 (by kernel_rfl)).trans rfl, trivial⟩
   have hM := Mem.subR (R := R) hMR
   exact RW.step (Ex.move (.int .i64 v26) rfl) rfl rfl rfl (RW.nil ⟨rfl, rfl, _, rfl, H', [], Hp.le.refl _, hMR, rfl, rfl, trivial⟩)
  ·
   intro H' σ' w R E hle hMR hE0 hE hp hf
   obtain rfl := hE0 rfl
   obtain ⟨_, hg⟩ := hp 1 (by decide) (by kernel_rfl)
   obtain ⟨e45, _, _⟩ := hg.get rfl
   have e46 : σ' 20 = .slice A2 n2 c2 := (List.cons.inj e45).1
   obtain ⟨_, hg⟩ := hp 2 (by decide) (by kernel_rfl)
   obtain ⟨e47, _, _⟩ := hg.get rfl
   have e48 : σ' 21 = .int .i64 v26 := (List.cons.inj e47).1
   obtain ⟨τ, rfl⟩ := sl_canon (σ := σ') (l := [(20, .slice A2 n2 c2), (21, .int .i64 v26)]) ⟨e46, e48, trivial⟩
   have hM := Mem.subR (R := R) hMR
   exact RW.step (Ex.index st23 rfl rfl v26.toNat (hF2.ne hg30) hg30.nat (hF2.lt hg30)) rfl rfl rfl (RW.nil ⟨rfl, rfl, _, rfl, H', [], Hp.le.refl _, hMR, rfl, rfl, trivial⟩)
  ·
   intro H' σ' w R E hle hMR hE0 hE hp hf
   obtain rfl := hE0 rfl
   obtain ⟨_, hg⟩ := hp 3 (by decide) (by kernel_rfl)
   obtain ⟨e49, _, _⟩ := hg.get rfl
   have e50 : σ' 22 = elp A2 (v26.toNat * 2 + 0) := (List.cons.inj e49).1
   obtain ⟨τ, rfl⟩ := sl_canon (σ := σ') (l := [(22, elp A2 (v26.toNat * 2 + 0))]) ⟨e50, trivial⟩
   have hM := Mem.subR (R := R) hMR
   exact RW.step (Ex.loadEA hM (hle18.trans hle) hF2.rdc [.int .i64 ((ix x0.Dirty v26).Size), .slice A31 n31 c31] ta65 rfl (hF2.ne hg30) rfl (chunk_sub (off := 0) (n := 2) hx32 rfl)) rfl rfl rfl (RW.nil ⟨rfl, rfl, _, rfl, H', [], Hp.le.refl _, hMR, rfl, rfl, trivial⟩)
  ·
   intro H' σ' w R E hle hMR hE0 hE hp hf
   obtain rfl := hE0 rfl
   obtain ⟨τ, rfl⟩ := sl_canon (σ := σ') (l := [(3, .pointer (some ⟨b8, 0, none⟩))]) ⟨(hf 3 (by kernel_rfl)).trans rfl, trivial⟩
   have hM := Mem.subR (R := R) hMR
   exact RW.step (Ex.fieldAddr fa27_2 rfl) rfl rfl rfl (RW.nil ⟨rfl, rfl, _, rfl, H', [], Hp.le.refl _, hMR, rfl, rfl, trivial⟩)
  ·
   intro H' σ' w R E hle hMR hE0 hE hp hf
   obtain rfl := hE0 rfl
   obtain ⟨_, hg⟩ := hp 5 (by decide) (by kernel_rfl)
   obtain ⟨e51, _, _⟩ := hg.get rfl
   have e52 : σ' 24 = .pointer (some ⟨b8, 2, none⟩) := (List.cons.inj e51).1
   obtain ⟨τ, rfl⟩ := sl_canon (σ := σ') (l := [(24, .pointer (some ⟨b8, 2, none⟩))]) ⟨e52, trivial⟩
   have hM := Mem.subR (R := R) hMR
   exact RW.step (Ex.load1 hM 1 to23 rfl rfl rfl) rfl rfl rfl (RW.nil ⟨rfl, rfl, _, rfl, H', [], Hp.le.refl _, hMR, rfl, rfl, trivial⟩)
  ·
   intro H' σ' w R E hle hMR hE0 hE hp hf
   obtain rfl := hE0 rfl
   obtain ⟨τ, rfl⟩ := sl_canon (σ := σ') (l := [(6, .int .i64 v26)]) ⟨(hf 6 (by kernel_rfl)).trans rfl, trivial⟩
   have hM := Mem.subR (R := R) hMR
   exact RW.step (Ex.move (.int .i64 v26) rfl) rfl rfl rfl (RW.nil ⟨rfl, rfl, _, rfl, H', [], Hp.le.refl _, hMR, rfl, rfl, trivial⟩)
  ·
   intro H' σ' w R E hle hMR hE0 hE hp hf
   obtain rfl := hE0 rfl
   obtain ⟨_, hg⟩ := hp 6 (by decide) (by kernel_rfl)
   obtain ⟨e53, _, _⟩ := hg.get rfl
   have e54 : σ' 25 = .slice A5 n5 c5 := (List.cons.inj e53).1
   obtain ⟨_, hg⟩ := hp 7 (by decide) (by kernel_rfl)
   obtain ⟨e55, _, _⟩ := hg.get rfl
   have e56 : σ' 26 = .int .i64 v26 := (List.cons.inj e55).1
   obtain ⟨τ, rfl⟩ := sl_canon (σ := σ') (l := [(25, .slice A5 n5 c5), (26, .int .i64 v26)]) ⟨e54, e56, trivial⟩
   have hM := Mem.subR (R := R) hMR
   exact RW.step (Ex.index st23 rfl rfl v26.toNat (hF5.ne hg33) hg33.nat (hF5.lt hg33)) rfl rfl rfl (RW.nil ⟨rfl, rfl, _, rfl, H', [], Hp.le.refl _, hMR, rfl, rfl, trivial⟩)
  ·
   intro H' σ' w R E hle hMR hE0 hE hp hf
   obtain rfl := hE0 rfl
   obtain ⟨_, hg⟩ := hp 8 (by decide) (by kernel_rfl)
   obtain ⟨e57, _, _⟩ := hg.get rfl
   have e58 : σ' 27 = elp A5 (v26.toNat * 2 + 0) := (List.cons.inj e57).1
   obtain ⟨τ, rfl⟩ := sl_canon (σ := σ') (l := [(27, elp A5 (v26.toNat * 2 + 0))]) ⟨e58, trivial⟩
   have hM := Mem.subR (R := R) hMR
   exact RW.step (Ex.loadEA hM (hle18.trans hle) hF5.rdc [.int .i64 ((ix x1.Dirty v26).Size), .slice A34 n34 c34] ta65 rfl (hF5.ne hg33) rfl (chunk_sub (off := 0) (n := 2) hx35 rfl)) rfl rfl rfl (RW.nil ⟨rfl, rfl, _, rfl, H', [], Hp.le.refl _, hMR, rfl, rfl, trivial⟩)
  ·
   intro H' σ' w R E hle hMR hE0 hE hp hf
   obtain rfl := hE0 rfl
   obtain ⟨_, hg⟩ := hp 4 (by decide) (by kernel_rfl)
   obtain ⟨e59, _, _⟩ := hg.get rfl
   have e60 : σ' 23 = .agg #[.int .i64 ((ix x0.Dirty v26).Size), .slice A31 n31 c31] := (List.cons.inj e59).1
   obtain ⟨_, hg⟩ := hp 9 (by decide) (by kernel_rfl)
   obtain ⟨e61, _, _⟩ := hg.get rfl
   have e62 : σ' 28 = .agg #[.int .i64 ((ix x1.Dirty v26).Size), .slice A34 n34 c34] := (List.cons.inj e61).1
   obtain ⟨τ, rfl⟩ := sl_canon (σ := σ') (l := [(23, .agg #[.int .i64 ((ix x0.Dirty v26).Size), .slice A31 n31 c31]), (28, .agg #[.int .i64 ((ix x1.Dirty v26).Size), .slice A34 n34 c34])]) ⟨e60, e62, trivial⟩
   have hM := Mem.subR (R := R) hMR
   refine RW.callP hMR (bitmap_Or_lift (ix x0.Dirty v26) (ix x1.Dirty v26) (hF31.mono hle) (hF34.mono hle) hW37) en82 rfl rfl rfl rfl ?_; rintro _ w H9 _ hle9 ⟨_, rfl, A38, n38, c38, s38, rfl, hd39, hn40, rfl⟩ hMR
   obtain ⟨H90, hMR, hle90, hF41⟩ := hMR.giveF (α := BitVec 64) 0 rfl hd39 hn40
   exact RW.nil ⟨rfl, rfl, _, rfl, H90, [], (hle9.trans hle90), hMR, A38, n38, c38, s38, rfl, rfl, hF41, trivial⟩
  ·
   intro H' σ' w R E hle hMR hE0 hE hp hf
   obtain rfl := hE0 rfl
   obtain ⟨_, hg⟩ := hp 10 (by decide) (by kernel_rfl)
   obtain ⟨A38, n38, c38, s38, e63, _, hF41, _⟩ := hg.get rfl
   have e64 : σ' 29 = .tuple #[.agg #[.int .i64 v36.1.Size, .slice A38 n38 c38], .int .i64 v36.2] := (List.cons.inj e63).1
   obtain ⟨τ, rfl⟩ := sl_canon (σ := σ') (l := [(29, .tuple #[.agg #[.int .i64 v36.1.Size, .slice A38 n38 c38], .int .i64 v36.2])]) ⟨e64, trivial⟩
   have hM := Mem.subR (R := R) hMR
   exact RW.step (Ex.move (.tuple #[.agg #[.int .i64 v36.1.Size, .slice A38 n38 c38], .int .i64 v36.2]) rfl) rfl rfl rfl (RW.nil ⟨rfl, rfl, _, rfl, H', [], Hp.le.refl _, hMR, A38, n38, c38, s38, rfl, rfl, hF41, trivial⟩)
  ·
   intro H' σ' w R E hle hMR hE0 hE hp hf
   obtain rfl := hE0 rfl
   obtain ⟨_, hg⟩ := hp 11 (by decide) (by kernel_rfl)
   obtain ⟨A38, n38, c38, s38, e65, _, hF41, _⟩ := hg.get rfl
   have e66 : σ' 29 = .tuple #[.agg #[.int .i64 v36.1.Size, .slice A38 n38 c38], .int .i64 v36.2] := (List.cons.inj e65).1
   have e67 : σ' 18 = .tuple #[.agg #[.int .i64 v36.1.Size, .slice A38 n38 c38], .int .i64 v36.2] := (List.cons.inj (List.cons.inj e65).2).1
   obtain ⟨τ, rfl⟩ := sl_canon (σ := σ') (l := [(18, .tuple #[.agg #[.int .i64 v36.1.Size, .slice A38 n38 c38], .int .i64 v36.2])]) ⟨e67, trivial⟩
   have hM := Mem.subR (R := R) hMR
   exact RW.step (Ex.extract rfl rfl) rfl rfl rfl (RW.nil ⟨rfl, rfl, _, rfl, H', [], Hp.le.refl _, hMR, A38, n38, c38, s38, rfl, rfl, hF41, trivial⟩)
  ·
   intro H' σ' w R E hle hMR hE0 hE hp hf
   obtain rfl := hE0 rfl
   obtain ⟨_, hg⟩ := hp 11 (by decide) (by kernel_rfl)
   obtain ⟨A38, n38, c38, s38, e68, _, hF41, _⟩ := hg.get rfl
   have e69 : σ' 29 = .tuple #[.agg #[.int .i64 v36.1.Size, .slice A38 n38 c38], .int .i64 v36.2] := (List.cons.inj e68).1
   have e70 : σ' 18 = .tuple #[.agg #[.int .i64 v36.1.Size, .slice A38 n38 c38], .int .i64 v36.2] := (List.cons.inj (List.cons.inj e68).2).1
   obtain ⟨τ, rfl⟩ := sl_canon (σ := σ') (l := [(18, .tuple #[.agg #[.int .i64 v36.1.Size, .slice A38 n38 c38], .int .i64 v36.2])]) ⟨e70, trivial⟩
   have hM := Mem.subR (R := R) hMR
   exact RW.step (Ex.extract rfl rfl) rfl rfl rfl (RW.nil ⟨rfl, rfl, _, rfl, H', [], Hp.le.refl _, hMR, rfl, rfl, trivial⟩)
  ·
   intro H' σ' w R E hle hMR hE0 hE hp hf
   obtain rfl := hE0 rfl
   obtain ⟨τ, rfl⟩ := sl_canon (σ := σ') (l := []) trivial
   have hM := Mem.subR (R := R) hMR
   refine RW.alloc hMR tz65 [.int .i64 0, .slice none 0 0] rfl rfl rfl ?_; intro b42 w hMR
   exact RW.nil ⟨rfl, rfl, _, rfl, H', [.box b42 65 [.int .i64 0, .slice none 0 0]], Hp.le.refl _, hMR, b42, rfl, rfl, trivial⟩
  ·
   intro H' σ' w R E hle hMR hE0 hE hp hf
   obtain ⟨b42, e71, rfl, _⟩ := (hE 14 rfl).get rfl
   have e72 : σ' 7 = .pointer (some ⟨b42, 0, none⟩) := (List.cons.inj e71).1
   obtain ⟨_, hg⟩ := hp 12 (by decide) (by kernel_rfl)
   obtain ⟨A38, n38, c38, s38, e73, _, hF41, _⟩ := hg.get rfl
   have e74 : σ' 18 = .tuple #[.agg #[.int .i64 v36.1.Size, .slice A38 n38 c38], .int .i64 v36.2] := (List.cons.inj e73).1
   have e75 : σ' 30 = .agg #[.int .i64 v36.1.Size, .slice A38 n38 c38] := (List.cons.inj (List.cons.inj e73).2).1
   obtain ⟨τ, rfl⟩ := sl_canon (σ := σ') (l := [(30, .agg #[.int .i64 v36.1.Size, .slice A38 n38 c38]), (7, .pointer (some ⟨b42, 0, none⟩))]) ⟨e75, e72, trivial⟩
   refine RW.store hMR 0 (.agg #[.int .i64 v36.1.Size, .slice A38 n38 c38]) [.int .i64 v36.1.Size, .slice A38 n38 c38] [.int .i64 v36.1.Size, .slice A38 n38 c38] sz65 rfl rfl rfl (oneAll ⟨rfl, rfl, trivial⟩) rfl (Nat.le_of_ble_eq_true rfl) rfl (.box b42 65 [.int .i64 v36.1.Size, .slice A38 n38 c38] :: (R ++ [.box b7 27 [.int .i64 x0.Site, .slice A1 n1 c1, .slice A2 n2 c2, .slice A3 n3 c3], .box b8 27 [.int .i64 x1.Site, .slice A4 n4 c4, .slice A5 n5 c5, .slice A6 n6 c6], .row (.slice A20 n21 c22) 68 1 n21 s23])) rfl rfl rfl ?_; intro w hMR
   exact RW.nil ⟨rfl, rfl, _, rfl, H', [.box b42 65 [.int .i64 v36.1.Size, .slice A38 n38 c38]], Hp.le.refl _, hMR, A38, n38, c38, s38, b42, rfl, rfl, hF41, trivial⟩
  ·
   intro H' σ' w R E hle hMR hE0 hE hp hf
   obtain rfl := hE0 rfl
   obtain ⟨_, hg⟩ := hp 13 (by decide) (by kernel_rfl)
   obtain ⟨e76, _, _⟩ := hg.get rfl
   have e77 : σ' 31 = .int .i64 v36.2 := (List.cons.inj e76).1
   obtain ⟨τ, rfl⟩ := sl_canon (σ := σ') (l := [(31, .int .i64 v36.2)]) ⟨e77, trivial⟩
   have hM := Mem.subR (R := R) hMR
   exact RW.step (Ex.assign (.int .i64 v36.2) rfl) rfl rfl rfl (RW.nil ⟨rfl, rfl, _, rfl, H', [], Hp.le.refl _, hMR, rfl, rfl, trivial⟩)
  ·
   intro H8 σ' w X miss hms hle8 hM hX hX0 hf
   simp [subs] at hms
   rcases hms with rfl
   ·
    obtain ⟨H78, hH8⟩ : ∃ x, x = H8 := ⟨_, rfl⟩
    subst hH8
    have hle79 := hle8
    obtain ⟨_, g0, y0⟩ := hX 0 (by decide) (by kernel_rfl)
    obtain ⟨_, rfl, _⟩ := g0.get rfl
    replace y0 : X 0 = [] := y0
    obtain ⟨_, g0, y1⟩ := hX 1 (by decide) (by kernel_rfl)
    obtain ⟨_, rfl, _⟩ := g0.get rfl
    replace y1 : X 1 = [] := y1
    obtain ⟨_, g0, y2⟩ := hX 2 (by decide) (by kernel_rfl)
    obtain ⟨_, rfl, _⟩ := g0.get rfl
    replace y2 : X 2 = [] := y2
    obtain ⟨_, g0, y3⟩ := hX 3 (by decide) (by kernel_rfl)
    obtain ⟨_, rfl, _⟩ := g0.get rfl
    replace y3 : X 3 = [] := y3
    obtain ⟨_, g0, y4⟩ := hX 4 (by decide) (by kernel_rfl)
    obtain ⟨_, rfl, _⟩ := g0.get rfl
    replace y4 : X 4 = [] := y4
    obtain ⟨_, g0, y5⟩ := hX 5 (by decide) (by kernel_rfl)
    obtain ⟨_, rfl, _⟩ := g0.get rfl
    replace y5 : X 5 = [] := y5
    obtain ⟨_, g0, y6⟩ := hX 6 (by decide) (by kernel_rfl)
    obtain ⟨_, rfl, _⟩ := g0.get rfl
    replace y6 : X 6 = [] := y6
    obtain ⟨_, g0, y7⟩ := hX 7 (by decide) (by kernel_rfl)
    obtain ⟨_, rfl, _⟩ := g0.get rfl
    replace y7 : X 7 = [] := y7
    obtain ⟨_, g0, y8⟩ := hX 8 (by decide) (by kernel_rfl)
    obtain ⟨_, rfl, _⟩ := g0.get rfl
    replace y8 : X 8 = [] := y8
    obtain ⟨_, g0, y9⟩ := hX 9 (by decide) (by kernel_rfl)
    obtain ⟨_, rfl, _⟩ := g0.get rfl
    replace y9 : X 9 = [] := y9
    obtain ⟨_, g0, y10⟩ := hX 10 (by decide) (by kernel_rfl)
    obtain ⟨A38, n38, c38, s38, e80, rfl, hF41, _⟩ := g0.get rfl
    have e81 : σ' 29 = .tuple #[.agg #[.int .i64 v36.1.Size, .slice A38 n38 c38], .int .i64 v36.2] := (List.cons.inj e80).1
    replace y10 : X 10 = [] := y10
    obtain ⟨_, g0, y11⟩ := hX 11 (by decide) (by kernel_rfl)
    obtain ⟨A38q, n38q, c38q, s38q, e82, rfl, _, _⟩ := g0.get rfl
    have e83 : σ' 29 = .tuple #[.agg #[.int .i64 v36.1.Size, .slice A38q n38q c38q], .int .i64 v36.2] := (List.cons.inj e82).1
    have he_ := e81.symm.trans e83
    have ⟨e84, e85, e86⟩ : A38 = A38q ∧ n38 = n38q ∧ c38 = c38q := by simp at he_; simp [he_]
    subst e84
    subst e85
    subst e86
    have e87 : σ' 18 = .tuple #[.agg #[.int .i64 v36.1.Size, .slice A38 n38 c38], .int .i64 v36.2] := (List.cons.inj (List.cons.inj e82).2).1
    replace y11 : X 11 = [] := y11
    obtain ⟨_, g0, y12⟩ := hX 12 (by decide) (by kernel_rfl)
    obtain ⟨A38q, n38q, c38q, s38q, e88, rfl, _, _⟩ := g0.get rfl
    have e89 : σ' 18 = .tuple #[.agg #[.int .i64 v36.1.Size, .slice A38q n38q c38q], .int .i64 v36.2] := (List.cons.inj e88).1
    have he_ := e87.symm.trans e89
    have ⟨e90, e91, e92⟩ : A38 = A38q ∧ n38 = n38q ∧ c38 = c38q := by simp at he_; simp [he_]
    subst e90
    subst e91
    subst e92
    have e93 : σ' 30 = .agg #[.int .i64 v36.1.Size, .slice A38 n38 c38] := (List.cons.inj (List.cons.inj e88).2).1
    replace y12 : X 12 = [] := y12
    obtain ⟨_, g0, y13⟩ := hX 13 (by decide) (by kernel_rfl)
    obtain ⟨_, rfl, _⟩ := g0.get rfl
    replace y13 : X 13 = [] := y13
    obtain ⟨_, g0, y14⟩ := hX 14 (by decide) (by kernel_rfl)
    obtain ⟨_, _, rfl, _⟩ := g0.get rfl
    replace y14 : X 14 = [] := y14
    obtain ⟨_, g0, y15⟩ := hX 15 (by decide) (by kernel_rfl)
    obtain ⟨A38q, n38q, c38q, s38q, b42, e94, rfl, _, _⟩ := g0.get rfl
    have e95 : σ' 30 = .agg #[.int .i64 v36.1.Size, .slice A38q n38q c38q] := (List.cons.inj e94).1
    have he_ := e93.symm.trans e95
    have ⟨e96, e97, e98⟩ : A38 = A38q ∧ n38 = n38q ∧ c38 = c38q := by simp at he_; simp [he_]
    subst e96
    subst e97
    subst e98
    have e99 : σ' 7 = .pointer (some ⟨b42, 0, none⟩) := (List.cons.inj (List.cons.inj e94).2).1
    replace y15 : X 15 = [.box b42 65 [.int .i64 v36.1.Size, .slice A38 n38 c38]] := y15
    obtain ⟨_, g0, y16⟩ := hX 16 (by decide) (by kernel_rfl)
    obtain ⟨_, rfl, _⟩ := g0.get rfl
    replace y16 : X 16 = [] := y16
    have hfl : flatX X 17 = [.box b42 65 [.int .i64 v36.1.Size, .slice A38 n38 c38]] := by
     show X 0 ++ (X 1 ++ (X 2 ++ (X 3 ++ (X 4 ++ (X 5 ++ (X 6 ++ (X 7 ++ (X 8 ++ (X 9 ++ (X 10 ++ (X 11 ++ (X 12 ++ (X 13 ++ (X 14 ++ (X 15 ++ (X 16 ++ [])))))))))))))))) = _
     rw [y0, y1, y2, y3, y4, y5, y6, y7, y8, y9, y10, y11, y12, y13, y14, y15, y16]; rfl
    rw [hfl] at hM
    obtain ⟨τ, rfl⟩ := sl_canon (σ := σ') (l := [(2, .pointer (some ⟨b7, 0, none⟩)), (3, .pointer (some ⟨b8, 0, none⟩)), (5, .slice A20 n21 c22), (6, .int .i64 v26), (7, .pointer (some ⟨b42, 0, none⟩)), (14, .int .i64 (((List.replicate (x0.Dirty.length : Int).toNat ([] : List api_Extent)).length : Int))), (15, .int .i64 v26)]) ⟨(hf 2 (by kernel_rfl)).trans rfl, (hf 3 (by kernel_rfl)).trans rfl, (hf 5 (by kernel_rfl)).trans rfl, (hf 6 (by kernel_rfl)).trans rfl, e99, (hf 14 (by kernel_rfl)).trans rfl, (hf 15 (by kernel_rfl)).trans rfl, trivial⟩
    replace hM : Mem w0 H w H78 [.box b42 65 [.int .i64 v36.1.Size, .slice A38 n38 c38], .box b7 27 [.int .i64 x0.Site, .slice A1 n1 c1, .slice A2 n2 c2, .slice A3 n3 c3], .box b8 27 [.int .i64 x1.Site, .slice A4 n4 c4, .slice A5 n5 c5, .slice A6 n6 c6], .row (.slice A20 n21 c22) 68 1 n21 s23] := hM
    change RA _ _ _ _ _ _ _ (sl [(2, .pointer (some ⟨b7, 0, none⟩)), (3, .pointer (some ⟨b8, 0, none⟩)), (5, .slice A20 n21 c22), (6, .int .i64 v26), (7, .pointer (some ⟨b42, 0, none⟩)), (14, .int .i64 (((List.replicate (x0.Dirty.length : Int).toNat ([] : List api_Extent)).length : Int))), (15, .int .i64 v26)] τ) _ 17 _
    refine RA.done (by kernel_rfl) ?_
    refine CW.region <| RW.st (Ex.move (.slice A20 n21 c22) rfl) rfl <| RW.st (Ex.move (.int .i64 v26) rfl) rfl <| RW.st (Ex.loadA hM 0 [.int .i64 v36.1.Size, .slice A38 n38 c38] ta65 rfl rfl rfl rfl) rfl ?_
    refine RW.callP hM (bitmap_Extents_lift (hT.mono (hle18.trans hle79)) v36.1 hF41 hm) en44 rfl rfl rfl rfl ?_; rintro _ w H101 _ hle102 ⟨v100, hm, A103, n103, c103, s103, rfl, hF103, rfl⟩ hM
    replace hM : Mem w0 H w H101 [.box b42 65 [.int .i64 v36.1.Size, .slice A38 n38 c38], .box b7 27 [.int .i64 x0.Site, .slice A1 n1 c1, .slice A2 n2 c2, .slice A3 n3 c3], .box b8 27 [.int .i64 x1.Site, .slice A4 n4 c4, .slice A5 n5 c5, .slice A6 n6 c6], .row (.slice A20 n21 c22) 68 1 n21 s23] := hM
    obtain ⟨hg104, hm⟩ := hm
    refine RW.st (Ex.index st30 rfl rfl v26.toNat (hM.rowNeD (α := List api_Extent) (p := 3) rfl hn25 hg104) hg104.nat (Nat.lt_of_lt_of_eq hg104.lt (hn25).symm)) rfl ?_
    refine RW.storeD (α := List api_Extent) (off := 0) (x' := v100) hM 3 (hd24.mono (hle79.trans hle102)) (.slice A103 n103 c103) [.slice A103 n103 c103] sz68 rfl hn25 hg104 (Nat.le_of_ble_eq_true rfl) rfl rfl (oneAll ⟨rfl, trivial⟩) rfl (fun ch h => rdWhole h ⟨_, _, _, _, rfl, hF103⟩) rfl rfl ?_
    intro s106 w hd107 hM
    replace hM : Mem w0 H w H101 [.box b42 65 [.int .i64 v36.1.Size, .slice A38 n38 c38], .box b7 27 [.int .i64 x0.Site, .slice A1 n1 c1, .slice A2 n2 c2, .slice A3 n3 c3], .box b8 27 [.int .i64 x1.Site, .slice A4 n4 c4, .slice A5 n5 c5, .slice A6 n6 c6], .row (.slice A20 n21 c22) 68 1 n21 s106] := hM
    refine RW.nil <| CW.region ?_
    obtain ⟨hg108, hm⟩ := hm
    refine RW.st (Ex.add rfl rfl hg108.1 hg108.2) rfl <| RW.st (Ex.move (.int .i64 (v26 + 1)) rfl) rfl <| RW.nil ?_
    exact And.intro rfl ⟨k27, ⟨(put v19 v26 v100), A20, n21, c22, s106, v26 + 1, H101, hle18.trans (hle79.trans hle102), sl_canon ⟨rfl, rfl, rfl, rfl, rfl, trivial⟩, (hM.pick [1, 2, 3] rfl rfl), hd107, (hn25).trans (put_len _ _ _).symm, (by rw [hrec28]; exact hm)⟩, Nat.lt_succ_self _⟩
 ·
  replace hm := And.right hm hc29
  refine CW.exit ?_
  refine CW.seq <| CW.region <| RW.st (Ex.move (.slice A20 n21 c22) rfl) rfl <| RW.st (Ex.assign (.slice A20 n21 c22) rfl) rfl <| RW.nil <| CW.ret ?_
  refine end_tmp (.inl rfl) rfl (.slice A20 n21 c22) rfl ?_
  exact ⟨_, _, (hM.pick [2] rfl rfl), v19, hm, A20, n21, c22, s23, rfl, hd24, hn25, rfl⟩
theorem image_New_lift {H : Hp} (x0 : List Int) {A1 : Option Addr} {n1 c1 : Nat} {s1 : List Value} (hF1 : Fz (α := Int) H A1 n1 c1 x0 s1) {Φ : List (List Sec) × Int → Prop} (hm : image_New_W x0 Φ) : RetP Tryd.prog 102 #[.slice A1 n1 c1] H (fun H' v L => ∃ y, Φ y ∧ ∃ A19, ∃ n19, ∃ c19, ∃ s19, v = .tuple #[.slice A19 n19 c19, .int .i64 (y.2)] ∧ Fz (α := List Sec) H' A19 n19 c19 y.1 s19 ∧ L = []) := by
 refine RetP.of_code Tryd.func102 rfl (Nat.le_of_ble_eq_true rfl) fun w0 hM => ?_
 refine CW.seq <| CW.region <| RW.st (Ex.assign (.slice none 0 0) rfl) rfl <| RW.st (Ex.assign (.int .i64 0) rfl) rfl <| RW.nil <| CW.seq <| CW.seq <| CW.region <| RW.st (Ex.move (.slice A1 n1 c1) rfl) rfl ?_
 refine RW.callP hM (image_checkSizes_lift x0 hF1 hm) en110 rfl rfl rfl rfl ?_; rintro _ w H3 _ hle4 ⟨v2, hm, rfl, rfl⟩ hM
 replace hM : Mem w0 H w H3 [] := hM
 refine RW.st (Ex.assign (.int .i64 v2) rfl) rfl <| RW.nil <| CW.seq <| CW.region <| RW.st (Ex.move (.int .i64 v2) rfl) rfl <| RW.st (Ex.neq rfl rfl) rfl <| RW.nil ?_
 refine CW.cond_dec (p := v2 ≠ 0) rfl (fun hc5 => ?_) (fun hc5 => ?_)
 ·
  replace hm := And.left hm hc5
  refine CW.seq <| CW.region <| RW.st (Ex.move (.int .i64 v2) rfl) rfl <| RW.st (Ex.assign (.slice none 0 0) rfl) rfl <| RW.st (Ex.assign (.int .i64 v2) rfl) rfl <| RW.nil <| CW.ret ?_
  refine thenQ_ret ?_
  refine end_tmp2 (.inl rfl) rfl (.slice none 0 0) (.int .i64 v2) rfl rfl ?_
  exact ⟨_, _, hM, (([] : List (List Sec)), v2), hm, none, 0, 0, [], rfl, Fz.nil, rfl⟩
 ·
  replace hm := And.right hm hc5
  refine CW.skip <| CW.seq <| CW.region <| RW.st (Ex.move (.slice A1 n1 c1) rfl) rfl ?_
  refine RW.callP hM (image_mapped_int_api_Sector__image_New_1_lift x0 (hF1.mono hle4) hm) en138 rfl rfl rfl rfl ?_; rintro _ w H7 _ hle8 ⟨v6, hm, A9, n9, c9, s9, rs10, rfl, hd11, hn12, rfl⟩ hM
  replace hM := Mem.toTail (a := [.row (.slice A9 n9 c9) 61 1 n9 s9]) (b := rs10) (c := []) hM
  replace hM : Mem w0 H w H7 (.row (.slice A9 n9 c9) 61 1 n9 s9 :: rs10) := hM
  refine RW.st (Ex.assign (.slice A9 n9 c9) rfl) rfl <| RW.st (Ex.assign (.int .i64 0) rfl) rfl <| RW.nil <| CW.ret ?_
  obtain ⟨H13, hM, hle14, hd15⟩ := DeepL.flat (es := [.row (.slice A9 n9 c9) 61 1 n9 s9]) hM hd11
  replace hM : Mem w0 H w H13 [.row (.slice A9 n9 c9) 61 1 n9 s9] := hM
  obtain ⟨H16, hM, hle17, hF18⟩ := hM.giveF (α := List Sec) 0 rfl hd15 hn12
  replace hM : Mem w0 H w H16 [] := hM
  refine end_tmp2 (.inl rfl) rfl (.slice A9 n9 c9) (.int .i64 0) rfl rfl ?_
  exact ⟨_, _, hM, (v6, 0), hm, A9, n9, c9, s9, rfl, hF18, rfl⟩
theorem cycle_positions_lift {H : Hp} (x0 : List Int) (x1 : Int) {A1 : Option Addr} {n1 c1 : Nat} {s1 : List Value} (hF1 : Fz (α := Int) H A1 n1 c1 x0 s1) {Φ : Int → Prop} (hm : cycle_positions_W x0 x1 Φ) : RetP Tryd.prog 104 #[.slice A1 n1 c1, .int .i64 x1] H (fun _ v L => ∃ y, Φ y ∧ v = .int .i64 (y) ∧ L = []) := by
 refine RetP.of_code Tryd.func104 rfl (Nat.le_of_ble_eq_true rfl) fun w0 hM => ?_
 refine CW.seq <| CW.region <| RW.st (Ex.assign (.int .i64 0) rfl) rfl <| RW.nil <| CW.seq <| CW.seq <| CW.region <| RW.st (Ex.move (.slice A1 n1 c1) rfl) rfl <| RW.st (Ex.lenN st40.1 rfl hF1.hn) rfl <| RW.st (Ex.move (.int .i64 x1) rfl) rfl ?_
 refine RW.callP hM (cycle_in_lift (x0.length : Int) x1 8 hm) en103 rfl rfl rfl rfl ?_; rintro _ w H3 _ hle4 ⟨v2, hm, rfl, rfl⟩ hM
 replace hM : Mem w0 H w H3 [] := hM
 refine RW.st (Ex.not (p := v2 = true) (bvar _)) rfl <| RW.nil ?_
 refine CW.cond_dec (p := ¬ (v2 = true)) rfl (fun hc5 => ?_) (fun hc5 => ?_)
 ·
  replace hm := And.left hm hc5
  refine CW.seq <| CW.region <| RW.st (Ex.assign (.int .i64 6) rfl) rfl <| RW.nil <| CW.ret ?_
  refine thenQ_ret ?_
  refine end_tmp (.inl rfl) rfl (.int .i64 6) rfl ?_
  exact ⟨_, _, hM, 6, hm, rfl, rfl⟩
 ·
  replace hm := And.right hm hc5
  refine CW.skip <| CW.seq <| CW.seq <| CW.region <| RW.st (Ex.move (.slice A1 n1 c1) rfl) rfl ?_
  refine RW.callP hM (slices_ContainsFunc_int_int__cycle_positions_1_lift x0 (hF1.mono hle4) hm) en140 rfl rfl rfl rfl ?_; rintro _ w H7 _ hle8 ⟨v6, hm, rfl, rfl⟩ hM
  replace hM : Mem w0 H w H7 [] := hM
  refine RW.nil ?_
  refine CW.cond_b rfl (fun hc9 => ?_) (fun hc9 => ?_)
  ·
   replace hm := And.left hm hc9
   refine CW.seq <| CW.region <| RW.st (Ex.assign (.int .i64 2) rfl) rfl <| RW.nil <| CW.ret ?_
   refine thenQ_ret ?_
   refine end_tmp (.inl rfl) rfl (.int .i64 2) rfl ?_
   exact ⟨_, _, hM, 2, hm, rfl, rfl⟩
  ·
   replace hm := And.right hm hc9
   refine CW.skip <| CW.seq <| CW.region <| RW.st (Ex.assign (.int .i64 0) rfl) rfl <| RW.nil <| CW.ret ?_
   refine end_tmp (.inl rfl) rfl (.int .i64 0) rfl ?_
   exact ⟨_, _, hM, 0, hm, rfl, rfl⟩
end Go.Proofs.YtahlanamngfkcaaDoor
