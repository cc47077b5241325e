/- Part 3 of the proof of the statement ReverseSettlesCardSaid: lemmas. No condition of its own. -/
import Derived.Test.YtahlanamngfkcaaDoorM2
namespace Go.Proofs.YtahlanamngfkcaaDoor
open Go.RowKit
theorem law47_one_lift {H : Hp} (x0 : Int) (x1 : BitVec 8) {Φ : api_Write → Prop} (hm : law47_one_W x0 x1 Φ) : RetP Tryd.prog 39 #[.int .i64 x0, u8 (x1)] H (fun H' v L => ∃ y, Φ y ∧ ∃ A4, ∃ n4, ∃ c4, ∃ s4, v = .agg #[.int .i64 (y.Volume), .int .i64 (y.Start), .slice A4 n4 c4] ∧ DtL (α := Sec) H' s4 y.Data ∧ n4 = y.Data.length ∧ L = [.row (.slice A4 n4 c4) 71 8 n4 s4]) := by
 refine RetP.of_code Tryd.func39 rfl (Nat.le_of_ble_eq_true rfl) fun w0 hM => ?_
 refine CW.seq <| CW.region ?_
 refine RW.alloc hM tz100 [.int .i64 0, .int .i64 0, .slice none 0 0] rfl rfl rfl ?_; intro b1 w hM
 replace hM : Mem w0 H w H [.box b1 100 [.int .i64 0, .int .i64 0, .slice none 0 0]] := hM
 refine RW.nil <| CW.seq <| CW.region <| RW.st (Ex.move (.int .i64 x0) rfl) rfl <| RW.st (Ex.move (u8 (x1)) rfl) rfl <| RW.st (Ex.buildA ba71 [(0, u8 (x1))] [u8 (x1), .int .u8 (0), .int .u8 (0), .int .u8 (0), .int .u8 (0), .int .u8 (0), .int .u8 (0), .int .u8 (0)] rfl rfl) rfl ?_
 refine RW.buildSlice hM st61 tz71 [(0, .agg #[u8 (x1), .int .u8 (0), .int .u8 (0), .int .u8 (0), .int .u8 (0), .int .u8 (0), .int .u8 (0), .int .u8 (0)])] [u8 (x1), .int .u8 (0), .int .u8 (0), .int .u8 (0), .int .u8 (0), .int .u8 (0), .int .u8 (0), .int .u8 (0)] (by decide) rfl rfl rfl (by decide) rfl rfl ?_; intro b2 w hM
 have hd3 : DtL H [u8 (x1), .int .u8 (0), .int .u8 (0), .int .u8 (0), .int .u8 (0), .int .u8 (0), .int .u8 (0), .int .u8 (0)] ([(Sec.mk x1 (0#8) (0#8) (0#8) (0#8) (0#8) (0#8) (0#8))] : List Sec) := (DtL.cons (c1 := [u8 (x1), .int .u8 (0), .int .u8 (0), .int .u8 (0), .int .u8 (0), .int .u8 (0), .int .u8 (0), .int .u8 (0)]) rfl DtL.nil)
 replace hM : Mem w0 H w H [.row (.slice (some ⟨b2, 0, none⟩) 1 1) 71 8 1 [u8 (x1), .int .u8 (0), .int .u8 (0), .int .u8 (0), .int .u8 (0), .int .u8 (0), .int .u8 (0), .int .u8 (0)], .box b1 100 [.int .i64 0, .int .i64 0, .slice none 0 0]] := hM
 refine RW.st (Ex.build bs100 [(1, .int .i64 x0), (2, .slice (some ⟨b2, 0, none⟩) 1 1)] [.int .i64 0, .int .i64 x0, .slice (some ⟨b2, 0, none⟩) 1 1] rfl rfl) rfl ?_
 refine RW.store hM 1 (.agg #[.int .i64 0, .int .i64 x0, .slice (some ⟨b2, 0, none⟩) 1 1]) [.int .i64 0, .int .i64 x0, .slice (some ⟨b2, 0, none⟩) 1 1] [.int .i64 0, .int .i64 x0, .slice (some ⟨b2, 0, none⟩) 1 1] sz100 rfl rfl rfl (oneAll ⟨rfl, rfl, rfl, trivial⟩) rfl (Nat.le_of_ble_eq_true rfl) rfl [.row (.slice (some ⟨b2, 0, none⟩) 1 1) 71 8 1 [u8 (x1), .int .u8 (0), .int .u8 (0), .int .u8 (0), .int .u8 (0), .int .u8 (0), .int .u8 (0), .int .u8 (0)], .box b1 100 [.int .i64 0, .int .i64 x0, .slice (some ⟨b2, 0, none⟩) 1 1]] rfl rfl rfl ?_; intro w hM
 refine RW.nil <| CW.ret ?_
 refine end_cell (k := 1) (.inl rfl) rfl hM rfl ta100 [.int .i64 0, .int .i64 x0, .slice (some ⟨b2, 0, none⟩) 1 1] rfl rfl ?_
 exact ⟨_, _, (hM.pick [0] rfl rfl), (api_Write.mk 0 x0 ([(Sec.mk x1 (0#8) (0#8) (0#8) (0#8) (0#8) (0#8) (0#8))] : List Sec)), hm, (some ⟨b2, 0, none⟩), 1, 1, [u8 (x1), .int .u8 (0), .int .u8 (0), .int .u8 (0), .int .u8 (0), .int .u8 (0), .int .u8 (0), .int .u8 (0)], rfl, hd3, rfl, rfl⟩
theorem ref07_SizesOf_lift {H : Hp} (x0 : List (List Sec)) {A1 : Option Addr} {n1 c1 : Nat} {s1 : List Value} (hF1 : Fz (α := List Sec) H A1 n1 c1 x0 s1) {Φ : List Int → Prop} (hm : ref07_SizesOf_W x0 Φ) : RetP Tryd.prog 57 #[.slice A1 n1 c1] H (fun H' v L => ∃ y, Φ y ∧ ∃ A29, ∃ n29, ∃ c29, ∃ s29, v = .slice A29 n29 c29 ∧ DtL (α := Int) H' s29 y ∧ n29 = y.length ∧ L = [.row (.slice A29 n29 c29) 3 1 n29 s29]) := by
 refine RetP.of_code Tryd.func57 rfl (Nat.le_of_ble_eq_true rfl) fun w0 hM => ?_
 refine CW.seq <| CW.region <| RW.st (Ex.assign (.slice none 0 0) rfl) rfl <| RW.nil <| CW.seq <| CW.region <| RW.st (Ex.assign (.slice none 0 0) rfl) rfl <| RW.nil <| CW.seq <| CW.seq <| CW.region <| RW.st (Ex.assign (.int .i64 0) rfl) rfl <| RW.nil <| CW.block ?_
 obtain ⟨m28, hm⟩ := hm
 skip
 replace hM := hM.nilRow 3 1
 refine CW.loop (β := Nat) (fun n σ w => ∃ (v4 : List Int), ∃ (A5 : Option Addr), ∃ (n6 : Nat), ∃ (c7 : Nat), ∃ (s8 : List Value), ∃ (v11 : Int), ∃ Hk2, H.le Hk2 ∧ (∃ τ, σ = sl [(0, .slice A1 n1 c1), (3, .slice A5 n6 c7), (4, .int .i64 v11)] τ) ∧ Mem w0 H w Hk2 [.row (.slice A5 n6 c7) 3 1 n6 s8] ∧ (DtL (α := Int) Hk2 s8 v4) ∧ (n6 = v4.length) ∧ LoopN (ref07_SizesOf_L1 x0 Φ) n (v4, v11)) (fun n => n) m28 ⟨([] : List Int), none, 0, 0, [], 0, H, (Hp.le.refl _), sl_canon ⟨rfl, rfl, rfl, trivial⟩, hM, (DtL.nil : DtL _ [] ([] : List Int)), rfl, hm⟩ ?_
 rintro k12 _ w ⟨v4, A5, n6, c7, s8, v11, Hk2, hle3, ⟨τ, rfl⟩, hM, hd9, hn10, hm⟩
 obtain _ | k12 := k12
 · exact hm.elim
 replace hm : (ref07_SizesOf_L1 x0 Φ) (v4, v11) (LoopN (ref07_SizesOf_L1 x0 Φ) k12) := hm
 generalize hrec13 : LoopN (ref07_SizesOf_L1 x0 Φ) k12 = rec1 at hm
 refine CW.seq <| CW.seq <| CW.region <| RW.st (Ex.move (.int .i64 v11) rfl) rfl <| RW.st (Ex.move (.slice A1 n1 c1) rfl) rfl <| RW.st (Ex.lenN st25.1 rfl hF1.hn) rfl <| RW.st (Ex.lss rfl rfl) rfl <| RW.nil ?_
 refine CW.cond_dec (p := v11 < (x0.length : Int)) rfl (fun hc14 => ?_) (fun hc14 => ?_)
 ·
  replace hm := And.left hm hc14
  refine CW.skip <| CW.seq <| CW.block <| CW.region <| RW.st (Ex.move (.slice A5 n6 c7) rfl) rfl <| RW.st (Ex.move (.slice A1 n1 c1) rfl) rfl <| RW.st (Ex.move (.int .i64 v11) rfl) rfl ?_
  obtain ⟨hg15, hm⟩ := hm
  refine RW.st (Ex.index st25 rfl rfl v11.toNat (hF1.ne hg15) hg15.nat (hF1.lt hg15)) rfl ?_
  obtain ⟨_, ⟨A16, n16, c16, s16, rfl, hF16⟩, hx17⟩ := DtL.getI (α := List Sec) (hF1.mono hle3).dat hg15
  refine RW.st (Ex.loadE hM hle3 hF1.rdc to61 rfl (hx17 0 _ rfl)) rfl <| RW.st (Ex.lenN st61.1 rfl hF16.hn) rfl ?_
  refine RW.buildSlice hM st40 tz3 [(0, .int .i64 (((ix x0 v11).length : Int)))] [.int .i64 (((ix x0 v11).length : Int))] (by decide) rfl rfl rfl (by decide) rfl rfl ?_; intro b18 w hM
  have hd19 : DtL Hk2 [.int .i64 (((ix x0 v11).length : Int))] ([((ix x0 v11).length : Int)] : List Int) := (DtL.cons (c1 := [.int .i64 (((ix x0 v11).length : Int))]) rfl DtL.nil)
  replace hM : Mem w0 H w Hk2 [.row (.slice (some ⟨b18, 0, none⟩) 1 1) 3 1 1 [.int .i64 (((ix x0 v11).length : Int))], .row (.slice A5 n6 c7) 3 1 n6 s8] := hM
  obtain ⟨hg26, hm⟩ := hm
  refine RW.appendD (α := Int) (xs := v4) (ys := ([((ix x0 v11).length : Int)] : List Int)) hM 1 st40 rfl rfl hd9 hn10 rfl (fun j u hj => hM.rowCell (k := 0) rfl rfl hj) hd19 rfl hg26 rfl rfl ?_; intro A20 n21 c22 s23 w hd24 hn25 hM
  replace hM : Mem w0 H w Hk2 [.row (.slice (some ⟨b18, 0, none⟩) 1 1) 3 1 1 [.int .i64 (((ix x0 v11).length : Int))], .row (.slice A20 n21 c22) 3 1 n21 s23] := hM
  refine RW.st (Ex.assign (.slice A20 n21 c22) rfl) rfl <| RW.nil <| CW.region <| RW.st (Ex.move (.int .i64 v11) rfl) rfl ?_
  obtain ⟨hg27, hm⟩ := hm
  refine RW.st (Ex.add rfl rfl hg27.1 hg27.2) rfl <| RW.st (Ex.assign (.int .i64 (v11 + 1)) rfl) rfl <| RW.nil ?_
  exact And.intro rfl ⟨k12, ⟨(v4 ++ ([((ix x0 v11).length : Int)] : List Int)), A20, n21, c22, s23, v11 + 1, Hk2, hle3.trans (Hp.le.refl _), sl_canon ⟨rfl, rfl, rfl, trivial⟩, (hM.pick [1] rfl rfl), hd24, hn25, (by rw [hrec13]; exact hm)⟩, Nat.lt_succ_self _⟩
 ·
  replace hm := And.right hm hc14
  refine CW.exit ?_
  refine CW.seq <| CW.region <| RW.st (Ex.move (.slice A5 n6 c7) rfl) rfl <| RW.st (Ex.assign (.slice A5 n6 c7) rfl) rfl <| RW.nil <| CW.ret ?_
  refine end_tmp (.inl rfl) rfl (.slice A5 n6 c7) rfl ?_
  exact ⟨_, _, hM, v4, hm, A5, n6, c7, s8, rfl, hd9, hn10, rfl⟩
theorem ref07_Sizes_lift {H : Hp} (x0 : List Int) {A1 : Option Addr} {n1 c1 : Nat} {s1 : List Value} (hF1 : Fz (α := Int) H A1 n1 c1 x0 s1) {Φ : Int → Prop} (hm : ref07_Sizes_W x0 Φ) : RetP Tryd.prog 73 #[.slice A1 n1 c1] H (fun _ v L => ∃ y, Φ y ∧ v = .int .i64 (y) ∧ L = []) := by
 refine RetP.of_code Tryd.func73 rfl (Nat.le_of_ble_eq_true rfl) fun w0 hM => ?_
 refine CW.seq <| CW.region <| RW.st (Ex.assign (.int .i64 0) rfl) rfl <| RW.nil <| CW.seq ?_
 skip
 refine CW.cut (fun D σ w => D = [] ∧ (∃ τ, σ = sl [(0, .slice A1 n1 c1), (11, .bool (decide (((x0.length : Int) < 1) ∨ (8 < (x0.length : Int)))))] τ) ∧ Mem w0 H w H []) ?_ ?_
 ·
  skip
  refine CW.region <| RW.st (Ex.move (.slice A1 n1 c1) rfl) rfl <| RW.st (Ex.lenN st40.1 rfl hF1.hn) rfl <| RW.st (Ex.lss rfl rfl) rfl <| RW.st (Ex.move (.bool (decide ((x0.length : Int) < 1))) rfl) rfl ?_
  refine RW.split 7 (p := (x0.length : Int) < 1) rfl (fun hc2 => ?_) (fun hc2 => ?_)
  ·
   skip
   refine RW.pass rfl rfl <| RW.pass rfl rfl <| RW.pass rfl rfl <| RW.st (Ex.pickT (.bool true) rfl rfl) rfl <| RW.nil ?_
   exact And.intro rfl (And.intro (sl_canon ⟨rfl, (congrArg Value.bool (decide_eq_true (.inl hc2)).symm), trivial⟩) hM)
  ·
   skip
   refine RW.st (Ex.move (.slice A1 n1 c1) rfl) rfl <| RW.st (Ex.lenN st40.1 rfl hF1.hn) rfl <| RW.st (Ex.gtr rfl rfl) rfl <| RW.st (Ex.pickF (.bool (decide (8 < (x0.length : Int)))) rfl rfl) rfl <| RW.nil ?_
   exact And.intro rfl (And.intro (sl_canon ⟨rfl, (congrArg Value.bool (decide_eq_decide.2 (imOr hc2 Iff.rfl))), trivial⟩) hM)
 rintro _ _ w ⟨rfl, ⟨τ, rfl⟩, hM⟩
 refine CW.cond_dec (p := ((x0.length : Int) < 1) ∨ (8 < (x0.length : Int))) rfl (fun hc3 => ?_) (fun hc3 => ?_)
 ·
  replace hm := And.left hm hc3
  refine CW.seq <| CW.region <| RW.st (Ex.assign (.int .i64 6) rfl) rfl <| RW.nil <| CW.ret ?_
  refine thenQ_ret ?_
  refine end_tmp (.inl rfl) rfl (.int .i64 6) rfl ?_
  exact ⟨_, _, hM, 6, hm, rfl, rfl⟩
 ·
  replace hm := And.right hm hc3
  refine CW.skip <| CW.seq <| CW.seq <| CW.region <| RW.st (Ex.assign (.int .i64 0) rfl) rfl <| RW.nil <| CW.block ?_
  obtain ⟨m16, hm⟩ := hm
  skip
  refine CW.loop (β := Nat) (fun n σ w => ∃ (v6 : Int), ∃ Hk4, H.le Hk4 ∧ (∃ τ, σ = sl [(0, .slice A1 n1 c1), (3, .int .i64 v6)] τ) ∧ Mem w0 H w Hk4 [] ∧ LoopN (ref07_Sizes_L1 x0 Φ) n (v6)) (fun n => n) m16 ⟨0, H, (Hp.le.refl _), sl_canon ⟨rfl, rfl, trivial⟩, hM, hm⟩ ?_
  rintro k7 _ w ⟨v6, Hk4, hle5, ⟨τ, rfl⟩, hM, hm⟩
  obtain _ | k7 := k7
  · exact hm.elim
  replace hm : (ref07_Sizes_L1 x0 Φ) (v6) (LoopN (ref07_Sizes_L1 x0 Φ) k7) := hm
  generalize hrec8 : LoopN (ref07_Sizes_L1 x0 Φ) k7 = rec1 at hm
  refine CW.seq <| CW.seq <| CW.region <| RW.st (Ex.move (.int .i64 v6) rfl) rfl <| RW.st (Ex.move (.slice A1 n1 c1) rfl) rfl <| RW.st (Ex.lenN st40.1 rfl hF1.hn) rfl <| RW.st (Ex.lss rfl rfl) rfl <| RW.nil ?_
  refine CW.cond_dec (p := v6 < (x0.length : Int)) rfl (fun hc9 => ?_) (fun hc9 => ?_)
  ·
   replace hm := And.left hm hc9
   refine CW.skip <| CW.seq <| CW.block ?_
   obtain ⟨hG15, hm⟩ := hm
   refine CW.cut (fun D σ w => D = [] ∧ (∃ τ, σ = sl [(0, .slice A1 n1 c1), (3, .int .i64 v6), (29, .bool (decide (((ix x0 v6) < 1) ∨ (4096 < (ix x0 v6)))))] τ) ∧ Mem w0 H w Hk4 []) ?_ ?_
   ·
    replace hm := hG15
    refine CW.region <| RW.st (Ex.move (.slice A1 n1 c1) rfl) rfl <| RW.st (Ex.move (.int .i64 v6) rfl) rfl ?_
    have hg10 := hm
    refine RW.st (Ex.index st40 rfl rfl v6.toNat (hF1.ne hg10) hg10.nat (hF1.lt hg10)) rfl ?_
    obtain ⟨_, rfl, hx11⟩ := DtL.getI (α := Int) (hF1.mono hle5).dat hg10
    refine RW.st (Ex.loadE hM hle5 hF1.rdc to3 rfl (hx11 0 _ rfl)) rfl <| RW.st (Ex.lss rfl rfl) rfl <| RW.st (Ex.move (.bool (decide ((ix x0 v6) < 1))) rfl) rfl ?_
    refine RW.split 23 (p := (ix x0 v6) < 1) rfl (fun hc12 => ?_) (fun hc12 => ?_)
    ·
     skip
     refine RW.pass rfl rfl <| RW.pass rfl rfl <| RW.pass rfl rfl <| RW.pass rfl rfl <| RW.pass rfl rfl <| RW.st (Ex.pickT (.bool true) rfl rfl) rfl <| RW.nil ?_
     exact And.intro rfl (And.intro (sl_canon ⟨rfl, rfl, (congrArg Value.bool (decide_eq_true (.inl hc12)).symm), trivial⟩) hM)
    ·
     skip
     refine RW.st (Ex.move (.slice A1 n1 c1) rfl) rfl <| RW.st (Ex.move (.int .i64 v6) rfl) rfl <| RW.st (Ex.index st40 rfl rfl v6.toNat (hF1.ne hg10) hg10.nat (hF1.lt hg10)) rfl <| RW.st (Ex.loadE hM hle5 hF1.rdc to3 rfl (hx11 0 _ rfl)) rfl <| RW.st (Ex.gtr rfl rfl) rfl <| RW.st (Ex.pickF (.bool (decide (4096 < (ix x0 v6)))) rfl rfl) rfl <| RW.nil ?_
     exact And.intro rfl (And.intro (sl_canon ⟨rfl, rfl, (congrArg Value.bool (decide_eq_decide.2 (imOr hc12 Iff.rfl))), trivial⟩) hM)
   rintro _ _ w ⟨rfl, ⟨τ, rfl⟩, hM⟩
   refine CW.cond_dec (p := ((ix x0 v6) < 1) ∨ (4096 < (ix x0 v6))) rfl (fun hc13 => ?_) (fun hc13 => ?_)
   ·
    replace hm := And.left hm hc13
    refine CW.seq <| CW.region <| RW.st (Ex.assign (.int .i64 2) rfl) rfl <| RW.nil <| CW.ret ?_
    refine blockQ_ret (thenQ_ret (thenQ_ret (blockQ_ret (thenQ_ret ?_))))
    refine end_tmp (.inl rfl) rfl (.int .i64 2) rfl ?_
    exact ⟨_, _, hM, 2, hm, rfl, rfl⟩
   ·
    replace hm := And.right hm hc13
    refine CW.skip <| CW.region <| RW.st (Ex.move (.int .i64 v6) rfl) rfl ?_
    obtain ⟨hg14, hm⟩ := hm
    refine RW.st (Ex.add rfl rfl hg14.1 hg14.2) rfl <| RW.st (Ex.assign (.int .i64 (v6 + 1)) rfl) rfl <| RW.nil ?_
    exact And.intro rfl ⟨k7, ⟨v6 + 1, Hk4, hle5.trans (Hp.le.refl _), sl_canon ⟨rfl, rfl, trivial⟩, hM, (by rw [hrec8]; exact hm)⟩, Nat.lt_succ_self _⟩
  ·
   replace hm := And.right hm hc9
   refine CW.exit ?_
   refine CW.seq <| CW.region <| RW.st (Ex.assign (.int .i64 0) rfl) rfl <| RW.nil <| CW.ret ?_
   refine end_tmp (.inl rfl) rfl (.int .i64 0) rfl ?_
   exact ⟨_, _, hM, 0, hm, rfl, rfl⟩
theorem ref07_Copy_lift {H : Hp} (x0 : List (List Sec)) {A1 : Option Addr} {n1 c1 : Nat} {s1 : List Value} (hF1 : Fz (α := List Sec) H A1 n1 c1 x0 s1) {Φ : List (List Sec) → Prop} (hm : ref07_Copy_W x0 Φ) : RetP Tryd.prog 25 #[.slice A1 n1 c1] H (fun H' v L => ∃ y, Φ y ∧ ∃ A38, ∃ n38, ∃ c38, ∃ s38, ∃ rs39, v = .slice A38 n38 c38 ∧ DeepL (α := List Sec) [71] H' s38 y rs39 ∧ n38 = y.length ∧ L = .row (.slice A38 n38 c38) 61 1 n38 s38 :: rs39) := by
 refine RetP.of_code Tryd.func25 rfl (Nat.le_of_ble_eq_true rfl) fun w0 hM => ?_
 refine CW.seq <| CW.region <| RW.st (Ex.assign (.slice none 0 0) rfl) rfl <| RW.nil <| CW.seq <| CW.region <| RW.st (Ex.assign (.slice none 0 0) rfl) rfl <| RW.nil <| CW.seq <| CW.seq <| CW.region <| RW.st (Ex.assign (.int .i64 0) rfl) rfl <| RW.nil <| CW.block ?_
 obtain ⟨m37, hm⟩ := hm
 skip
 replace hM := hM.nilRow 61 1
 refine CW.loop (β := Nat) (fun n σ w => ∃ (v4 : List (List Sec)), ∃ (A5 : Option Addr), ∃ (n6 : Nat), ∃ (c7 : Nat), ∃ (s8 : List Value), ∃ (rs9 : List Ent), ∃ (v12 : Int), ∃ Hk2, H.le Hk2 ∧ (∃ τ, σ = sl [(0, .slice A1 n1 c1), (3, .slice A5 n6 c7), (4, .int .i64 v12)] τ) ∧ Mem w0 H w Hk2 (.row (.slice A5 n6 c7) 61 1 n6 s8 :: rs9) ∧ (DeepL (α := List Sec) [71] Hk2 s8 v4 rs9) ∧ (n6 = v4.length) ∧ LoopN (ref07_Copy_L1 x0 Φ) n (v4, v12)) (fun n => n) m37 ⟨([] : List (List Sec)), none, 0, 0, [], [], 0, H, (Hp.le.refl _), sl_canon ⟨rfl, rfl, rfl, trivial⟩, hM, (DeepL.nil : DeepL (α := List Sec) [71] H [] [] []), rfl, hm⟩ ?_
 rintro k13 _ w ⟨v4, A5, n6, c7, s8, rs9, v12, Hk2, hle3, ⟨τ, rfl⟩, hM, hd10, hn11, hm⟩
 obtain _ | k13 := k13
 · exact hm.elim
 replace hm : (ref07_Copy_L1 x0 Φ) (v4, v12) (LoopN (ref07_Copy_L1 x0 Φ) k13) := hm
 generalize hrec14 : LoopN (ref07_Copy_L1 x0 Φ) k13 = rec1 at hm
 refine CW.seq <| CW.seq <| CW.region <| RW.st (Ex.move (.int .i64 v12) rfl) rfl <| RW.st (Ex.move (.slice A1 n1 c1) rfl) rfl <| RW.st (Ex.lenN st25.1 rfl hF1.hn) rfl <| RW.st (Ex.lss rfl rfl) rfl <| RW.nil ?_
 refine CW.cond_dec (p := v12 < (x0.length : Int)) rfl (fun hc15 => ?_) (fun hc15 => ?_)
 ·
  replace hm := And.left hm hc15
  refine CW.skip <| CW.seq <| CW.block <| CW.seq <| CW.region <| RW.st (Ex.assign (.slice none 0 0) rfl) rfl <| RW.nil <| CW.region <| RW.st (Ex.move (.slice A5 n6 c7) rfl) rfl <| RW.st (Ex.move (.slice none 0 0) rfl) rfl <| RW.st (Ex.move (.slice A1 n1 c1) rfl) rfl <| RW.st (Ex.move (.int .i64 v12) rfl) rfl ?_
  obtain ⟨hg16, hm⟩ := hm
  refine RW.st (Ex.index st25 rfl rfl v12.toNat (hF1.ne hg16) hg16.nat (hF1.lt hg16)) rfl ?_
  obtain ⟨_, ⟨A17, n17, c17, s17, rfl, hF17⟩, hx18⟩ := DtL.getI (α := List Sec) (hF1.mono hle3).dat hg16
  refine RW.st (Ex.loadE hM hle3 hF1.rdc to61 rfl (hx18 0 _ rfl)) rfl ?_
  replace hM := hM.nilRow 71 8
  obtain ⟨hg25, hm⟩ := hm
  refine RW.appendF (α := Sec) (xs := ([] : List Sec)) (ys := (ix x0 v12)) hM 0 st61 rfl rfl (DtL.nil : DtL _ [] ([] : List Sec)) rfl rfl (Hp.le.refl _) hF17 hg25 rfl rfl ?_; intro A19 n20 c21 s22 w hd23 hn24 hM
  replace hM : Mem w0 H w Hk2 (.row (.slice A19 n20 c21) 71 8 n20 s22 :: .row (.slice A5 n6 c7) 61 1 n6 s8 :: rs9) := hM
  refine RW.buildSlice hM st25 tz61 [(0, .slice A19 n20 c21)] [.slice A19 n20 c21] (by decide) rfl rfl rfl (by decide) rfl rfl ?_; intro b26 w hM
  replace hM : Mem w0 H w Hk2 (.row (.slice (some ⟨b26, 0, none⟩) 1 1) 61 1 1 [.slice A19 n20 c21] :: .row (.slice A19 n20 c21) 71 8 n20 s22 :: .row (.slice A5 n6 c7) 61 1 n6 s8 :: rs9) := hM
  obtain ⟨hg32, hm⟩ := hm
  refine RW.appendH (α := List Sec) (xs := v4) (x0 := (([] : List Sec) ++ (ix x0 v12))) hM 2 st25 rfl rfl hn11 rfl (fun j u hj => hM.rowCell (k := 0) rfl rfl hj) rfl (oneAll ⟨rfl, trivial⟩) hg32 rfl rfl ?_; intro A28 n29 c30 w hn31 hM
  replace hM : Mem w0 H w Hk2 (.row (.slice (some ⟨b26, 0, none⟩) 1 1) 61 1 1 [.slice A19 n20 c21] :: .row (.slice A19 n20 c21) 71 8 n20 s22 :: .row (.slice A28 n29 c30) 61 1 n29 (s8 ++ [.slice A19 n20 c21]) :: rs9) := hM
  obtain ⟨s33, rs34, hd35, hM⟩ := Mem.adopt (α := List Sec) (Ts := [71]) (x := (([] : List Sec) ++ (ix x0 v12))) [.row (.slice (some ⟨b26, 0, none⟩) 1 1) 61 1 1 [.slice A19 n20 c21], .row (.slice A28 n29 c30) 61 1 n29 (s8 ++ [.slice A19 n20 c21])] (Mem.pickT (L1 := [.row (.slice (some ⟨b26, 0, none⟩) 1 1) 61 1 1 [.slice A19 n20 c21], .row (.slice A19 n20 c21) 71 8 n20 s22, .row (.slice A28 n29 c30) 61 1 n29 (s8 ++ [.slice A19 n20 c21])]) (T := rs9) hM [1, 0, 2] rfl rfl) 1 rfl hd10 ⟨A19, n20, c21, s22, rfl, rfl, hd23, hn24⟩
  replace hM : Mem w0 H w Hk2 (.row (.slice A28 n29 c30) 61 1 n29 s33 :: rs34) := Mem.pickT (L1 := [.row (.slice (some ⟨b26, 0, none⟩) 1 1) 61 1 1 [.slice A19 n20 c21], .row (.slice A28 n29 c30) 61 1 n29 s33]) (T := rs34) hM [1] rfl rfl
  refine RW.st (Ex.assign (.slice A28 n29 c30) rfl) rfl <| RW.nil <| CW.region <| RW.st (Ex.move (.int .i64 v12) rfl) rfl ?_
  obtain ⟨hg36, hm⟩ := hm
  refine RW.st (Ex.add rfl rfl hg36.1 hg36.2) rfl <| RW.st (Ex.assign (.int .i64 (v12 + 1)) rfl) rfl <| RW.nil ?_
  exact And.intro rfl ⟨k13, ⟨(v4 ++ [(([] : List Sec) ++ (ix x0 v12))]), A28, n29, c30, s33, rs34, v12 + 1, Hk2, hle3.trans (Hp.le.refl _), sl_canon ⟨rfl, rfl, rfl, trivial⟩, hM, hd35, hn31, (by rw [hrec14]; exact hm)⟩, Nat.lt_succ_self _⟩
 ·
  replace hm := And.right hm hc15
  refine CW.exit ?_
  refine CW.seq <| CW.region <| RW.st (Ex.move (.slice A5 n6 c7) rfl) rfl <| RW.st (Ex.assign (.slice A5 n6 c7) rfl) rfl <| RW.nil <| CW.ret ?_
  refine end_tmp (.inl rfl) rfl (.slice A5 n6 c7) rfl ?_
  exact ⟨_, _, hM, v4, hm, A5, n6, c7, s8, rs9, rfl, hd10, hn11, rfl⟩
theorem ref07_FitsSizes_lift {H : Hp} (x0 : List Int) (x1 : api_Write) {A1 : Option Addr} {n1 c1 : Nat} {s1 : List Value} (hF1 : Fz (α := Int) H A1 n1 c1 x0 s1) {A2 : Option Addr} {n2 c2 : Nat} {s2 : List Value} (hF2 : Fz (α := Sec) H A2 n2 c2 x1.Data s2) {Φ : Int → Prop} (hm : ref07_FitsSizes_W x0 x1 Φ) : RetP Tryd.prog 74 #[.slice A1 n1 c1, .agg #[.int .i64 x1.Volume, .int .i64 x1.Start, .slice A2 n2 c2]] H (fun _ v L => ∃ y, Φ y ∧ v = .int .i64 (y) ∧ L = []) := by
 refine RetP.of_code Tryd.func74 rfl (Nat.le_of_ble_eq_true rfl) fun w0 hM => ?_
 refine CW.seq <| CW.region ?_
 refine RW.box hM (.agg #[.int .i64 x1.Volume, .int .i64 x1.Start, .slice A2 n2 c2]) [.int .i64 x1.Volume, .int .i64 x1.Start, .slice A2 n2 c2] rfl rfl rfl rfl ?_; intro b3 w hM
 replace hM : Mem w0 H w H [.box b3 100 [.int .i64 x1.Volume, .int .i64 x1.Start, .slice A2 n2 c2]] := hM
 refine RW.st (Ex.assign (.int .i64 0) rfl) rfl <| RW.nil <| CW.seq ?_
 skip
 refine CW.cut (fun D σ w => D = [] ∧ (∃ τ, σ = sl [(0, .slice A1 n1 c1), (3, .pointer (some ⟨b3, 0, none⟩)), (14, .bool (decide ((x1.Volume < 0) ∨ ((x0.length : Int) ≤ x1.Volume))))] τ) ∧ Mem w0 H w H [.box b3 100 [.int .i64 x1.Volume, .int .i64 x1.Start, .slice A2 n2 c2]]) ?_ ?_
 ·
  skip
  refine CW.region <| RW.st (Ex.fieldAddr fa100_0 rfl) rfl <| RW.st (Ex.load1 hM 0 to3 rfl rfl rfl) rfl <| RW.st (Ex.lss rfl rfl) rfl <| RW.st (Ex.move (.bool (decide (x1.Volume < 0))) rfl) rfl ?_
  refine RW.split 8 (p := x1.Volume < 0) rfl (fun hc4 => ?_) (fun hc4 => ?_)
  ·
   skip
   refine RW.pass rfl rfl <| RW.pass rfl rfl <| RW.pass rfl rfl <| RW.pass rfl rfl <| RW.pass rfl rfl <| RW.st (Ex.pickT (.bool true) rfl rfl) rfl <| RW.nil ?_
   exact And.intro rfl (And.intro (sl_canon ⟨rfl, rfl, (congrArg Value.bool (decide_eq_true (.inl hc4)).symm), trivial⟩) hM)
  ·
   skip
   refine RW.st (Ex.fieldAddr fa100_0 rfl) rfl <| RW.st (Ex.load1 hM 0 to3 rfl rfl rfl) rfl <| RW.st (Ex.move (.slice A1 n1 c1) rfl) rfl <| RW.st (Ex.lenN st40.1 rfl hF1.hn) rfl <| RW.st (Ex.geq rfl rfl) rfl <| RW.st (Ex.pickF (.bool (decide ((x0.length : Int) ≤ x1.Volume))) rfl rfl) rfl <| RW.nil ?_
   exact And.intro rfl (And.intro (sl_canon ⟨rfl, rfl, (congrArg Value.bool (decide_eq_decide.2 (imOr hc4 Iff.rfl))), trivial⟩) hM)
 rintro _ _ w ⟨rfl, ⟨τ, rfl⟩, hM⟩
 refine CW.cond_dec (p := (x1.Volume < 0) ∨ ((x0.length : Int) ≤ x1.Volume)) rfl (fun hc5 => ?_) (fun hc5 => ?_)
 ·
  replace hm := And.left hm hc5
  refine CW.seq <| CW.region <| RW.st (Ex.assign (.int .i64 7) rfl) rfl <| RW.nil <| CW.ret ?_
  refine thenQ_ret ?_
  refine end_tmp (.inl rfl) rfl (.int .i64 7) rfl ?_
  exact ⟨_, _, (hM.pick [] rfl rfl), 7, hm, rfl, rfl⟩
 ·
  replace hm := And.right hm hc5
  refine CW.skip <| CW.seq <| CW.seq <| CW.region <| RW.st (Ex.fieldAddr fa100_2 rfl) rfl <| RW.st (Ex.load1 hM 0 to61 rfl rfl rfl) rfl <| RW.st (Ex.lenN st61.1 rfl hF2.hn) rfl <| RW.st (Ex.eql rfl rfl) rfl <| RW.nil ?_
  refine CW.cond_dec (p := (x1.Data.length : Int) = 0) rfl (fun hc6 => ?_) (fun hc6 => ?_)
  ·
   replace hm := And.left hm hc6
   refine CW.seq <| CW.region <| RW.st (Ex.assign (.int .i64 1) rfl) rfl <| RW.nil <| CW.ret ?_
   refine thenQ_ret ?_
   refine end_tmp (.inl rfl) rfl (.int .i64 1) rfl ?_
   exact ⟨_, _, (hM.pick [] rfl rfl), 1, hm, rfl, rfl⟩
  ·
   replace hm := And.right hm hc6
   refine CW.skip <| CW.seq ?_
   obtain ⟨hG13, hm⟩ := hm
   refine CW.cut (fun D σ w => D = [] ∧ (∃ τ, σ = sl [(45, .bool (decide ((x1.Start < 0) ∨ (((ix x0 x1.Volume) ≤ x1.Start) ∨ (((ix x0 x1.Volume) - x1.Start) < (x1.Data.length : Int))))))] τ) ∧ Mem w0 H w H [.box b3 100 [.int .i64 x1.Volume, .int .i64 x1.Start, .slice A2 n2 c2]]) ?_ ?_
   ·
    replace hm := hG13
    by_cases hc7 : x1.Start < 0
    ·
     skip
     refine CW.drawE 27 [.pointer (some ⟨b3, 1, none⟩), .int .i64 x1.Start, .bool true, .bool true, undef, undef, undef, undef, undef, undef, undef, undef, .bool true, .bool true, undef, undef, undef, undef, undef, undef, undef, undef, undef, undef, undef, undef, .bool true]
      [[(3, none)], [(19, some 0)], [(20, some 1)], [(21, some 2)], [(22, some 3)], [(22, some 3)], [(22, some 3)], [(22, some 3)], [(22, some 3)], [(22, some 3)], [(22, some 3)], [(22, some 3)], [(22, some 3), (30, some 11)], [(31, some 12)], [(32, some 13)], [(32, some 13)], [(32, some 13)], [(32, some 13)], [(32, some 13)], [(32, some 13)], [(32, some 13)], [(32, some 13)], [(32, some 13)], [(32, some 13)], [(32, some 13)], [(32, some 13)], [(32, some 13), (44, some 25)]] [(45, some 26)] (by kernel_rfl) hM (by kernel_rfl) ⟨?_, ?_, ?_, ?_, ?_, ?_, ?_, ?_, ?_, ?_, ?_, ?_, ?_, ?_, ?_, ?_, ?_, ?_, ?_, ?_, ?_, ?_, ?_, ?_, ?_, ?_, ?_, trivial⟩ ?_
     · exact One.ex (fun H' τ w hled hM => Ex.fieldAddr fa100_1 rfl) rfl (fun _ => rfl) rfl
     · exact One.ex (fun H' τ w hled hM => Ex.load1 hM 0 to3 rfl rfl rfl) rfl (fun _ => rfl) rfl
     · exact One.ex (fun H' τ w hled hM => Ex.yes (Ex.lss rfl rfl) hc7) rfl (fun _ => rfl) rfl
     · exact One.ex (fun H' τ w hled hM => Ex.move (.bool true) rfl) rfl (fun _ => rfl) rfl
     · exact One.pass (fun _ => rfl) rfl
     · exact One.pass (fun _ => rfl) rfl
     · exact One.pass (fun _ => rfl) rfl
     · exact One.pass (fun _ => rfl) rfl
     · exact One.pass (fun _ => rfl) rfl
     · exact One.pass (fun _ => rfl) rfl
     · exact One.pass (fun _ => rfl) rfl
     · exact One.pass (fun _ => rfl) rfl
     · exact One.ex (fun H' τ w hled hM => Ex.pickT (.bool true) rfl rfl) rfl (fun _ => rfl) rfl
     · exact One.ex (fun H' τ w hled hM => Ex.move (.bool true) rfl) rfl (fun _ => rfl) rfl
     · exact One.pass (fun _ => rfl) rfl
     · exact One.pass (fun _ => rfl) rfl
     · exact One.pass (fun _ => rfl) rfl
     · exact One.pass (fun _ => rfl) rfl
     · exact One.pass (fun _ => rfl) rfl
     · exact One.pass (fun _ => rfl) rfl
     · exact One.pass (fun _ => rfl) rfl
     · exact One.pass (fun _ => rfl) rfl
     · exact One.pass (fun _ => rfl) rfl
     · exact One.pass (fun _ => rfl) rfl
     · exact One.pass (fun _ => rfl) rfl
     · exact One.pass (fun _ => rfl) rfl
     · exact One.ex (fun H' τ w hled hM => Ex.pickT (.bool true) rfl rfl) rfl (fun _ => rfl) rfl
     intro τ w hM
     change RW _ _ _ _ _ _ _ _ (sl [(45, .bool true)] τ) _
     refine RW.nil ?_
     exact And.intro rfl (And.intro (sl_canon ⟨(congrArg Value.bool (decide_eq_true (.inl hc7)).symm), trivial⟩) hM)
    ·
     replace hm := hm hc7
     obtain ⟨hg8, hm⟩ := hm
     obtain ⟨_, rfl, hx9⟩ := DtL.getI (α := Int) hF1.dat hg8
     by_cases hc10 : (ix x0 x1.Volume) ≤ x1.Start
     ·
      skip
      refine CW.drawE 27 [.pointer (some ⟨b3, 1, none⟩), .int .i64 x1.Start, .bool false, .bool false, .pointer (some ⟨b3, 1, none⟩), .int .i64 x1.Start, .slice A1 n1 c1, .pointer (some ⟨b3, 0, none⟩), .int .i64 x1.Volume, elp A1 (x1.Volume.toNat * 1 + 0), .int .i64 ((ix x0 x1.Volume)), .bool true, .bool true, .bool true, undef, undef, undef, undef, undef, undef, undef, undef, undef, undef, undef, undef, .bool true]
       [[(3, none)], [(19, some 0)], [(20, some 1)], [(21, some 2)], [(3, none), (22, some 3)], [(22, some 3), (23, some 4)], [(0, none), (22, some 3)], [(3, none), (22, some 3)], [(22, some 3), (26, some 7)], [(22, some 3), (25, some 6), (27, some 8)], [(22, some 3), (28, some 9)], [(22, some 3), (24, some 5), (29, some 10)], [(22, some 3), (30, some 11)], [(31, some 12)], [(32, some 13)], [(32, some 13)], [(32, some 13)], [(32, some 13)], [(32, some 13)], [(32, some 13)], [(32, some 13)], [(32, some 13)], [(32, some 13)], [(32, some 13)], [(32, some 13)], [(32, some 13)], [(32, some 13), (44, some 25)]] [(45, some 26)] (by kernel_rfl) hM (by kernel_rfl) ⟨?_, ?_, ?_, ?_, ?_, ?_, ?_, ?_, ?_, ?_, ?_, ?_, ?_, ?_, ?_, ?_, ?_, ?_, ?_, ?_, ?_, ?_, ?_, ?_, ?_, ?_, ?_, trivial⟩ ?_
      · exact One.ex (fun H' τ w hled hM => Ex.fieldAddr fa100_1 rfl) rfl (fun _ => rfl) rfl
      · exact One.ex (fun H' τ w hled hM => Ex.load1 hM 0 to3 rfl rfl rfl) rfl (fun _ => rfl) rfl
      · exact One.ex (fun H' τ w hled hM => Ex.no (Ex.lss rfl rfl) hc7) rfl (fun _ => rfl) rfl
      · exact One.ex (fun H' τ w hled hM => Ex.move (.bool false) rfl) rfl (fun _ => rfl) rfl
      · exact One.ex (fun H' τ w hled hM => Ex.fieldAddr fa100_1 rfl) rfl (fun _ => rfl) rfl
      · exact One.ex (fun H' τ w hled hM => Ex.load1 hM 0 to3 rfl rfl rfl) rfl (fun _ => rfl) rfl
      · exact One.ex (fun H' τ w hled hM => Ex.move (.slice A1 n1 c1) rfl) rfl (fun _ => rfl) rfl
      · exact One.ex (fun H' τ w hled hM => Ex.fieldAddr fa100_0 rfl) rfl (fun _ => rfl) rfl
      · exact One.ex (fun H' τ w hled hM => Ex.load1 hM 0 to3 rfl rfl rfl) rfl (fun _ => rfl) rfl
      · exact One.ex (fun H' τ w hled hM => Ex.index st40 rfl rfl x1.Volume.toNat (hF1.ne hg8) hg8.nat (hF1.lt hg8)) rfl (fun _ => rfl) rfl
      · exact One.ex (fun H' τ w hled hM => Ex.loadE hM hled hF1.rdc to3 rfl (hx9 0 _ rfl)) rfl (fun _ => rfl) rfl
      · exact One.ex (fun H' τ w hled hM => Ex.yes (Ex.geq rfl rfl) hc10) rfl (fun _ => rfl) rfl
      · exact One.ex (fun H' τ w hled hM => Ex.pickF (.bool true) rfl rfl) rfl (fun _ => rfl) rfl
      · exact One.ex (fun H' τ w hled hM => Ex.move (.bool true) rfl) rfl (fun _ => rfl) rfl
      · exact One.pass (fun _ => rfl) rfl
      · exact One.pass (fun _ => rfl) rfl
      · exact One.pass (fun _ => rfl) rfl
      · exact One.pass (fun _ => rfl) rfl
      · exact One.pass (fun _ => rfl) rfl
      · exact One.pass (fun _ => rfl) rfl
      · exact One.pass (fun _ => rfl) rfl
      · exact One.pass (fun _ => rfl) rfl
      · exact One.pass (fun _ => rfl) rfl
      · exact One.pass (fun _ => rfl) rfl
      · exact One.pass (fun _ => rfl) rfl
      · exact One.pass (fun _ => rfl) rfl
      · exact One.ex (fun H' τ w hled hM => Ex.pickT (.bool true) rfl rfl) rfl (fun _ => rfl) rfl
      intro τ w hM
      change RW _ _ _ _ _ _ _ _ (sl [(45, .bool true)] τ) _
      refine RW.nil ?_
      exact And.intro rfl (And.intro (sl_canon ⟨(congrArg Value.bool (decide_eq_true (.inr (.inl hc10))).symm), trivial⟩) hM)
     ·
      replace hm := hm hc10
      have hg11 := hm
      refine CW.drawE 27 [.pointer (some ⟨b3, 1, none⟩), .int .i64 x1.Start, .bool false, .bool false, .pointer (some ⟨b3, 1, none⟩), .int .i64 x1.Start, .slice A1 n1 c1, .pointer (some ⟨b3, 0, none⟩), .int .i64 x1.Volume, elp A1 (x1.Volume.toNat * 1 + 0), .int .i64 ((ix x0 x1.Volume)), .bool false, .bool false, .bool false, .pointer (some ⟨b3, 2, none⟩), .slice A2 n2 c2, .int .i64 ((x1.Data.length : Int)), .slice A1 n1 c1, .pointer (some ⟨b3, 0, none⟩), .int .i64 x1.Volume, elp A1 (x1.Volume.toNat * 1 + 0), .int .i64 ((ix x0 x1.Volume)), .pointer (some ⟨b3, 1, none⟩), .int .i64 x1.Start, .int .i64 ((ix x0 x1.Volume) - x1.Start), .bool (decide (((ix x0 x1.Volume) - x1.Start) < (x1.Data.length : Int))), .bool (decide (((ix x0 x1.Volume) - x1.Start) < (x1.Data.length : Int)))]
       [[(3, none)], [(19, some 0)], [(20, some 1)], [(21, some 2)], [(3, none), (22, some 3)], [(22, some 3), (23, some 4)], [(0, none), (22, some 3)], [(3, none), (22, some 3)], [(22, some 3), (26, some 7)], [(22, some 3), (25, some 6), (27, some 8)], [(22, some 3), (28, some 9)], [(22, some 3), (24, some 5), (29, some 10)], [(22, some 3), (30, some 11)], [(31, some 12)], [(3, none), (32, some 13)], [(32, some 13), (33, some 14)], [(32, some 13), (34, some 15)], [(0, none), (32, some 13)], [(3, none), (32, some 13)], [(32, some 13), (37, some 18)], [(32, some 13), (36, some 17), (38, some 19)], [(32, some 13), (39, some 20)], [(3, none), (32, some 13)], [(32, some 13), (41, some 22)], [(32, some 13), (40, some 21), (42, some 23)], [(32, some 13), (35, some 16), (43, some 24)], [(32, some 13), (44, some 25)]] [(45, some 26)] (by kernel_rfl) hM (by kernel_rfl) ⟨?_, ?_, ?_, ?_, ?_, ?_, ?_, ?_, ?_, ?_, ?_, ?_, ?_, ?_, ?_, ?_, ?_, ?_, ?_, ?_, ?_, ?_, ?_, ?_, ?_, ?_, ?_, trivial⟩ ?_
      · exact One.ex (fun H' τ w hled hM => Ex.fieldAddr fa100_1 rfl) rfl (fun _ => rfl) rfl
      · exact One.ex (fun H' τ w hled hM => Ex.load1 hM 0 to3 rfl rfl rfl) rfl (fun _ => rfl) rfl
      · exact One.ex (fun H' τ w hled hM => Ex.no (Ex.lss rfl rfl) hc7) rfl (fun _ => rfl) rfl
      · exact One.ex (fun H' τ w hled hM => Ex.move (.bool false) rfl) rfl (fun _ => rfl) rfl
      · exact One.ex (fun H' τ w hled hM => Ex.fieldAddr fa100_1 rfl) rfl (fun _ => rfl) rfl
      · exact One.ex (fun H' τ w hled hM => Ex.load1 hM 0 to3 rfl rfl rfl) rfl (fun _ => rfl) rfl
      · exact One.ex (fun H' τ w hled hM => Ex.move (.slice A1 n1 c1) rfl) rfl (fun _ => rfl) rfl
      · exact One.ex (fun H' τ w hled hM => Ex.fieldAddr fa100_0 rfl) rfl (fun _ => rfl) rfl
      · exact One.ex (fun H' τ w hled hM => Ex.load1 hM 0 to3 rfl rfl rfl) rfl (fun _ => rfl) rfl
      · exact One.ex (fun H' τ w hled hM => Ex.index st40 rfl rfl x1.Volume.toNat (hF1.ne hg8) hg8.nat (hF1.lt hg8)) rfl (fun _ => rfl) rfl
      · exact One.ex (fun H' τ w hled hM => Ex.loadE hM hled hF1.rdc to3 rfl (hx9 0 _ rfl)) rfl (fun _ => rfl) rfl
      · exact One.ex (fun H' τ w hled hM => Ex.no (Ex.geq rfl rfl) hc10) rfl (fun _ => rfl) rfl
      · exact One.ex (fun H' τ w hled hM => Ex.pickF (.bool false) rfl rfl) rfl (fun _ => rfl) rfl
      · exact One.ex (fun H' τ w hled hM => Ex.move (.bool false) rfl) rfl (fun _ => rfl) rfl
      · exact One.ex (fun H' τ w hled hM => Ex.fieldAddr fa100_2 rfl) rfl (fun _ => rfl) rfl
      · exact One.ex (fun H' τ w hled hM => Ex.load1 hM 0 to61 rfl rfl rfl) rfl (fun _ => rfl) rfl
      · exact One.ex (fun H' τ w hled hM => Ex.lenN st61.1 rfl hF2.hn) rfl (fun _ => rfl) rfl
      · exact One.ex (fun H' τ w hled hM => Ex.move (.slice A1 n1 c1) rfl) rfl (fun _ => rfl) rfl
      · exact One.ex (fun H' τ w hled hM => Ex.fieldAddr fa100_0 rfl) rfl (fun _ => rfl) rfl
      · exact One.ex (fun H' τ w hled hM => Ex.load1 hM 0 to3 rfl rfl rfl) rfl (fun _ => rfl) rfl
      · exact One.ex (fun H' τ w hled hM => Ex.index st40 rfl rfl x1.Volume.toNat (hF1.ne hg8) hg8.nat (hF1.lt hg8)) rfl (fun _ => rfl) rfl
      · exact One.ex (fun H' τ w hled hM => Ex.loadE hM hled hF1.rdc to3 rfl (hx9 0 _ rfl)) rfl (fun _ => rfl) rfl
      · exact One.ex (fun H' τ w hled hM => Ex.fieldAddr fa100_1 rfl) rfl (fun _ => rfl) rfl
      · exact One.ex (fun H' τ w hled hM => Ex.load1 hM 0 to3 rfl rfl rfl) rfl (fun _ => rfl) rfl
      · exact One.ex (fun H' τ w hled hM => Ex.sub rfl rfl hg11.1 hg11.2) rfl (fun _ => rfl) rfl
      · exact One.ex (fun H' τ w hled hM => Ex.gtr rfl rfl) rfl (fun _ => rfl) rfl
      · exact One.ex (fun H' τ w hled hM => Ex.pickF (.bool (decide (((ix x0 x1.Volume) - x1.Start) < (x1.Data.length : Int)))) rfl rfl) rfl (fun _ => rfl) rfl
      intro τ w hM
      change RW _ _ _ _ _ _ _ _ (sl [(45, .bool (decide (((ix x0 x1.Volume) - x1.Start) < (x1.Data.length : Int))))] τ) _
      refine RW.nil ?_
      exact And.intro rfl (And.intro (sl_canon ⟨(congrArg Value.bool (decide_eq_decide.2 (imOr hc7 (imOr hc10 Iff.rfl)))), trivial⟩) hM)
   rintro _ _ w ⟨rfl, ⟨τ, rfl⟩, hM⟩
   refine CW.cond_dec (p := (x1.Start < 0) ∨ (((ix x0 x1.Volume) ≤ x1.Start) ∨ (((ix x0 x1.Volume) - x1.Start) < (x1.Data.length : Int)))) rfl (fun hc12 => ?_) (fun hc12 => ?_)
   ·
    replace hm := And.left hm hc12
    refine CW.seq <| CW.region <| RW.st (Ex.assign (.int .i64 2) rfl) rfl <| RW.nil <| CW.ret ?_
    refine thenQ_ret ?_
    refine end_tmp (.inl rfl) rfl (.int .i64 2) rfl ?_
    exact ⟨_, _, (hM.pick [] rfl rfl), 2, hm, rfl, rfl⟩
   ·
    replace hm := And.right hm hc12
    refine CW.skip <| CW.seq <| CW.region <| RW.st (Ex.assign (.int .i64 0) rfl) rfl <| RW.nil <| CW.ret ?_
    refine end_tmp (.inl rfl) rfl (.int .i64 0) rfl ?_
    exact ⟨_, _, (hM.pick [] rfl rfl), 0, hm, rfl, rfl⟩
theorem ref02_New_lift {H : Hp} (x0 : Int) {Φ : api_Bitmap × Int → Prop} (hm : ref02_New_W x0 Φ) : RetP Tryd.prog 65 #[.int .i64 x0] H (fun H' v L => ∃ y, Φ y ∧ ∃ A14, ∃ n14, ∃ c14, ∃ s14, v = .tuple #[.agg #[.int .i64 (y.1.Size), .slice A14 n14 c14], .int .i64 (y.2)] ∧ DtL (α := BitVec 64) H' s14 y.1.Words ∧ n14 = y.1.Words.length ∧ L = [.row (.slice A14 n14 c14) 151 1 n14 s14]) := by
 refine RetP.of_code Tryd.func65 rfl (Nat.le_of_ble_eq_true rfl) fun w0 hM => ?_
 refine CW.seq <| CW.region ?_
 refine RW.alloc hM tz65 [.int .i64 0, .slice none 0 0] rfl rfl rfl ?_; intro b1 w hM
 replace hM : Mem w0 H w H [.box b1 65 [.int .i64 0, .slice none 0 0]] := hM
 refine RW.st (Ex.assign (.int .i64 0) rfl) rfl <| RW.nil <| CW.seq ?_
 skip
 refine CW.cut (fun D σ w => D = [] ∧ (∃ τ, σ = sl [(0, .int .i64 x0), (2, .pointer (some ⟨b1, 0, none⟩)), (9, .bool (decide ((x0 < 0) ∨ (4096 < x0))))] τ) ∧ Mem w0 H w H [.box b1 65 [.int .i64 0, .slice none 0 0]]) ?_ ?_
 ·
  skip
  refine CW.region <| RW.st (Ex.move (.int .i64 x0) rfl) rfl <| RW.st (Ex.lss rfl rfl) rfl <| RW.st (Ex.move (.bool (decide (x0 < 0))) rfl) rfl ?_
  refine RW.split 6 (p := x0 < 0) rfl (fun hc2 => ?_) (fun hc2 => ?_)
  ·
   skip
   refine RW.pass rfl rfl <| RW.pass rfl rfl <| RW.st (Ex.pickT (.bool true) rfl rfl) rfl <| RW.nil ?_
   exact And.intro rfl (And.intro (sl_canon ⟨rfl, rfl, (congrArg Value.bool (decide_eq_true (.inl hc2)).symm), trivial⟩) hM)
  ·
   skip
   refine RW.st (Ex.move (.int .i64 x0) rfl) rfl <| RW.st (Ex.gtr rfl rfl) rfl <| RW.st (Ex.pickF (.bool (decide (4096 < x0))) rfl rfl) rfl <| RW.nil ?_
   exact And.intro rfl (And.intro (sl_canon ⟨rfl, rfl, (congrArg Value.bool (decide_eq_decide.2 (imOr hc2 Iff.rfl))), trivial⟩) hM)
 rintro _ _ w ⟨rfl, ⟨τ, rfl⟩, hM⟩
 refine CW.cond_dec (p := (x0 < 0) ∨ (4096 < x0)) rfl (fun hc3 => ?_) (fun hc3 => ?_)
 ·
  replace hm := And.left hm hc3
  refine CW.seq <| CW.region <| RW.st (Ex.build bs65 [] [.int .i64 0, .slice none 0 0] rfl rfl) rfl ?_
  refine RW.store hM 0 (.agg #[.int .i64 0, .slice none 0 0]) [.int .i64 0, .slice none 0 0] [.int .i64 0, .slice none 0 0] sz65 rfl rfl rfl (oneAll ⟨rfl, rfl, trivial⟩) rfl (Nat.le_of_ble_eq_true rfl) rfl [.box b1 65 [.int .i64 0, .slice none 0 0]] rfl rfl rfl ?_; intro w hM
  refine RW.st (Ex.assign (.int .i64 2) rfl) rfl <| RW.nil <| CW.ret ?_
  refine thenQ_ret ?_
  refine end_cell_tmp (k := 0) (.inl rfl) rfl hM rfl (.int .i64 2) rfl ta65 [.int .i64 0, .slice none 0 0] rfl rfl ?_
  replace hM := hM.nilRow 151 1
  exact ⟨_, _, (hM.pick [0] rfl rfl), ((api_Bitmap.mk 0 ([] : List (BitVec 64))), 2), hm, none, 0, 0, [], rfl, (DtL.nil : DtL _ [] ([] : List (BitVec 64))), rfl, rfl⟩
 ·
  replace hm := And.right hm hc3
  refine CW.skip <| CW.seq <| CW.region <| RW.st (Ex.move (.int .i64 x0) rfl) rfl <| RW.st (Ex.move (.int .i64 x0) rfl) rfl ?_
  obtain ⟨hg4, hm⟩ := hm
  refine RW.st (Ex.add rfl rfl hg4.1 hg4.2) rfl ?_
  obtain ⟨hg5, hm⟩ := hm
  refine RW.st (Ex.quo rfl rfl hg5.1 hg5.2.2 (by decide)) rfl ?_
  obtain ⟨hg12, hm⟩ := hm
  obtain ⟨hg13, hm⟩ := hm
  refine RW.makeD (α := BitVec 64) (x0 := 0#64) hM st63 tz151 [.int .u64 (0)] rfl (fun _ => rfl) rfl rfl hg12 hg13 rfl rfl ?_; intro b6 n7 s9 w hd10 hn11 hM
  replace hM : Mem w0 H w H [.row (.slice (some ⟨b6, 0, none⟩) n7 n7) 151 1 n7 s9, .box b1 65 [.int .i64 0, .slice none 0 0]] := hM
  refine RW.st (Ex.build bs65 [(0, .int .i64 x0), (1, .slice (some ⟨b6, 0, none⟩) n7 n7)] [.int .i64 x0, .slice (some ⟨b6, 0, none⟩) n7 n7] rfl rfl) rfl ?_
  refine RW.store hM 1 (.agg #[.int .i64 x0, .slice (some ⟨b6, 0, none⟩) n7 n7]) [.int .i64 x0, .slice (some ⟨b6, 0, none⟩) n7 n7] [.int .i64 x0, .slice (some ⟨b6, 0, none⟩) n7 n7] sz65 rfl rfl rfl (oneAll ⟨rfl, rfl, trivial⟩) rfl (Nat.le_of_ble_eq_true rfl) rfl [.row (.slice (some ⟨b6, 0, none⟩) n7 n7) 151 1 n7 s9, .box b1 65 [.int .i64 x0, .slice (some ⟨b6, 0, none⟩) n7 n7]] rfl rfl rfl ?_; intro w hM
  refine RW.st (Ex.assign (.int .i64 0) rfl) rfl <| RW.nil <| CW.ret ?_
  refine end_cell_tmp (k := 1) (.inl rfl) rfl hM rfl (.int .i64 0) rfl ta65 [.int .i64 x0, .slice (some ⟨b6, 0, none⟩) n7 n7] rfl rfl ?_
  exact ⟨_, _, (hM.pick [0] rfl rfl), ((api_Bitmap.mk x0 (List.replicate ((x0 + 63) / 64).toNat (0#64))), 0), hm, (some ⟨b6, 0, none⟩), n7, n7, s9, rfl, hd10, hn11, rfl⟩
theorem ref02_Copy_lift {H : Hp} (x0 : api_Bitmap) {A1 : Option Addr} {n1 c1 : Nat} {s1 : List Value} (hF1 : Fz (α := BitVec 64) H A1 n1 c1 x0.Words s1) {Φ : api_Bitmap → Prop} (hm : ref02_Copy_W x0 Φ) : RetP Tryd.prog 129 #[.agg #[.int .i64 x0.Size, .slice A1 n1 c1]] H (fun H' v L => ∃ y, Φ y ∧ ∃ A44, ∃ n44, ∃ c44, ∃ s44, v = .agg #[.int .i64 (y.Size), .slice A44 n44 c44] ∧ DtL (α := BitVec 64) H' s44 y.Words ∧ n44 = y.Words.length ∧ L = [.row (.slice A44 n44 c44) 151 1 n44 s44]) := by
 refine RetP.of_code Tryd.func129 rfl (Nat.le_of_ble_eq_true rfl) fun w0 hM => ?_
 refine CW.seq <| CW.region ?_
 refine RW.box hM (.agg #[.int .i64 x0.Size, .slice A1 n1 c1]) [.int .i64 x0.Size, .slice A1 n1 c1] rfl rfl rfl rfl ?_; intro b2 w hM
 replace hM : Mem w0 H w H [.box b2 65 [.int .i64 x0.Size, .slice A1 n1 c1]] := hM
 refine RW.alloc hM tz65 [.int .i64 0, .slice none 0 0] rfl rfl rfl ?_; intro b3 w hM
 replace hM : Mem w0 H w H [.box b3 65 [.int .i64 0, .slice none 0 0], .box b2 65 [.int .i64 x0.Size, .slice A1 n1 c1]] := hM
 refine RW.nil <| CW.seq ?_
 obtain ⟨hg15, hm⟩ := hm
 refine CW.drawL 7 [] [(fun Hq us E => us = [.pointer (some ⟨b2, 0, none⟩)] ∧ E = [] ∧ True), (fun Hq us E => us = [.int .i64 x0.Size] ∧ E = [] ∧ True), (fun Hq us E => ∃ (b13 : Nat), us = [.slice (some ⟨b13, 0, none⟩) 0 0] ∧ E = [.row (.slice (some ⟨b13, 0, none⟩) 0 0) 151 1 0 []] ∧ DtL Hq [] ([] : List (BitVec 64)) ∧ True), (fun Hq us E => us = [.pointer (some ⟨b2, 1, none⟩)] ∧ E = [] ∧ True), (fun Hq us E => us = [.slice A1 n1 c1] ∧ E = [] ∧ True), (fun Hq us E => ∃ (A16 : Option Addr), ∃ (n17 : Nat), ∃ (c18 : Nat), ∃ (s19 : List Value), us = [.slice A16 n17 c18] ∧ E = [.row (.slice A16 n17 c18) 151 1 n17 s19] ∧ DtL (α := BitVec 64) Hq s19 (([] : List (BitVec 64)) ++ x0.Words) ∧ n17 = (([] : List (BitVec 64)) ++ x0.Words).length ∧ True), (fun Hq us E => ∃ (A16 : Option Addr), ∃ (n17 : Nat), ∃ (c18 : Nat), us = [.slice A16 n17 c18, .agg #[.int .i64 x0.Size, .slice A16 n17 c18]] ∧ E = [] ∧ True)]
  (fun k => [[0], [1], [2], [3], [4], [5], [5, 6]].getD k []) (fun k => [none, none, none, none, none, some 2, none].getD k none) (by kernel_rfl) hM (by kernel_rfl) (by kernel_rfl) (by kernel_rfl) rfl (by simp only [List.forall_mem_cons]; exact ⟨fun _ _ _ _ hle ⟨e1, e2, _⟩ => ⟨e1, e2, trivial⟩, fun _ _ _ _ hle ⟨e1, e2, _⟩ => ⟨e1, e2, trivial⟩, fun _ _ _ _ hle ⟨b13, e1, e2, hd14, _⟩ => ⟨b13, e1, e2, hd14.mono hle, trivial⟩, fun _ _ _ _ hle ⟨e1, e2, _⟩ => ⟨e1, e2, trivial⟩, fun _ _ _ _ hle ⟨e1, e2, _⟩ => ⟨e1, e2, trivial⟩, fun _ _ _ _ hle ⟨A16, n17, c18, s19, e1, e2, hd20, hn21, _⟩ => ⟨A16, n17, c18, s19, e1, e2, hd20.mono hle, hn21, trivial⟩, fun _ _ _ _ hle ⟨A16, n17, c18, e1, e2, _⟩ => ⟨A16, n17, c18, e1, e2, trivial⟩, by simp⟩) ⟨?_, ?_, ?_, ?_, ?_, ?_, ?_, trivial⟩ ?_
 ·
  intro H' σ' w R E hle hMR hE0 hE hp hf
  obtain rfl := hE0 rfl
  obtain ⟨τ, rfl⟩ := sl_canon (σ := σ') (l := [(1, .pointer (some ⟨b2, 0, none⟩))]) ⟨(hf 1 (by kernel_rfl)).trans rfl, trivial⟩
  have hM := Mem.subR (R := R) hMR
  exact RW.step (Ex.fieldAddr fa65_0 rfl) rfl rfl rfl (RW.nil ⟨rfl, rfl, _, rfl, H', [], Hp.le.refl _, hMR, rfl, rfl, trivial⟩)
 ·
  intro H' σ' w R E hle hMR hE0 hE hp hf
  obtain rfl := hE0 rfl
  obtain ⟨_, hg⟩ := hp 0 (by decide) (by kernel_rfl)
  obtain ⟨e22, _, _⟩ := hg.get rfl
  have e23 : σ' 3 = .pointer (some ⟨b2, 0, none⟩) := (List.cons.inj e22).1
  obtain ⟨τ, rfl⟩ := sl_canon (σ := σ') (l := [(3, .pointer (some ⟨b2, 0, none⟩))]) ⟨e23, trivial⟩
  have hM := Mem.subR (R := R) hMR
  exact RW.step (Ex.load1 hM 1 to3 rfl rfl rfl) rfl rfl rfl (RW.nil ⟨rfl, rfl, _, rfl, H', [], Hp.le.refl _, hMR, rfl, rfl, trivial⟩)
 ·
  intro H' σ' w R E hle hMR hE0 hE hp hf
  obtain rfl := hE0 rfl
  obtain ⟨τ, rfl⟩ := sl_canon (σ := σ') (l := []) trivial
  have hM := Mem.subR (R := R) hMR
  refine RW.buildSlice hMR st63 tz151 [] [] (by decide) rfl rfl rfl (by decide) rfl rfl ?_; intro b13 w hMR
  have hd14 : DtL H' [] ([] : List (BitVec 64)) := DtL.nil
  exact RW.nil ⟨rfl, rfl, _, rfl, H', [.row (.slice (some ⟨b13, 0, none⟩) 0 0) 151 1 0 []], Hp.le.refl _, hMR, b13, rfl, rfl, hd14, trivial⟩
 ·
  intro H' σ' w R E hle hMR hE0 hE hp hf
  obtain rfl := hE0 rfl
  obtain ⟨τ, rfl⟩ := sl_canon (σ := σ') (l := [(1, .pointer (some ⟨b2, 0, none⟩))]) ⟨(hf 1 (by kernel_rfl)).trans rfl, trivial⟩
  have hM := Mem.subR (R := R) hMR
  exact RW.step (Ex.fieldAddr fa65_1 rfl) rfl rfl rfl (RW.nil ⟨rfl, rfl, _, rfl, H', [], Hp.le.refl _, hMR, rfl, rfl, trivial⟩)
 ·
  intro H' σ' w R E hle hMR hE0 hE hp hf
  obtain rfl := hE0 rfl
  obtain ⟨_, hg⟩ := hp 3 (by decide) (by kernel_rfl)
  obtain ⟨e24, _, _⟩ := hg.get rfl
  have e25 : σ' 6 = .pointer (some ⟨b2, 1, none⟩) := (List.cons.inj e24).1
  obtain ⟨τ, rfl⟩ := sl_canon (σ := σ') (l := [(6, .pointer (some ⟨b2, 1, none⟩))]) ⟨e25, trivial⟩
  have hM := Mem.subR (R := R) hMR
  exact RW.step (Ex.load1 hM 1 to63 rfl rfl rfl) rfl rfl rfl (RW.nil ⟨rfl, rfl, _, rfl, H', [], Hp.le.refl _, hMR, rfl, rfl, trivial⟩)
 ·
  intro H' σ' w R E hle hMR hE0 hE hp hf
  obtain ⟨b13, e26, rfl, hd14, _⟩ := (hE 2 rfl).get rfl
  have e27 : σ' 5 = .slice (some ⟨b13, 0, none⟩) 0 0 := (List.cons.inj e26).1
  obtain ⟨_, hg⟩ := hp 4 (by decide) (by kernel_rfl)
  obtain ⟨e28, _, _⟩ := hg.get rfl
  have e29 : σ' 7 = .slice A1 n1 c1 := (List.cons.inj e28).1
  obtain ⟨τ, rfl⟩ := sl_canon (σ := σ') (l := [(5, .slice (some ⟨b13, 0, none⟩) 0 0), (7, .slice A1 n1 c1)]) ⟨e27, e29, trivial⟩
  refine RW.appendF (α := BitVec 64) (xs := ([] : List (BitVec 64))) (ys := x0.Words) hMR 0 st63 rfl rfl hd14 rfl rfl hle hF1 hg15 rfl rfl ?_; intro A16 n17 c18 s19 w hd20 hn21 hMR
  exact RW.nil ⟨rfl, rfl, _, rfl, H', [.row (.slice A16 n17 c18) 151 1 n17 s19], Hp.le.refl _, hMR, A16, n17, c18, s19, rfl, rfl, hd20, hn21, trivial⟩
 ·
  intro H' σ' w R E hle hMR hE0 hE hp hf
  obtain rfl := hE0 rfl
  obtain ⟨_, hg⟩ := hp 1 (by decide) (by kernel_rfl)
  obtain ⟨e30, _, _⟩ := hg.get rfl
  have e31 : σ' 4 = .int .i64 x0.Size := (List.cons.inj e30).1
  obtain ⟨_, hg⟩ := hp 5 (by decide) (by kernel_rfl)
  obtain ⟨A16, n17, c18, s19, e32, _, hd20, hn21, _⟩ := hg.get rfl
  have e33 : σ' 8 = .slice A16 n17 c18 := (List.cons.inj e32).1
  obtain ⟨τ, rfl⟩ := sl_canon (σ := σ') (l := [(4, .int .i64 x0.Size), (8, .slice A16 n17 c18)]) ⟨e31, e33, trivial⟩
  have hM := Mem.subR (R := R) hMR
  exact RW.step (Ex.build bs65 [(0, .int .i64 x0.Size), (1, .slice A16 n17 c18)] [.int .i64 x0.Size, .slice A16 n17 c18] rfl rfl) rfl rfl rfl (RW.nil ⟨rfl, rfl, _, rfl, H', [], Hp.le.refl _, hMR, A16, n17, c18, rfl, rfl, trivial⟩)
 ·
  intro H8 σ' w X miss hms hle8 hM hX hX0 hf
  simp [subs] at hms
  rcases hms with rfl
  ·
   obtain ⟨H34, hH8⟩ : ∃ x, x = H8 := ⟨_, rfl⟩
   subst hH8
   have hle35 := hle8
   obtain ⟨_, g0, y0⟩ := hX 0 (by decide) (by kernel_rfl)
   obtain ⟨_, rfl, _⟩ := g0.get rfl
   replace y0 : X 0 = [] := y0
   obtain ⟨_, g0, y1⟩ := hX 1 (by decide) (by kernel_rfl)
   obtain ⟨_, rfl, _⟩ := g0.get rfl
   replace y1 : X 1 = [] := y1
   obtain ⟨_, g0, y2⟩ := hX 2 (by decide) (by kernel_rfl)
   obtain ⟨_, _, rfl, _, _⟩ := g0.get rfl
   replace y2 : X 2 = [] := y2
   obtain ⟨_, g0, y3⟩ := hX 3 (by decide) (by kernel_rfl)
   obtain ⟨_, rfl, _⟩ := g0.get rfl
   replace y3 : X 3 = [] := y3
   obtain ⟨_, g0, y4⟩ := hX 4 (by decide) (by kernel_rfl)
   obtain ⟨_, rfl, _⟩ := g0.get rfl
   replace y4 : X 4 = [] := y4
   obtain ⟨_, g0, y5⟩ := hX 5 (by decide) (by kernel_rfl)
   obtain ⟨A16, n17, c18, s19, e36, rfl, hd20, hn21, _⟩ := g0.get rfl
   have e37 : σ' 8 = .slice A16 n17 c18 := (List.cons.inj e36).1
   replace y5 : X 5 = [.row (.slice A16 n17 c18) 151 1 n17 s19] := y5
   obtain ⟨_, g0, y6⟩ := hX 6 (by decide) (by kernel_rfl)
   obtain ⟨A16q, n17q, c18q, e38, rfl, _⟩ := g0.get rfl
   have e39 : σ' 8 = .slice A16q n17q c18q := (List.cons.inj e38).1
   have he_ := e37.symm.trans e39
   have ⟨e40, e41, e42⟩ : A16 = A16q ∧ n17 = n17q ∧ c18 = c18q := by simp at he_; simp [he_]
   subst e40
   subst e41
   subst e42
   have e43 : σ' 9 = .agg #[.int .i64 x0.Size, .slice A16 n17 c18] := (List.cons.inj (List.cons.inj e38).2).1
   replace y6 : X 6 = [] := y6
   have hfl : flatX X 7 = [.row (.slice A16 n17 c18) 151 1 n17 s19] := by
    show X 0 ++ (X 1 ++ (X 2 ++ (X 3 ++ (X 4 ++ (X 5 ++ (X 6 ++ [])))))) = _
    rw [y0, y1, y2, y3, y4, y5, y6]; rfl
   rw [hfl] at hM
   obtain ⟨τ, rfl⟩ := sl_canon (σ := σ') (l := [(2, .pointer (some ⟨b3, 0, none⟩)), (9, .agg #[.int .i64 x0.Size, .slice A16 n17 c18])]) ⟨(hf 2 (by kernel_rfl)).trans rfl, e43, trivial⟩
   replace hM : Mem w0 H w H34 [.row (.slice A16 n17 c18) 151 1 n17 s19, .box b3 65 [.int .i64 0, .slice none 0 0], .box b2 65 [.int .i64 x0.Size, .slice A1 n1 c1]] := hM
   change RA _ _ _ _ _ _ _ (sl [(2, .pointer (some ⟨b3, 0, none⟩)), (9, .agg #[.int .i64 x0.Size, .slice A16 n17 c18])] τ) _ 8 _
   refine RA.step [7] (by kernel_rfl) rfl ⟨⟨_, rfl, ?_⟩, trivial⟩
   refine RW.store hM 1 (.agg #[.int .i64 x0.Size, .slice A16 n17 c18]) [.int .i64 x0.Size, .slice A16 n17 c18] [.int .i64 x0.Size, .slice A16 n17 c18] sz65 rfl rfl rfl (oneAll ⟨rfl, rfl, trivial⟩) rfl (Nat.le_of_ble_eq_true rfl) rfl [.row (.slice A16 n17 c18) 151 1 n17 s19, .box b3 65 [.int .i64 x0.Size, .slice A16 n17 c18], .box b2 65 [.int .i64 x0.Size, .slice A1 n1 c1]] rfl rfl rfl ?_; intro w hM
   refine RW.nil ?_
   refine And.intro rfl ?_
   refine RA.done (by kernel_rfl) ?_
   refine CW.ret ?_
   refine end_cell (k := 1) (.inl rfl) rfl hM rfl ta65 [.int .i64 x0.Size, .slice A16 n17 c18] rfl rfl ?_
   exact ⟨_, _, (hM.pick [0] rfl rfl), (api_Bitmap.mk x0.Size (([] : List (BitVec 64)) ++ x0.Words)), hm, A16, n17, c18, s19, rfl, hd20, hn21, rfl⟩
theorem ref02_bit_lift {H : Hp} (x0 : api_Bitmap) (x1 : Int) {A1 : Option Addr} {n1 c1 : Nat} {s1 : List Value} (hF1 : Fz (α := BitVec 64) H A1 n1 c1 x0.Words s1) {Φ : Bool → Prop} (hm : ref02_bit_W x0 x1 Φ) : RetP Tryd.prog 68 #[.agg #[.int .i64 x0.Size, .slice A1 n1 c1], .int .i64 x1] H (fun _ v L => ∃ y, Φ y ∧ v = .bool y ∧ L = []) := by
 refine RetP.of_code Tryd.func68 rfl (Nat.le_of_ble_eq_true rfl) fun w0 hM => ?_
 refine CW.seq <| CW.region ?_
 refine RW.box hM (.agg #[.int .i64 x0.Size, .slice A1 n1 c1]) [.int .i64 x0.Size, .slice A1 n1 c1] rfl rfl rfl rfl ?_; intro b2 w hM
 replace hM : Mem w0 H w H [.box b2 65 [.int .i64 x0.Size, .slice A1 n1 c1]] := hM
 refine RW.st (Ex.assign (.bool false) rfl) rfl <| RW.nil <| CW.seq <| CW.region <| RW.st (Ex.fieldAddr fa65_1 rfl) rfl <| RW.st (Ex.load1 hM 0 to63 rfl rfl rfl) rfl <| RW.st (Ex.move (.int .i64 x1) rfl) rfl ?_
 obtain ⟨hg3, hm⟩ := hm
 refine RW.st (Ex.quo rfl rfl hg3.1 hg3.2.2 (by decide)) rfl ?_
 obtain ⟨hg4, hm⟩ := hm
 refine RW.st (Ex.index st63 rfl rfl ((x1 / 64).toNat) (hF1.ne hg4) hg4.nat (hF1.lt hg4)) rfl ?_
 obtain ⟨_, rfl, hx5⟩ := DtL.getI (α := BitVec 64) hF1.dat hg4
 refine RW.st (Ex.loadE hM (Hp.le.refl _) hF1.rdc to151 rfl (hx5 0 _ rfl)) rfl <| RW.st (Ex.move (.int .i64 x1) rfl) rfl ?_
 obtain ⟨hg6, hm⟩ := hm
 refine RW.st (Ex.rem rfl rfl hg6 (by decide)) rfl <| RW.st (Ex.convI64 Tryd.underlying3 Tryd.underlying178 rfl) rfl <| RW.st (Ex.shr64 (a := (ix x0.Words (x1 / 64))) (n := (BitVec.ofInt 64 (x1 % 64)).toNat) rfl rfl (by omega)) rfl <| RW.st (Ex.and64 (a := (ix x0.Words (x1 / 64)) >>> ((BitVec.ofInt 64 (x1 % 64)).toNat : Int).toNat) (b := 1#64) rfl rfl) rfl <| RW.st (Ex.eql64 (a := ((ix x0.Words (x1 / 64)) >>> ((BitVec.ofInt 64 (x1 % 64)).toNat : Int).toNat) &&& (1#64)) (b := 1#64) rfl rfl) rfl <| RW.st (Ex.assign (.bool (decide ((((ix x0.Words (x1 / 64)) >>> ((BitVec.ofInt 64 (x1 % 64)).toNat : Int).toNat) &&& (1#64)) = (1#64)))) rfl) rfl <| RW.nil <| CW.ret ?_
 refine end_tmp (.inl rfl) rfl (.bool (decide ((((ix x0.Words (x1 / 64)) >>> ((BitVec.ofInt 64 (x1 % 64)).toNat : Int).toNat) &&& (1#64)) = (1#64)))) rfl ?_
 exact ⟨_, _, (hM.pick [] rfl rfl), decide ((((ix x0.Words (x1 / 64)) >>> ((BitVec.ofInt 64 (x1 % 64)).toNat : Int).toNat) &&& (1#64)) = (1#64)), hm, rfl, rfl⟩
theorem ref02_Fits_lift {H : Hp} (x0 : api_Extent) (x1 : Int) {Φ : Bool → Prop} (hm : ref02_Fits_W x0 x1 Φ) : RetP Tryd.prog 149 #[.agg #[.int .i64 x0.Start, .int .i64 x0.Count], .int .i64 x1] H (fun _ v L => ∃ y, Φ y ∧ v = .bool y ∧ L = []) := by
 refine RetP.of_code Tryd.func149 rfl (Nat.le_of_ble_eq_true rfl) fun w0 hM => ?_
 refine CW.seq <| CW.region ?_
 refine RW.box hM (.agg #[.int .i64 x0.Start, .int .i64 x0.Count]) [.int .i64 x0.Start, .int .i64 x0.Count] rfl rfl rfl rfl ?_; intro b1 w hM
 replace hM : Mem w0 H w H [.box b1 103 [.int .i64 x0.Start, .int .i64 x0.Count]] := hM
 refine RW.st (Ex.assign (.bool false) rfl) rfl <| RW.nil ?_
 obtain ⟨hG6, hm⟩ := hm
 refine CW.cut (fun D σ w => D = [] ∧ (∃ τ, σ = sl [(4, .bool (decide ((0 ≤ x0.Start) ∧ ((0 ≤ x0.Count) ∧ ((x0.Start ≤ x1) ∧ (x0.Count ≤ (x1 - x0.Start)))))))] τ) ∧ Mem w0 H w H [.box b1 103 [.int .i64 x0.Start, .int .i64 x0.Count]]) ?_ ?_
 ·
  replace hm := hG6
  refine CW.region <| RW.st (Ex.fieldAddr fa103_0 rfl) rfl <| RW.st (Ex.load1 hM 0 to3 rfl rfl rfl) rfl <| RW.st (Ex.geq rfl rfl) rfl <| RW.st (Ex.move (.bool (decide (0 ≤ x0.Start))) rfl) rfl ?_
  refine RW.split 8 (p := 0 ≤ x0.Start) rfl (fun hc2 => ?_) (fun hc2 => ?_)
  ·
   replace hm := hm hc2
   refine RW.st (Ex.fieldAddr fa103_1 rfl) rfl <| RW.st (Ex.load1 hM 0 to3 rfl rfl rfl) rfl <| RW.st (Ex.geq rfl rfl) rfl <| RW.st (Ex.pickT (.bool (decide (0 ≤ x0.Count))) rfl rfl) rfl <| RW.st (Ex.move (.bool (decide (0 ≤ x0.Count))) rfl) rfl ?_
   refine RW.split 13 (p := 0 ≤ x0.Count) rfl (fun hc3 => ?_) (fun hc3 => ?_)
   ·
    replace hm := hm hc3
    refine RW.st (Ex.fieldAddr fa103_0 rfl) rfl <| RW.st (Ex.load1 hM 0 to3 rfl rfl rfl) rfl <| RW.st (Ex.move (.int .i64 x1) rfl) rfl <| RW.st (Ex.leq rfl rfl) rfl <| RW.st (Ex.pickT (.bool (decide (x0.Start ≤ x1))) rfl rfl) rfl <| RW.st (Ex.move (.bool (decide (x0.Start ≤ x1))) rfl) rfl ?_
    refine RW.split 19 (p := x0.Start ≤ x1) rfl (fun hc4 => ?_) (fun hc4 => ?_)
    ·
     replace hm := hm hc4
     refine RW.st (Ex.fieldAddr fa103_1 rfl) rfl <| RW.st (Ex.load1 hM 0 to3 rfl rfl rfl) rfl <| RW.st (Ex.move (.int .i64 x1) rfl) rfl <| RW.st (Ex.fieldAddr fa103_0 rfl) rfl <| RW.st (Ex.load1 hM 0 to3 rfl rfl rfl) rfl ?_
     have hg5 := hm
     refine RW.st (Ex.sub rfl rfl hg5.1 hg5.2) rfl <| RW.st (Ex.leq rfl rfl) rfl <| RW.st (Ex.pickT (.bool (decide (x0.Count ≤ (x1 - x0.Start)))) rfl rfl) rfl <| RW.st (Ex.assign (.bool (decide (x0.Count ≤ (x1 - x0.Start)))) rfl) rfl <| RW.nil ?_
     exact And.intro rfl (And.intro (sl_canon ⟨(congrArg Value.bool (decide_eq_decide.2 (imAnd hc2 (imAnd hc3 (imAnd hc4 Iff.rfl))))), trivial⟩) hM)
    ·
     skip
     refine RW.pass rfl rfl <| RW.pass rfl rfl <| RW.pass rfl rfl <| RW.pass rfl rfl <| RW.pass rfl rfl <| RW.pass rfl rfl <| RW.pass rfl rfl <| RW.st (Ex.pickF (.bool false) rfl rfl) rfl <| RW.st (Ex.assign (.bool false) rfl) rfl <| RW.nil ?_
     exact And.intro rfl (And.intro (sl_canon ⟨(congrArg Value.bool (decide_eq_false (fun q => (fun q => (fun q => hc4 q.1) q.2) q.2)).symm), trivial⟩) hM)
   ·
    skip
    refine RW.pass rfl rfl <| RW.pass rfl rfl <| RW.pass rfl rfl <| RW.pass rfl rfl <| RW.st (Ex.pickF (.bool false) rfl rfl) rfl <| RW.st (Ex.move (.bool false) rfl) rfl <| RW.pass rfl rfl <| RW.pass rfl rfl <| RW.pass rfl rfl <| RW.pass rfl rfl <| RW.pass rfl rfl <| RW.pass rfl rfl <| RW.pass rfl rfl <| RW.st (Ex.pickF (.bool false) rfl rfl) rfl ?_
    refine RW.st (Ex.assign (.bool false) rfl) rfl <| RW.nil ?_
    exact And.intro rfl (And.intro (sl_canon ⟨(congrArg Value.bool (decide_eq_false (fun q => (fun q => hc3 q.1) q.2)).symm), trivial⟩) hM)
  ·
   skip
   refine RW.pass rfl rfl <| RW.pass rfl rfl <| RW.pass rfl rfl <| RW.st (Ex.pickF (.bool false) rfl rfl) rfl <| RW.st (Ex.move (.bool false) rfl) rfl <| RW.pass rfl rfl <| RW.pass rfl rfl <| RW.pass rfl rfl <| RW.pass rfl rfl <| RW.st (Ex.pickF (.bool false) rfl rfl) rfl <| RW.st (Ex.move (.bool false) rfl) rfl <| RW.pass rfl rfl <| RW.pass rfl rfl <| RW.pass rfl rfl ?_
   refine RW.pass rfl rfl <| RW.pass rfl rfl <| RW.pass rfl rfl <| RW.pass rfl rfl <| RW.st (Ex.pickF (.bool false) rfl rfl) rfl <| RW.st (Ex.assign (.bool false) rfl) rfl <| RW.nil ?_
   exact And.intro rfl (And.intro (sl_canon ⟨(congrArg Value.bool (decide_eq_false (fun q => hc2 q.1)).symm), trivial⟩) hM)
 rintro _ _ w ⟨rfl, ⟨τ, rfl⟩, hM⟩
 refine CW.ret ?_
 refine end_tmp (.inl rfl) rfl (.bool (decide ((0 ≤ x0.Start) ∧ ((0 ≤ x0.Count) ∧ ((x0.Start ≤ x1) ∧ (x0.Count ≤ (x1 - x0.Start))))))) rfl ?_
 exact ⟨_, _, (hM.pick [] rfl rfl), decide ((0 ≤ x0.Start) ∧ ((0 ≤ x0.Count) ∧ ((x0.Start ≤ x1) ∧ (x0.Count ≤ (x1 - x0.Start))))), hm, rfl, rfl⟩
theorem delta_in_lift {H : Hp} (x0 : Int) (x1 : Int) {Φ : Bool → Prop} (hm : delta_in_W x0 x1 Φ) : RetP Tryd.prog 92 #[.int .i64 x0, .int .i64 x1] H (fun _ v L => ∃ y, Φ y ∧ v = .bool y ∧ L = []) := by
 refine RetP.of_code Tryd.func92 rfl (Nat.le_of_ble_eq_true rfl) fun w0 hM => ?_
 refine CW.seq <| CW.region <| RW.st (Ex.assign (.bool false) rfl) rfl <| RW.nil ?_
 skip
 refine CW.cut (fun D σ w => D = [] ∧ (∃ τ, σ = sl [(4, .bool (decide ((x1 ≤ x0) ∧ (x0 ≤ 1073741824))))] τ) ∧ Mem w0 H w H []) ?_ ?_
 ·
  skip
  refine CW.region <| RW.st (Ex.move (.int .i64 x0) rfl) rfl <| RW.st (Ex.move (.int .i64 x1) rfl) rfl <| RW.st (Ex.geq rfl rfl) rfl <| RW.st (Ex.move (.bool (decide (x1 ≤ x0))) rfl) rfl ?_
  refine RW.split 8 (p := x1 ≤ x0) rfl (fun hc1 => ?_) (fun hc1 => ?_)
  ·
   skip
   refine RW.st (Ex.move (.int .i64 x0) rfl) rfl <| RW.st (Ex.leq rfl rfl) rfl <| RW.st (Ex.pickT (.bool (decide (x0 ≤ 1073741824))) rfl rfl) rfl <| RW.st (Ex.assign (.bool (decide (x0 ≤ 1073741824))) rfl) rfl <| RW.nil ?_
   exact And.intro rfl (And.intro (sl_canon ⟨(congrArg Value.bool (decide_eq_decide.2 (imAnd hc1 Iff.rfl))), trivial⟩) hM)
  ·
   skip
   refine RW.pass rfl rfl <| RW.pass rfl rfl <| RW.st (Ex.pickF (.bool false) rfl rfl) rfl <| RW.st (Ex.assign (.bool false) rfl) rfl <| RW.nil ?_
   exact And.intro rfl (And.intro (sl_canon ⟨(congrArg Value.bool (decide_eq_false (fun q => hc1 q.1)).symm), trivial⟩) hM)
 rintro _ _ w ⟨rfl, ⟨τ, rfl⟩, hM⟩
 refine CW.ret ?_
 refine end_tmp (.inl rfl) rfl (.bool (decide ((x1 ≤ x0) ∧ (x0 ≤ 1073741824)))) rfl ?_
 exact ⟨_, _, hM, decide ((x1 ≤ x0) ∧ (x0 ≤ 1073741824)), hm, rfl, rfl⟩
theorem image_sizes_1_lift {H : Hp} (x0 : List Sec) {A1 : Option Addr} {n1 c1 : Nat} {s1 : List Value} (hF1 : Fz (α := Sec) H A1 n1 c1 x0 s1) {Φ : Int → Prop} (hm : image_sizes_1_W x0 Φ) : RetP Tryd.prog 147 #[.slice A1 n1 c1] H (fun _ v L => ∃ y, Φ y ∧ v = .int .i64 (y) ∧ L = []) := by
 refine RetP.of_code Tryd.func147 rfl (Nat.le_of_ble_eq_true rfl) fun w0 hM => ?_
 refine CW.seq <| CW.region <| RW.st (Ex.assign (.int .i64 0) rfl) rfl <| RW.nil <| CW.seq <| CW.region <| RW.st (Ex.move (.slice A1 n1 c1) rfl) rfl <| RW.st (Ex.lenN st61.1 rfl hF1.hn) rfl <| RW.st (Ex.assign (.int .i64 ((x0.length : Int))) rfl) rfl <| RW.nil <| CW.ret ?_
 refine end_tmp (.inl rfl) rfl (.int .i64 ((x0.length : Int))) rfl ?_
 exact ⟨_, _, hM, (x0.length : Int), hm, rfl, rfl⟩
theorem image_checkSizes_1_lift {H : Hp} (x0 : Int) {Φ : Bool → Prop} (hm : image_checkSizes_1_W x0 Φ) : RetP Tryd.prog 145 #[.int .i64 x0] H (fun _ v L => ∃ y, Φ y ∧ v = .bool y ∧ L = []) := by
 refine RetP.of_code Tryd.func145 rfl (Nat.le_of_ble_eq_true rfl) fun w0 hM => ?_
 refine CW.seq <| CW.region <| RW.st (Ex.assign (.bool false) rfl) rfl <| RW.nil ?_
 skip
 refine CW.cut (fun D σ w => D = [] ∧ (∃ τ, σ = sl [(2, .bool (decide ((x0 < 1) ∨ (4096 < x0))))] τ) ∧ Mem w0 H w H []) ?_ ?_
 ·
  skip
  refine CW.region <| RW.st (Ex.move (.int .i64 x0) rfl) rfl <| RW.st (Ex.lss rfl rfl) rfl <| RW.st (Ex.move (.bool (decide (x0 < 1))) rfl) rfl ?_
  refine RW.split 5 (p := x0 < 1) rfl (fun hc1 => ?_) (fun hc1 => ?_)
  ·
   skip
   refine RW.pass rfl rfl <| RW.pass rfl rfl <| RW.st (Ex.pickT (.bool true) rfl rfl) rfl <| RW.st (Ex.assign (.bool true) rfl) rfl <| RW.nil ?_
   exact And.intro rfl (And.intro (sl_canon ⟨(congrArg Value.bool (decide_eq_true (.inl hc1)).symm), trivial⟩) hM)
  ·
   skip
   refine RW.st (Ex.move (.int .i64 x0) rfl) rfl <| RW.st (Ex.gtr rfl rfl) rfl <| RW.st (Ex.pickF (.bool (decide (4096 < x0))) rfl rfl) rfl <| RW.st (Ex.assign (.bool (decide (4096 < x0))) rfl) rfl <| RW.nil ?_
   exact And.intro rfl (And.intro (sl_canon ⟨(congrArg Value.bool (decide_eq_decide.2 (imOr hc1 Iff.rfl))), trivial⟩) hM)
 rintro _ _ w ⟨rfl, ⟨τ, rfl⟩, hM⟩
 refine CW.ret ?_
 refine end_tmp (.inl rfl) rfl (.bool (decide ((x0 < 1) ∨ (4096 < x0)))) rfl ?_
 exact ⟨_, _, hM, decide ((x0 < 1) ∨ (4096 < x0)), hm, rfl, rfl⟩
theorem bitmap_words_lift {H : Hp} (x0 : Int) {Φ : Int → Prop} (hm : bitmap_words_W x0 Φ) : RetP Tryd.prog 131 #[.int .i64 x0] H (fun _ v L => ∃ y, Φ y ∧ v = .int .i64 (y) ∧ L = []) := by
 refine RetP.of_code Tryd.func131 rfl (Nat.le_of_ble_eq_true rfl) fun w0 hM => ?_
 refine CW.seq <| CW.region <| RW.st (Ex.assign (.int .i64 0) rfl) rfl <| RW.nil <| CW.seq <| CW.region <| RW.st (Ex.move (.int .i64 x0) rfl) rfl ?_
 obtain ⟨hg1, hm⟩ := hm
 refine RW.st (Ex.add rfl rfl hg1.1 hg1.2) rfl ?_
 obtain ⟨hg2, hm⟩ := hm
 refine RW.st (Ex.sub rfl rfl hg2.1 hg2.2) rfl ?_
 obtain ⟨hg3, hm⟩ := hm
 refine RW.st (Ex.quo rfl rfl hg3.1 hg3.2.2 (by decide)) rfl <| RW.st (Ex.assign (.int .i64 (((x0 + 64) - 1) / 64)) rfl) rfl <| RW.nil <| CW.ret ?_
 refine end_tmp (.inl rfl) rfl (.int .i64 (((x0 + 64) - 1) / 64)) rfl ?_
 exact ⟨_, _, hM, ((x0 + 64) - 1) / 64, hm, rfl, rfl⟩
theorem reverse_last_lift {H : Hp} (x0 : List api_Span) {A1 : Option Addr} {n1 c1 : Nat} {s1 : List Value} (hF1 : Fz (α := api_Span) H A1 n1 c1 x0 s1) {Φ : Int → Prop} (hm : reverse_last_W x0 Φ) : RetP Tryd.prog 41 #[.slice A1 n1 c1] H (fun _ v L => ∃ y, Φ y ∧ v = .int .i64 (y) ∧ L = []) := by
 refine RetP.of_code Tryd.func41 rfl (Nat.le_of_ble_eq_true rfl) fun w0 hM => ?_
 refine CW.seq <| CW.region <| RW.st (Ex.assign (.int .i64 0) rfl) rfl <| RW.nil <| CW.seq <| CW.seq <| CW.region <| RW.st (Ex.move (.slice A1 n1 c1) rfl) rfl <| RW.st (Ex.lenN st22.1 rfl hF1.hn) rfl <| RW.st (Ex.eql rfl rfl) rfl <| RW.nil ?_
 refine CW.cond_dec (p := (x0.length : Int) = 0) rfl (fun hc2 => ?_) (fun hc2 => ?_)
 ·
  replace hm := And.left hm hc2
  refine CW.seq <| CW.region <| RW.st (Ex.assign (.int .i64 0) rfl) rfl <| RW.nil <| CW.ret ?_
  refine thenQ_ret ?_
  refine end_tmp (.inl rfl) rfl (.int .i64 0) rfl ?_
  exact ⟨_, _, hM, 0, hm, rfl, rfl⟩
 ·
  replace hm := And.right hm hc2
  refine CW.skip <| CW.seq <| CW.region <| RW.st (Ex.move (.slice A1 n1 c1) rfl) rfl <| RW.st (Ex.move (.slice A1 n1 c1) rfl) rfl <| RW.st (Ex.lenN st22.1 rfl hF1.hn) rfl ?_
  obtain ⟨hg3, hm⟩ := hm
  refine RW.st (Ex.sub rfl rfl hg3.1 hg3.2) rfl ?_
  obtain ⟨hg4, hm⟩ := hm
  refine RW.st (Ex.index st22 rfl rfl (((x0.length : Int) - 1).toNat) (hF1.ne hg4) hg4.nat (hF1.lt hg4)) rfl <| RW.st (Ex.fieldE fa98_2 (hF1.ne hg4) rfl) rfl ?_
  obtain ⟨_, rfl, hx5⟩ := DtL.getI (α := api_Span) hF1.dat hg4
  refine RW.st (Ex.loadE hM (Hp.le.refl _) hF1.rdc to3 rfl (hx5 2 _ rfl)) rfl <| RW.st (Ex.assign (.int .i64 ((ix x0 ((x0.length : Int) - 1)).To)) rfl) rfl <| RW.nil <| CW.ret ?_
  refine end_tmp (.inl rfl) rfl (.int .i64 ((ix x0 ((x0.length : Int) - 1)).To)) rfl ?_
  exact ⟨_, _, hM, (ix x0 ((x0.length : Int) - 1)).To, hm, rfl, rfl⟩
theorem reverse_Undo_1_lift {H : Hp} (hT : TabH H 0) (x0 : Int) (x1 : api_Bitmap) {A1 : Option Addr} {n1 c1 : Nat} {s1 : List Value} (hF1 : Fz (α := BitVec 64) H A1 n1 c1 x1.Words s1) {Φ : List api_Extent → Prop} (hm : reverse_Undo_1_W x0 x1 Φ) : RetP Tryd.prog 43 #[.int .i64 x0, .agg #[.int .i64 x1.Size, .slice A1 n1 c1]] H (fun H' v L => ∃ y, Φ y ∧ ∃ A7, ∃ n7, ∃ c7, ∃ s7, v = .slice A7 n7 c7 ∧ Fz (α := api_Extent) H' A7 n7 c7 y s7 ∧ L = []) := by
 refine RetP.of_code Tryd.func43 rfl (Nat.le_of_ble_eq_true rfl) fun w0 hM => ?_
 refine CW.seq <| CW.region ?_
 refine RW.box hM (.agg #[.int .i64 x1.Size, .slice A1 n1 c1]) [.int .i64 x1.Size, .slice A1 n1 c1] rfl rfl rfl rfl ?_; intro b2 w hM
 replace hM : Mem w0 H w H [.box b2 65 [.int .i64 x1.Size, .slice A1 n1 c1]] := hM
 refine RW.st (Ex.assign (.slice none 0 0) rfl) rfl <| RW.nil <| CW.seq <| CW.region <| RW.st (Ex.loadA hM 0 [.int .i64 x1.Size, .slice A1 n1 c1] ta65 rfl rfl rfl rfl) rfl ?_
 refine RW.callP hM (bitmap_Extents_lift hT x1 hF1 hm) en44 rfl rfl rfl rfl ?_; rintro _ w H4 _ hle5 ⟨v3, hm, A6, n6, c6, s6, rfl, hF6, rfl⟩ hM
 replace hM : Mem w0 H w H4 [.box b2 65 [.int .i64 x1.Size, .slice A1 n1 c1]] := hM
 refine RW.st (Ex.assign (.slice A6 n6 c6) rfl) rfl <| RW.nil <| CW.ret ?_
 refine end_tmp (.inl rfl) rfl (.slice A6 n6 c6) rfl ?_
 exact ⟨_, _, (hM.pick [] rfl rfl), v3, hm, A6, n6, c6, s6, rfl, hF6, rfl⟩
theorem delta_alike_1_lift {H : Hp} (x0 : List Sec) (x1 : List Sec) {A1 : Option Addr} {n1 c1 : Nat} {s1 : List Value} (hF1 : Fz (α := Sec) H A1 n1 c1 x0 s1) {A2 : Option Addr} {n2 c2 : Nat} {s2 : List Value} (hF2 : Fz (α := Sec) H A2 n2 c2 x1 s2) {Φ : Bool → Prop} (hm : delta_alike_1_W x0 x1 Φ) : RetP Tryd.prog 136 #[.slice A1 n1 c1, .slice A2 n2 c2] H (fun _ v L => ∃ y, Φ y ∧ v = .bool y ∧ L = []) := by
 refine RetP.of_code Tryd.func136 rfl (Nat.le_of_ble_eq_true rfl) fun w0 hM => ?_
 refine CW.seq <| CW.region <| RW.st (Ex.assign (.bool false) rfl) rfl <| RW.nil <| CW.seq <| CW.region <| RW.st (Ex.move (.slice A1 n1 c1) rfl) rfl <| RW.st (Ex.lenN st61.1 rfl hF1.hn) rfl <| RW.st (Ex.move (.slice A2 n2 c2) rfl) rfl <| RW.st (Ex.lenN st61.1 rfl hF2.hn) rfl <| RW.st (Ex.eql rfl rfl) rfl <| RW.st (Ex.assign (.bool (decide ((x0.length : Int) = (x1.length : Int)))) rfl) rfl <| RW.nil <| CW.ret ?_
 refine end_tmp (.inl rfl) rfl (.bool (decide ((x0.length : Int) = (x1.length : Int)))) rfl ?_
 exact ⟨_, _, hM, decide ((x0.length : Int) = (x1.length : Int)), hm, rfl, rfl⟩
theorem bitmap_Or_1_lift {H : Hp} (x0 : BitVec 64) (x1 : BitVec 64) {Φ : BitVec 64 → Prop} (hm : bitmap_Or_1_W x0 x1 Φ) : RetP Tryd.prog 126 #[u64 (x0), u64 (x1)] H (fun _ v L => ∃ y, Φ y ∧ v = u64 (y) ∧ L = []) := by
 refine RetP.of_code Tryd.func126 rfl (Nat.le_of_ble_eq_true rfl) fun w0 hM => ?_
 refine CW.seq <| CW.region <| RW.st (Ex.assign (.int .u64 (0)) rfl) rfl <| RW.nil <| CW.seq <| CW.region <| RW.st (Ex.move (u64 (x0)) rfl) rfl <| RW.st (Ex.move (u64 (x1)) rfl) rfl <| RW.st (Ex.or64 (a := x0) (b := x1) rfl rfl) rfl <| RW.st (Ex.assign (u64 (x0 ||| x1)) rfl) rfl <| RW.nil <| CW.ret ?_
 refine end_tmp (.inl rfl) rfl (u64 (x0 ||| x1)) rfl ?_
 exact ⟨_, _, hM, x0 ||| x1, hm, rfl, rfl⟩
theorem slices_Clone_int_int_lift {H : Hp} (x0 : List Int) {A1 : Option Addr} {n1 c1 : Nat} {s1 : List Value} (hF1 : Fz (α := Int) H A1 n1 c1 x0 s1) {Φ : List Int → Prop} (hm : slices_Clone_int_int_W x0 Φ) : RetP Tryd.prog 51 #[.slice A1 n1 c1] H (fun H' v L => ∃ y, Φ y ∧ ∃ A12, ∃ n12, ∃ c12, ∃ s12, v = .slice A12 n12 c12 ∧ DtL (α := Int) H' s12 y ∧ n12 = y.length ∧ L = [.row (.slice A12 n12 c12) 3 1 n12 s12]) := by
 refine RetP.of_code Tryd.func51 rfl (Nat.le_of_ble_eq_true rfl) fun w0 hM => ?_
 refine CW.seq <| CW.region <| RW.st (Ex.assign (.slice none 0 0) rfl) rfl <| RW.nil <| CW.seq <| CW.seq <| CW.region <| RW.st (Ex.move (.slice A1 n1 c1) rfl) rfl <| RW.st (Ex.eqlNil st40.1 rfl rfl) rfl <| RW.nil ?_
 refine CW.cond_dec (p := A1 = none) rfl (fun hc2 => ?_) (fun hc2 => ?_)
 ·
  replace hm := And.left hm (hF1.nilc hc2)
  refine CW.seq <| CW.region <| RW.st (Ex.assign (.slice none 0 0) rfl) rfl <| RW.nil <| CW.ret ?_
  refine thenQ_ret ?_
  refine end_tmp (.inl rfl) rfl (.slice none 0 0) rfl ?_
  replace hM := hM.nilRow 3 1
  exact ⟨_, _, hM, ([] : List Int), hm, none, 0, 0, [], rfl, (DtL.nil : DtL _ [] ([] : List Int)), rfl, rfl⟩
 ·
  replace hm := And.right hm
  refine CW.skip <| CW.seq <| CW.region ?_
  refine RW.buildSlice hM st40 tz3 [] [] (by decide) rfl rfl rfl (by decide) rfl rfl ?_; intro b3 w hM
  have hd4 : DtL H [] ([] : List Int) := DtL.nil
  replace hM : Mem w0 H w H [.row (.slice (some ⟨b3, 0, none⟩) 0 0) 3 1 0 []] := hM
  refine RW.st (Ex.move (.slice A1 n1 c1) rfl) rfl ?_
  obtain ⟨hg11, hm⟩ := hm
  refine RW.appendF (α := Int) (xs := ([] : List Int)) (ys := x0) hM 0 st40 rfl rfl hd4 rfl rfl (Hp.le.refl _) hF1 hg11 rfl rfl ?_; intro A5 n6 c7 s8 w hd9 hn10 hM
  replace hM : Mem w0 H w H [.row (.slice A5 n6 c7) 3 1 n6 s8] := hM
  refine RW.st (Ex.assign (.slice A5 n6 c7) rfl) rfl <| RW.nil <| CW.ret ?_
  refine end_tmp (.inl rfl) rfl (.slice A5 n6 c7) rfl ?_
  exact ⟨_, _, hM, (([] : List Int) ++ x0), hm, A5, n6, c7, s8, rfl, hd9, hn10, rfl⟩
theorem slices_Clone_api_Sector_api_Sector_lift {H : Hp} (x0 : List Sec) {A1 : Option Addr} {n1 c1 : Nat} {s1 : List Value} (hF1 : Fz (α := Sec) H A1 n1 c1 x0 s1) {Φ : List Sec → Prop} (hm : slices_Clone_api_Sector_api_Sector_W x0 Φ) : RetP Tryd.prog 52 #[.slice A1 n1 c1] H (fun H' v L => ∃ y, Φ y ∧ ∃ A12, ∃ n12, ∃ c12, ∃ s12, v = .slice A12 n12 c12 ∧ DtL (α := Sec) H' s12 y ∧ n12 = y.length ∧ L = [.row (.slice A12 n12 c12) 71 8 n12 s12]) := by
 refine RetP.of_code Tryd.func52 rfl (Nat.le_of_ble_eq_true rfl) fun w0 hM => ?_
 refine CW.seq <| CW.region <| RW.st (Ex.assign (.slice none 0 0) rfl) rfl <| RW.nil <| CW.seq <| CW.seq <| CW.region <| RW.st (Ex.move (.slice A1 n1 c1) rfl) rfl <| RW.st (Ex.eqlNil st61.1 rfl rfl) rfl <| RW.nil ?_
 refine CW.cond_dec (p := A1 = none) rfl (fun hc2 => ?_) (fun hc2 => ?_)
 ·
  replace hm := And.left hm (hF1.nilc hc2)
  refine CW.seq <| CW.region <| RW.st (Ex.assign (.slice none 0 0) rfl) rfl <| RW.nil <| CW.ret ?_
  refine thenQ_ret ?_
  refine end_tmp (.inl rfl) rfl (.slice none 0 0) rfl ?_
  replace hM := hM.nilRow 71 8
  exact ⟨_, _, hM, ([] : List Sec), hm, none, 0, 0, [], rfl, (DtL.nil : DtL _ [] ([] : List Sec)), rfl, rfl⟩
 ·
  replace hm := And.right hm
  refine CW.skip <| CW.seq <| CW.region ?_
  refine RW.buildSlice hM st61 tz71 [] [] (by decide) rfl rfl rfl (by decide) rfl rfl ?_; intro b3 w hM
  have hd4 : DtL H [] ([] : List Sec) := DtL.nil
  replace hM : Mem w0 H w H [.row (.slice (some ⟨b3, 0, none⟩) 0 0) 71 8 0 []] := hM
  refine RW.st (Ex.move (.slice A1 n1 c1) rfl) rfl ?_
  obtain ⟨hg11, hm⟩ := hm
  refine RW.appendF (α := Sec) (xs := ([] : List Sec)) (ys := x0) hM 0 st61 rfl rfl hd4 rfl rfl (Hp.le.refl _) hF1 hg11 rfl rfl ?_; intro A5 n6 c7 s8 w hd9 hn10 hM
  replace hM : Mem w0 H w H [.row (.slice A5 n6 c7) 71 8 n6 s8] := hM
  refine RW.st (Ex.assign (.slice A5 n6 c7) rfl) rfl <| RW.nil <| CW.ret ?_
  refine end_tmp (.inl rfl) rfl (.slice A5 n6 c7) rfl ?_
  exact ⟨_, _, hM, (([] : List Sec) ++ x0), hm, A5, n6, c7, s8, rfl, hd9, hn10, rfl⟩
theorem image_New_1_lift {H : Hp} (x0 : Int) {Φ : List Sec → Prop} (hm : image_New_1_W x0 Φ) : RetP Tryd.prog 139 #[.int .i64 x0] H (fun H' v L => ∃ y, Φ y ∧ ∃ A9, ∃ n9, ∃ c9, ∃ s9, v = .slice A9 n9 c9 ∧ DtL (α := Sec) H' s9 y ∧ n9 = y.length ∧ L = [.row (.slice A9 n9 c9) 71 8 n9 s9]) := by
 refine RetP.of_code Tryd.func139 rfl (Nat.le_of_ble_eq_true rfl) fun w0 hM => ?_
 refine CW.seq <| CW.region <| RW.st (Ex.assign (.slice none 0 0) rfl) rfl <| RW.nil <| CW.seq <| CW.region <| RW.st (Ex.move (.int .i64 x0) rfl) rfl ?_
 obtain ⟨hg7, hm⟩ := hm
 obtain ⟨hg8, hm⟩ := hm
 refine RW.makeD (α := Sec) (x0 := sec0) hM st61 tz71 [.int .u8 (0), .int .u8 (0), .int .u8 (0), .int .u8 (0), .int .u8 (0), .int .u8 (0), .int .u8 (0), .int .u8 (0)] rfl (fun _ => rfl) rfl rfl hg7 hg8 rfl rfl ?_; intro b1 n2 s4 w hd5 hn6 hM
 replace hM : Mem w0 H w H [.row (.slice (some ⟨b1, 0, none⟩) n2 n2) 71 8 n2 s4] := hM
 refine RW.st (Ex.assign (.slice (some ⟨b1, 0, none⟩) n2 n2) rfl) rfl <| RW.nil <| CW.ret ?_
 refine end_tmp (.inl rfl) rfl (.slice (some ⟨b1, 0, none⟩) n2 n2) rfl ?_
 exact ⟨_, _, hM, (List.replicate x0.toNat sec0), hm, (some ⟨b1, 0, none⟩), n2, n2, s4, rfl, hd5, hn6, rfl⟩
end Go.Proofs.YtahlanamngfkcaaDoor

namespace Go.Proofs.YtahlanamngfkcaaDoor
open Go.RowKit
theorem law47_small_lift {H : Hp} (x0 : List api_Write) {A1 : Option Addr} {n1 c1 : Nat} {s1 : List Value} (hF1 : Fz (α := api_Write) H A1 n1 c1 x0 s1) {Φ : Bool → Prop} (hm : law47_small_W x0 Φ) : RetP Tryd.prog 20 #[.slice A1 n1 c1] H (fun _ v L => ∃ y, Φ y ∧ v = .bool y ∧ L = []) := by
 refine RetP.of_code Tryd.func20 rfl (Nat.le_of_ble_eq_true rfl) fun w0 hM => ?_
 refine CW.seq <| CW.region <| RW.st (Ex.assign (.bool false) rfl) rfl <| RW.nil <| CW.seq <| CW.seq <| CW.region <| RW.st (Ex.assign (.int .i64 0) rfl) rfl <| RW.nil <| CW.block ?_
 obtain ⟨m13, hm⟩ := hm
 skip
 refine CW.loop (β := Nat) (fun n σ w => ∃ (v4 : Int), ∃ Hk2, H.le Hk2 ∧ (∃ τ, σ = sl [(0, .slice A1 n1 c1), (3, .int .i64 v4)] τ) ∧ Mem w0 H w Hk2 [] ∧ LoopN (law47_small_L1 x0 Φ) n (v4)) (fun n => n) m13 ⟨0, H, (Hp.le.refl _), sl_canon ⟨rfl, rfl, trivial⟩, hM, hm⟩ ?_
 rintro k5 _ w ⟨v4, Hk2, hle3, ⟨τ, rfl⟩, hM, hm⟩
 obtain _ | k5 := k5
 · exact hm.elim
 replace hm : (law47_small_L1 x0 Φ) (v4) (LoopN (law47_small_L1 x0 Φ) k5) := hm
 generalize hrec6 : LoopN (law47_small_L1 x0 Φ) k5 = rec1 at hm
 refine CW.seq <| CW.seq <| CW.region <| RW.st (Ex.move (.int .i64 v4) rfl) rfl <| RW.st (Ex.move (.slice A1 n1 c1) rfl) rfl <| RW.st (Ex.lenN st43.1 rfl hF1.hn) rfl <| RW.st (Ex.lss rfl rfl) rfl <| RW.nil ?_
 refine CW.cond_dec (p := v4 < (x0.length : Int)) rfl (fun hc7 => ?_) (fun hc7 => ?_)
 ·
  replace hm := And.left hm hc7
  refine CW.skip <| CW.seq <| CW.block <| CW.seq <| CW.region <| RW.st (Ex.move (.slice A1 n1 c1) rfl) rfl <| RW.st (Ex.move (.int .i64 v4) rfl) rfl ?_
  obtain ⟨hg8, hm⟩ := hm
  refine RW.st (Ex.index st43 rfl rfl v4.toNat (hF1.ne hg8) hg8.nat (hF1.lt hg8)) rfl <| RW.st (Ex.fieldE fa100_2 (hF1.ne hg8) rfl) rfl ?_
  obtain ⟨_, ⟨A9, n9, c9, s9, rfl, hF9⟩, hx10⟩ := DtL.getI (α := api_Write) (hF1.mono hle3).dat hg8
  refine RW.st (Ex.loadE hM hle3 hF1.rdc to61 rfl (hx10 2 _ rfl)) rfl <| RW.st (Ex.lenN st61.1 rfl hF9.hn) rfl <| RW.st (Ex.gtr rfl rfl) rfl <| RW.nil ?_
  refine CW.cond_dec (p := 20 < (((ix x0 v4).Data).length : Int)) rfl (fun hc11 => ?_) (fun hc11 => ?_)
  ·
   replace hm := And.left hm hc11
   refine CW.seq <| CW.region <| RW.st (Ex.assign (.bool false) rfl) rfl <| RW.nil <| CW.ret ?_
   refine blockQ_ret (thenQ_ret (thenQ_ret (blockQ_ret (thenQ_ret ?_))))
   refine end_tmp (.inl rfl) rfl (.bool false) rfl ?_
   exact ⟨_, _, hM, false, hm, rfl, rfl⟩
  ·
   replace hm := And.right hm hc11
   refine CW.skip <| CW.region <| RW.st (Ex.move (.int .i64 v4) rfl) rfl ?_
   obtain ⟨hg12, hm⟩ := hm
   refine RW.st (Ex.add rfl rfl hg12.1 hg12.2) rfl <| RW.st (Ex.assign (.int .i64 (v4 + 1)) rfl) rfl <| RW.nil ?_
   exact And.intro rfl ⟨k5, ⟨v4 + 1, Hk2, hle3.trans (Hp.le.refl _), sl_canon ⟨rfl, rfl, trivial⟩, hM, (by rw [hrec6]; exact hm)⟩, Nat.lt_succ_self _⟩
 ·
  replace hm := And.right hm hc7
  refine CW.exit ?_
  refine CW.seq <| CW.region <| RW.st (Ex.move (.slice A1 n1 c1) rfl) rfl <| RW.st (Ex.lenN st43.1 rfl hF1.hn) rfl <| RW.st (Ex.leq rfl rfl) rfl <| RW.st (Ex.assign (.bool (decide ((x0.length : Int) ≤ 12))) rfl) rfl <| RW.nil <| CW.ret ?_
  refine end_tmp (.inl rfl) rfl (.bool (decide ((x0.length : Int) ≤ 12))) rfl ?_
  exact ⟨_, _, hM, decide ((x0.length : Int) ≤ 12), hm, rfl, rfl⟩
theorem ref07_SameVolume_lift {H : Hp} (x0 : List Sec) (x1 : List Sec) {A1 : Option Addr} {n1 c1 : Nat} {s1 : List Value} (hF1 : Fz (α := Sec) H A1 n1 c1 x0 s1) {A2 : Option Addr} {n2 c2 : Nat} {s2 : List Value} (hF2 : Fz (α := Sec) H A2 n2 c2 x1 s2) {Φ : Bool → Prop} (hm : ref07_SameVolume_W x0 x1 Φ) : RetP Tryd.prog 64 #[.slice A1 n1 c1, .slice A2 n2 c2] H (fun _ v L => ∃ y, Φ y ∧ v = .bool y ∧ L = []) := by
 refine RetP.of_code Tryd.func64 rfl (Nat.le_of_ble_eq_true rfl) fun w0 hM => ?_
 refine CW.seq <| CW.region <| RW.st (Ex.assign (.bool false) rfl) rfl <| RW.nil <| CW.seq <| CW.seq <| CW.region <| RW.st (Ex.move (.slice A1 n1 c1) rfl) rfl <| RW.st (Ex.lenN st61.1 rfl hF1.hn) rfl <| RW.st (Ex.move (.slice A2 n2 c2) rfl) rfl <| RW.st (Ex.lenN st61.1 rfl hF2.hn) rfl <| RW.st (Ex.neq rfl rfl) rfl <| RW.nil ?_
 refine CW.cond_dec (p := (x0.length : Int) ≠ (x1.length : Int)) rfl (fun hc3 => ?_) (fun hc3 => ?_)
 ·
  replace hm := And.left hm hc3
  refine CW.seq <| CW.region <| RW.st (Ex.assign (.bool false) rfl) rfl <| RW.nil <| CW.ret ?_
  refine thenQ_ret ?_
  refine end_tmp (.inl rfl) rfl (.bool false) rfl ?_
  exact ⟨_, _, hM, false, hm, rfl, rfl⟩
 ·
  replace hm := And.right hm hc3
  refine CW.skip <| CW.seq <| CW.seq <| CW.region <| RW.st (Ex.assign (.int .i64 0) rfl) rfl <| RW.nil <| CW.block ?_
  obtain ⟨m16, hm⟩ := hm
  skip
  refine CW.loop (β := Nat) (fun n σ w => ∃ (v6 : Int), ∃ Hk4, H.le Hk4 ∧ (∃ τ, σ = sl [(0, .slice A1 n1 c1), (1, .slice A2 n2 c2), (5, .int .i64 v6)] τ) ∧ Mem w0 H w Hk4 [] ∧ LoopN (ref07_SameVolume_L1 x0 x1 Φ) n (v6)) (fun n => n) m16 ⟨0, H, (Hp.le.refl _), sl_canon ⟨rfl, rfl, rfl, trivial⟩, hM, hm⟩ ?_
  rintro k7 _ w ⟨v6, Hk4, hle5, ⟨τ, rfl⟩, hM, hm⟩
  obtain _ | k7 := k7
  · exact hm.elim
  replace hm : (ref07_SameVolume_L1 x0 x1 Φ) (v6) (LoopN (ref07_SameVolume_L1 x0 x1 Φ) k7) := hm
  generalize hrec8 : LoopN (ref07_SameVolume_L1 x0 x1 Φ) k7 = rec1 at hm
  refine CW.seq <| CW.seq <| CW.region <| RW.st (Ex.move (.int .i64 v6) rfl) rfl <| RW.st (Ex.move (.slice A1 n1 c1) rfl) rfl <| RW.st (Ex.lenN st61.1 rfl hF1.hn) rfl <| RW.st (Ex.lss rfl rfl) rfl <| RW.nil ?_
  refine CW.cond_dec (p := v6 < (x0.length : Int)) rfl (fun hc9 => ?_) (fun hc9 => ?_)
  ·
   replace hm := And.left hm hc9
   refine CW.skip <| CW.seq <| CW.block <| CW.seq ?_
   obtain ⟨hg10, hm⟩ := hm
   obtain ⟨_, rfl, hx11⟩ := DtL.getI (α := Sec) (hF1.mono hle5).dat hg10
   obtain ⟨hg12, hm⟩ := hm
   obtain ⟨_, rfl, hx13⟩ := DtL.getI (α := Sec) (hF2.mono hle5).dat hg12
   refine CW.drawE 9 [.slice A1 n1 c1, .int .i64 v6, elp A1 (v6.toNat * 8 + 0), .agg #[u8 (ix x0 v6).b0, u8 (ix x0 v6).b1, u8 (ix x0 v6).b2, u8 (ix x0 v6).b3, u8 (ix x0 v6).b4, u8 (ix x0 v6).b5, u8 (ix x0 v6).b6, u8 (ix x0 v6).b7], .slice A2 n2 c2, .int .i64 v6, elp A2 (v6.toNat * 8 + 0), .agg #[u8 (ix x1 v6).b0, u8 (ix x1 v6).b1, u8 (ix x1 v6).b2, u8 (ix x1 v6).b3, u8 (ix x1 v6).b4, u8 (ix x1 v6).b5, u8 (ix x1 v6).b6, u8 (ix x1 v6).b7], .bool (decide ((ix x0 v6) ≠ (ix x1 v6)))]
    [[(0, none)], [(5, none)], [(17, some 0), (18, some 1)], [(19, some 2)], [(1, none)], [(5, none)], [(21, some 4), (22, some 5)], [(23, some 6)], [(20, some 3), (24, some 7)]] [(0, none), (1, none), (5, none), (25, some 8)] (by kernel_rfl) hM (by kernel_rfl) ⟨?_, ?_, ?_, ?_, ?_, ?_, ?_, ?_, ?_, trivial⟩ ?_
   · exact One.ex (fun H' τ w hled hM => Ex.move (.slice A1 n1 c1) rfl) rfl (fun _ => rfl) rfl
   · exact One.ex (fun H' τ w hled hM => Ex.move (.int .i64 v6) rfl) rfl (fun _ => rfl) rfl
   · exact One.ex (fun H' τ w hled hM => Ex.index st61 rfl rfl v6.toNat (hF1.ne hg10) hg10.nat (hF1.lt hg10)) rfl (fun _ => rfl) rfl
   · exact One.ex (fun H' τ w hled hM => Ex.loadEA hM (hle5.trans hled) hF1.rdc [u8 (ix x0 v6).b0, u8 (ix x0 v6).b1, u8 (ix x0 v6).b2, u8 (ix x0 v6).b3, u8 (ix x0 v6).b4, u8 (ix x0 v6).b5, u8 (ix x0 v6).b6, u8 (ix x0 v6).b7] ta71 rfl (hF1.ne hg10) rfl (chunk_sub (off := 0) (n := 8) hx11 rfl)) rfl (fun _ => rfl) rfl
   · exact One.ex (fun H' τ w hled hM => Ex.move (.slice A2 n2 c2) rfl) rfl (fun _ => rfl) rfl
   · exact One.ex (fun H' τ w hled hM => Ex.move (.int .i64 v6) rfl) rfl (fun _ => rfl) rfl
   · exact One.ex (fun H' τ w hled hM => Ex.index st61 rfl rfl v6.toNat (hF2.ne hg12) hg12.nat (hF2.lt hg12)) rfl (fun _ => rfl) rfl
   · exact One.ex (fun H' τ w hled hM => Ex.loadEA hM (hle5.trans hled) hF2.rdc [u8 (ix x1 v6).b0, u8 (ix x1 v6).b1, u8 (ix x1 v6).b2, u8 (ix x1 v6).b3, u8 (ix x1 v6).b4, u8 (ix x1 v6).b5, u8 (ix x1 v6).b6, u8 (ix x1 v6).b7] ta71 rfl (hF2.ne hg12) rfl (chunk_sub (off := 0) (n := 8) hx13 rfl)) rfl (fun _ => rfl) rfl
   · exact One.ex (fun H' τ w hled hM => Ex.neqX (a := (ix x0 v6)) (b := (ix x1 v6)) sx71 rfl rfl) rfl (fun _ => rfl) rfl
   intro τ w hM
   change RW _ _ _ _ _ _ _ _ (sl [(0, .slice A1 n1 c1), (1, .slice A2 n2 c2), (5, .int .i64 v6), (25, .bool (decide ((ix x0 v6) ≠ (ix x1 v6))))] τ) _
   refine RW.nil ?_
   refine CW.cond_dec (p := (ix x0 v6) ≠ (ix x1 v6)) rfl (fun hc14 => ?_) (fun hc14 => ?_)
   ·
    replace hm := And.left hm hc14
    refine CW.seq <| CW.region <| RW.st (Ex.assign (.bool false) rfl) rfl <| RW.nil <| CW.ret ?_
    refine blockQ_ret (thenQ_ret (thenQ_ret (blockQ_ret (thenQ_ret ?_))))
    refine end_tmp (.inl rfl) rfl (.bool false) rfl ?_
    exact ⟨_, _, hM, false, hm, rfl, rfl⟩
   ·
    replace hm := And.right hm hc14
    refine CW.skip <| CW.region <| RW.st (Ex.move (.int .i64 v6) rfl) rfl ?_
    obtain ⟨hg15, hm⟩ := hm
    refine RW.st (Ex.add rfl rfl hg15.1 hg15.2) rfl <| RW.st (Ex.assign (.int .i64 (v6 + 1)) rfl) rfl <| RW.nil ?_
    exact And.intro rfl ⟨k7, ⟨v6 + 1, Hk4, hle5.trans (Hp.le.refl _), sl_canon ⟨rfl, rfl, rfl, trivial⟩, hM, (by rw [hrec8]; exact hm)⟩, Nat.lt_succ_self _⟩
  ·
   replace hm := And.right hm hc9
   refine CW.exit ?_
   refine CW.seq <| CW.region <| RW.st (Ex.assign (.bool true) rfl) rfl <| RW.nil <| CW.ret ?_
   refine end_tmp (.inl rfl) rfl (.bool true) rfl ?_
   exact ⟨_, _, hM, true, hm, rfl, rfl⟩
end Go.Proofs.YtahlanamngfkcaaDoor

namespace Go.Proofs.YtahlanamngfkcaaDoor
open Go.RowKit
theorem ref07_New_lift {H : Hp} (x0 : List Int) {A1 : Option Addr} {n1 c1 : Nat} {s1 : List Value} (hF1 : Fz (α := Int) H A1 n1 c1 x0 s1) {Φ : List (List Sec) × Int → Prop} (hm : ref07_New_W x0 Φ) : RetP Tryd.prog 61 #[.slice A1 n1 c1] H (fun H' v L => ∃ y, Φ y ∧ ∃ A43, ∃ n43, ∃ c43, ∃ s43, v = .tuple #[.slice A43 n43 c43, .int .i64 (y.2)] ∧ DtL (α := List Sec) H' s43 y.1 ∧ n43 = y.1.length ∧ L = [.row (.slice A43 n43 c43) 61 1 n43 s43]) := by
 refine RetP.of_code Tryd.func61 rfl (Nat.le_of_ble_eq_true rfl) fun w0 hM => ?_
 refine CW.seq <| CW.region <| RW.st (Ex.assign (.slice none 0 0) rfl) rfl <| RW.st (Ex.assign (.int .i64 0) rfl) rfl <| RW.nil <| CW.seq <| CW.seq <| CW.region <| RW.st (Ex.move (.slice A1 n1 c1) rfl) rfl ?_
 refine RW.callP hM (ref07_Sizes_lift x0 hF1 hm) en73 rfl rfl rfl rfl ?_; rintro _ w H3 _ hle4 ⟨v2, hm, rfl, rfl⟩ hM
 replace hM : Mem w0 H w H3 [] := hM
 refine RW.st (Ex.assign (.int .i64 v2) rfl) rfl <| RW.nil <| CW.seq <| CW.region <| RW.st (Ex.move (.int .i64 v2) rfl) rfl <| RW.st (Ex.neq rfl rfl) rfl <| RW.nil ?_
 refine CW.cond_dec (p := v2 ≠ 0) rfl (fun hc5 => ?_) (fun hc5 => ?_)
 ·
  replace hm := And.left hm hc5
  refine CW.seq <| CW.region <| RW.st (Ex.move (.int .i64 v2) rfl) rfl <| RW.st (Ex.assign (.slice none 0 0) rfl) rfl <| RW.st (Ex.assign (.int .i64 v2) rfl) rfl <| RW.nil <| CW.ret ?_
  refine thenQ_ret ?_
  refine end_tmp2 (.inl rfl) rfl (.slice none 0 0) (.int .i64 v2) rfl rfl ?_
  replace hM := hM.nilRow 61 1
  exact ⟨_, _, hM, (([] : List (List Sec)), v2), hm, none, 0, 0, [], rfl, (DtL.nil : DtL _ [] ([] : List (List Sec))), rfl, rfl⟩
 ·
  replace hm := And.right hm hc5
  refine CW.skip <| CW.seq <| CW.region <| RW.st (Ex.assign (.slice none 0 0) rfl) rfl <| RW.nil <| CW.seq <| CW.seq <| CW.region <| RW.st (Ex.assign (.int .i64 0) rfl) rfl <| RW.nil <| CW.block ?_
  obtain ⟨m42, hm⟩ := hm
  skip
  replace hM := hM.nilRow 61 1
  refine CW.loop (β := Nat) (fun n σ w => ∃ (v8 : List (List Sec)), ∃ (A9 : Option Addr), ∃ (n10 : Nat), ∃ (c11 : Nat), ∃ (s12 : List Value), ∃ (v15 : Int), ∃ Hk6, H3.le Hk6 ∧ (∃ τ, σ = sl [(0, .slice A1 n1 c1), (5, .slice A9 n10 c11), (6, .int .i64 v15)] τ) ∧ Mem w0 H w Hk6 [.row (.slice A9 n10 c11) 61 1 n10 s12] ∧ (DtL (α := List Sec) Hk6 s12 v8) ∧ (n10 = v8.length) ∧ LoopN (ref07_New_L1 x0 Φ) n (v8, v15)) (fun n => n) m42 ⟨([] : List (List Sec)), none, 0, 0, [], 0, H3, (Hp.le.refl _), sl_canon ⟨rfl, rfl, rfl, trivial⟩, hM, (DtL.nil : DtL _ [] ([] : List (List Sec))), rfl, hm⟩ ?_
  rintro k16 _ w ⟨v8, A9, n10, c11, s12, v15, Hk6, hle7, ⟨τ, rfl⟩, hM, hd13, hn14, hm⟩
  obtain _ | k16 := k16
  · exact hm.elim
  replace hm : (ref07_New_L1 x0 Φ) (v8, v15) (LoopN (ref07_New_L1 x0 Φ) k16) := hm
  generalize hrec17 : LoopN (ref07_New_L1 x0 Φ) k16 = rec1 at hm
  refine CW.seq <| CW.seq <| CW.region <| RW.st (Ex.move (.int .i64 v15) rfl) rfl <| RW.st (Ex.move (.slice A1 n1 c1) rfl) rfl <| RW.st (Ex.lenN st40.1 rfl hF1.hn) rfl <| RW.st (Ex.lss rfl rfl) rfl <| RW.nil ?_
  refine CW.cond_dec (p := v15 < (x0.length : Int)) rfl (fun hc18 => ?_) (fun hc18 => ?_)
  ·
   replace hm := And.left hm hc18
   refine CW.skip <| CW.seq <| CW.block <| CW.region <| RW.st (Ex.move (.slice A9 n10 c11) rfl) rfl <| RW.st (Ex.move (.slice A1 n1 c1) rfl) rfl <| RW.st (Ex.move (.int .i64 v15) rfl) rfl ?_
   obtain ⟨hg19, hm⟩ := hm
   refine RW.st (Ex.index st40 rfl rfl v15.toNat (hF1.ne hg19) hg19.nat (hF1.lt hg19)) rfl ?_
   obtain ⟨_, rfl, hx20⟩ := DtL.getI (α := Int) (hF1.mono (hle4.trans hle7)).dat hg19
   refine RW.st (Ex.loadE hM (hle4.trans hle7) hF1.rdc to3 rfl (hx20 0 _ rfl)) rfl ?_
   obtain ⟨hg27, hm⟩ := hm
   obtain ⟨hg28, hm⟩ := hm
   refine RW.makeD (α := Sec) (x0 := sec0) hM st61 tz71 [.int .u8 (0), .int .u8 (0), .int .u8 (0), .int .u8 (0), .int .u8 (0), .int .u8 (0), .int .u8 (0), .int .u8 (0)] rfl (fun _ => rfl) rfl rfl hg27 hg28 rfl rfl ?_; intro b21 n22 s24 w hd25 hn26 hM
   replace hM : Mem w0 H w Hk6 [.row (.slice (some ⟨b21, 0, none⟩) n22 n22) 71 8 n22 s24, .row (.slice A9 n10 c11) 61 1 n10 s12] := hM
   obtain ⟨H29, hM, hle30, hF31⟩ := hM.giveF (α := Sec) 0 rfl hd25 hn26
   replace hM : Mem w0 H w H29 [.row (.slice A9 n10 c11) 61 1 n10 s12] := hM
   refine RW.buildSlice hM st25 tz61 [(0, .slice (some ⟨b21, 0, none⟩) n22 n22)] [.slice (some ⟨b21, 0, none⟩) n22 n22] (by decide) rfl rfl rfl (by decide) rfl rfl ?_; intro b32 w hM
   have hd33 : DtL H29 [.slice (some ⟨b21, 0, none⟩) n22 n22] ([(List.replicate (ix x0 v15).toNat sec0)] : List (List Sec)) := (DtL.cons (c1 := [.slice (some ⟨b21, 0, none⟩) n22 n22]) ⟨_, _, _, _, rfl, hF31⟩ DtL.nil)
   replace hM : Mem w0 H w H29 [.row (.slice (some ⟨b32, 0, none⟩) 1 1) 61 1 1 [.slice (some ⟨b21, 0, none⟩) n22 n22], .row (.slice A9 n10 c11) 61 1 n10 s12] := hM
   obtain ⟨hg40, hm⟩ := hm
   refine RW.appendD (α := List Sec) (xs := v8) (ys := ([(List.replicate (ix x0 v15).toNat sec0)] : List (List Sec))) hM 1 st25 rfl rfl (hd13.mono hle30) hn14 rfl (fun j u hj => hM.rowCell (k := 0) rfl rfl hj) hd33 rfl hg40 rfl rfl ?_; intro A34 n35 c36 s37 w hd38 hn39 hM
   replace hM : Mem w0 H w H29 [.row (.slice (some ⟨b32, 0, none⟩) 1 1) 61 1 1 [.slice (some ⟨b21, 0, none⟩) n22 n22], .row (.slice A34 n35 c36) 61 1 n35 s37] := hM
   refine RW.st (Ex.assign (.slice A34 n35 c36) rfl) rfl <| RW.nil <| CW.region <| RW.st (Ex.move (.int .i64 v15) rfl) rfl ?_
   obtain ⟨hg41, hm⟩ := hm
   refine RW.st (Ex.add rfl rfl hg41.1 hg41.2) rfl <| RW.st (Ex.assign (.int .i64 (v15 + 1)) rfl) rfl <| RW.nil ?_
   exact And.intro rfl ⟨k16, ⟨(v8 ++ ([(List.replicate (ix x0 v15).toNat sec0)] : List (List Sec))), A34, n35, c36, s37, v15 + 1, H29, hle7.trans hle30, sl_canon ⟨rfl, rfl, rfl, trivial⟩, (hM.pick [1] rfl rfl), hd38, hn39, (by rw [hrec17]; exact hm)⟩, Nat.lt_succ_self _⟩
  ·
   replace hm := And.right hm hc18
   refine CW.exit ?_
   refine CW.seq <| CW.region <| RW.st (Ex.move (.slice A9 n10 c11) rfl) rfl <| RW.st (Ex.assign (.slice A9 n10 c11) rfl) rfl <| RW.st (Ex.assign (.int .i64 0) rfl) rfl <| RW.nil <| CW.ret ?_
   refine end_tmp2 (.inl rfl) rfl (.slice A9 n10 c11) (.int .i64 0) rfl rfl ?_
   exact ⟨_, _, hM, (v8, 0), hm, A9, n10, c11, s12, rfl, hd13, hn14, rfl⟩
theorem image_mapped_api_Sector_api_Sector__slices_Clone_api_Sector_api_Sector_lift {H : Hp} (x0 : List (List Sec)) {A1 : Option Addr} {n1 c1 : Nat} {s1 : List Value} (hF1 : Fz (α := List Sec) H A1 n1 c1 x0 s1) {Φ : List (List Sec) → Prop} (hm : image_mapped_api_Sector_api_Sector__slices_Clone_api_Sector_api_Sector_W x0 Φ) : RetP Tryd.prog 148 #[.slice A1 n1 c1, .func (.func 52) #[] #[]] H (fun H' v L => ∃ y, Φ y ∧ ∃ A45, ∃ n45, ∃ c45, ∃ s45, ∃ rs46, v = .slice A45 n45 c45 ∧ DeepL (α := List Sec) [71] H' s45 y rs46 ∧ n45 = y.length ∧ L = .row (.slice A45 n45 c45) 61 1 n45 s45 :: rs46) := by
 refine RetP.of_code Tryd.func148 rfl (Nat.le_of_ble_eq_true rfl) fun w0 hM => ?_
 refine CW.seq <| CW.region <| RW.st (Ex.assign (.slice none 0 0) rfl) rfl <| RW.nil <| CW.seq <| CW.region <| RW.st (Ex.move (.slice A1 n1 c1) rfl) rfl <| RW.st (Ex.lenN st24.1 rfl hF1.hn) rfl ?_
 obtain ⟨hg8, hm⟩ := hm
 obtain ⟨hg9, hm⟩ := hm
 refine RW.makeE (α := List Sec) hM st24 tz61 rfl rfl hg8 hg9 rfl rfl ?_; intro b2 n3 c4 s5 w hd6 hn7 hM
 replace hM : Mem w0 H w H [.row (.slice (some ⟨b2, 0, none⟩) n3 c4) 61 1 n3 s5] := hM
 refine RW.st (Ex.assign (.slice (some ⟨b2, 0, none⟩) n3 c4) rfl) rfl <| RW.nil <| CW.seq <| CW.seq <| CW.region <| RW.st (Ex.move (.slice A1 n1 c1) rfl) rfl <| RW.st (Ex.lenN st24.1 rfl hF1.hn) rfl <| RW.st (Ex.move (.int .i64 0) rfl) rfl <| RW.nil <| CW.block ?_
 obtain ⟨m44, hm⟩ := hm
 skip
 refine CW.loop (β := Nat) (fun n σ w => ∃ (v12 : List (List Sec)), ∃ (A13 : Option Addr), ∃ (n14 : Nat), ∃ (c15 : Nat), ∃ (s16 : List Value), ∃ (rs17 : List Ent), ∃ (v20 : Int), ∃ Hk10, H.le Hk10 ∧ (∃ τ, σ = sl [(1, .func (.func 52) #[] #[]), (5, .slice A13 n14 c15), (11, .slice A1 n1 c1), (12, .int .i64 ((x0.length : Int))), (13, .int .i64 v20)] τ) ∧ Mem w0 H w Hk10 (.row (.slice A13 n14 c15) 61 1 n14 s16 :: rs17) ∧ (DeepL (α := List Sec) [71] Hk10 s16 v12 rs17) ∧ (n14 = v12.length) ∧ LoopN (image_mapped_api_Sector_api_Sector__slices_Clone_api_Sector_api_Sector_L1 x0 Φ) n (v12, v20)) (fun n => n) m44 ⟨([] : List (List Sec)), (some ⟨b2, 0, none⟩), n3, c4, s5, [], 0, H, (Hp.le.refl _), sl_canon ⟨rfl, rfl, rfl, rfl, rfl, trivial⟩, hM, (DeepL.ofNil (Ts := [71]) hd6), hn7, hm⟩ ?_
 rintro k21 _ w ⟨v12, A13, n14, c15, s16, rs17, v20, Hk10, hle11, ⟨τ, rfl⟩, hM, hd18, hn19, hm⟩
 obtain _ | k21 := k21
 · exact hm.elim
 replace hm : (image_mapped_api_Sector_api_Sector__slices_Clone_api_Sector_api_Sector_L1 x0 Φ) (v12, v20) (LoopN (image_mapped_api_Sector_api_Sector__slices_Clone_api_Sector_api_Sector_L1 x0 Φ) k21) := hm
 generalize hrec22 : LoopN (image_mapped_api_Sector_api_Sector__slices_Clone_api_Sector_api_Sector_L1 x0 Φ) k21 = rec1 at hm
 refine CW.seq <| CW.region <| RW.st (Ex.lss rfl rfl) rfl <| RW.nil <| CW.seq ?_
 refine CW.cond_dec (p := v20 < (x0.length : Int)) rfl (fun hc23 => ?_) (fun hc23 => ?_)
 ·
  replace hm := And.left hm hc23
  refine CW.skip <| CW.seq <| CW.block <| CW.seq <| CW.region ?_
  obtain ⟨hg24, hm⟩ := hm
  refine RW.st (Ex.index st24 rfl rfl v20.toNat (hF1.ne hg24) hg24.nat (hF1.lt hg24)) rfl ?_
  obtain ⟨_, ⟨A25, n25, c25, s25, rfl, hF25⟩, hx26⟩ := DtL.getI (α := List Sec) (hF1.mono hle11).dat hg24
  refine RW.st (Ex.loadE hM hle11 hF1.rdc to61 rfl (hx26 0 _ rfl)) rfl <| RW.st (Ex.assign (.slice A25 n25 c25) rfl) rfl <| RW.nil <| CW.region <| RW.st (Ex.move (.slice A13 n14 c15) rfl) rfl <| RW.st (Ex.move (.func (.func 52) #[] #[]) rfl) rfl <| RW.st (Ex.move (.slice A25 n25 c25) rfl) rfl ?_
  refine RW.callP hM (slices_Clone_api_Sector_api_Sector_lift (ix x0 v20) hF25 hm) en52 rfl rfl rfl rfl ?_; rintro _ w H28 _ hle29 ⟨v27, hm, A30, n30, c30, s30, rfl, hd31, hn32, rfl⟩ hM
  replace hM : Mem w0 H w H28 (.row (.slice A30 n30 c30) 71 8 n30 s30 :: .row (.slice A13 n14 c15) 61 1 n14 s16 :: rs17) := hM
  refine RW.buildSlice hM st24 tz61 [(0, .slice A30 n30 c30)] [.slice A30 n30 c30] (by decide) rfl rfl rfl (by decide) rfl rfl ?_; intro b33 w hM
  replace hM : Mem w0 H w H28 (.row (.slice (some ⟨b33, 0, none⟩) 1 1) 61 1 1 [.slice A30 n30 c30] :: .row (.slice A30 n30 c30) 71 8 n30 s30 :: .row (.slice A13 n14 c15) 61 1 n14 s16 :: rs17) := hM
  obtain ⟨hg39, hm⟩ := hm
  refine RW.appendH (α := List Sec) (xs := v12) (x0 := v27) hM 2 st24 rfl rfl hn19 rfl (fun j u hj => hM.rowCell (k := 0) rfl rfl hj) rfl (oneAll ⟨rfl, trivial⟩) hg39 rfl rfl ?_; intro A35 n36 c37 w hn38 hM
  replace hM : Mem w0 H w H28 (.row (.slice (some ⟨b33, 0, none⟩) 1 1) 61 1 1 [.slice A30 n30 c30] :: .row (.slice A30 n30 c30) 71 8 n30 s30 :: .row (.slice A35 n36 c37) 61 1 n36 (s16 ++ [.slice A30 n30 c30]) :: rs17) := hM
  obtain ⟨s40, rs41, hd42, hM⟩ := Mem.adopt (α := List Sec) (Ts := [71]) (x := v27) [.row (.slice (some ⟨b33, 0, none⟩) 1 1) 61 1 1 [.slice A30 n30 c30], .row (.slice A35 n36 c37) 61 1 n36 (s16 ++ [.slice A30 n30 c30])] (Mem.pickT (L1 := [.row (.slice (some ⟨b33, 0, none⟩) 1 1) 61 1 1 [.slice A30 n30 c30], .row (.slice A30 n30 c30) 71 8 n30 s30, .row (.slice A35 n36 c37) 61 1 n36 (s16 ++ [.slice A30 n30 c30])]) (T := rs17) hM [1, 0, 2] rfl rfl) 1 rfl (hd18.mono hle29) ⟨A30, n30, c30, s30, rfl, rfl, hd31, hn32⟩
  replace hM : Mem w0 H w H28 (.row (.slice A35 n36 c37) 61 1 n36 s40 :: rs41) := Mem.pickT (L1 := [.row (.slice (some ⟨b33, 0, none⟩) 1 1) 61 1 1 [.slice A30 n30 c30], .row (.slice A35 n36 c37) 61 1 n36 s40]) (T := rs41) hM [1] rfl rfl
  refine RW.st (Ex.assign (.slice A35 n36 c37) rfl) rfl <| RW.nil <| CW.region ?_
  obtain ⟨hg43, hm⟩ := hm
  refine RW.st (Ex.add rfl rfl hg43.1 hg43.2) rfl <| RW.st (Ex.move (.int .i64 (v20 + 1)) rfl) rfl <| RW.nil ?_
  exact And.intro rfl ⟨k21, ⟨(v12 ++ [v27]), A35, n36, c37, s40, rs41, v20 + 1, H28, hle11.trans hle29, sl_canon ⟨rfl, rfl, rfl, rfl, rfl, trivial⟩, hM, hd42, hn38, (by rw [hrec22]; exact hm)⟩, Nat.lt_succ_self _⟩
 ·
  replace hm := And.right hm hc23
  refine CW.exit ?_
  refine CW.seq <| CW.region <| RW.st (Ex.move (.slice A13 n14 c15) rfl) rfl <| RW.st (Ex.assign (.slice A13 n14 c15) rfl) rfl <| RW.nil <| CW.ret ?_
  refine end_tmp (.inl rfl) rfl (.slice A13 n14 c15) rfl ?_
  exact ⟨_, _, hM, v12, hm, A13, n14, c15, s16, rs17, rfl, hd18, hn19, rfl⟩
theorem ref07_Same_lift {H : Hp} (x0 : List (List Sec)) (x1 : List (List Sec)) {A1 : Option Addr} {n1 c1 : Nat} {s1 : List Value} (hF1 : Fz (α := List Sec) H A1 n1 c1 x0 s1) {A2 : Option Addr} {n2 c2 : Nat} {s2 : List Value} (hF2 : Fz (α := List Sec) H A2 n2 c2 x1 s2) {Φ : Bool → Prop} (hm : ref07_Same_W x0 x1 Φ) : RetP Tryd.prog 24 #[.slice A1 n1 c1, .slice A2 n2 c2] H (fun _ v L => ∃ y, Φ y ∧ v = .bool y ∧ L = []) := by
 refine RetP.of_code Tryd.func24 rfl (Nat.le_of_ble_eq_true rfl) fun w0 hM => ?_
 refine CW.seq <| CW.region <| RW.st (Ex.assign (.bool false) rfl) rfl <| RW.nil <| CW.seq <| CW.seq <| CW.region <| RW.st (Ex.move (.slice A1 n1 c1) rfl) rfl <| RW.st (Ex.lenN st25.1 rfl hF1.hn) rfl <| RW.st (Ex.move (.slice A2 n2 c2) rfl) rfl <| RW.st (Ex.lenN st25.1 rfl hF2.hn) rfl <| RW.st (Ex.neq rfl rfl) rfl <| RW.nil ?_
 refine CW.cond_dec (p := (x0.length : Int) ≠ (x1.length : Int)) rfl (fun hc3 => ?_) (fun hc3 => ?_)
 ·
  replace hm := And.left hm hc3
  refine CW.seq <| CW.region <| RW.st (Ex.assign (.bool false) rfl) rfl <| RW.nil <| CW.ret ?_
  refine thenQ_ret ?_
  refine end_tmp (.inl rfl) rfl (.bool false) rfl ?_
  exact ⟨_, _, hM, false, hm, rfl, rfl⟩
 ·
  replace hm := And.right hm hc3
  refine CW.skip <| CW.seq <| CW.seq <| CW.region <| RW.st (Ex.assign (.int .i64 0) rfl) rfl <| RW.nil <| CW.block ?_
  obtain ⟨m20, hm⟩ := hm
  skip
  refine CW.loop (β := Nat) (fun n σ w => ∃ (v6 : Int), ∃ Hk4, H.le Hk4 ∧ (∃ τ, σ = sl [(0, .slice A1 n1 c1), (1, .slice A2 n2 c2), (5, .int .i64 v6)] τ) ∧ Mem w0 H w Hk4 [] ∧ LoopN (ref07_Same_L1 x0 x1 Φ) n (v6)) (fun n => n) m20 ⟨0, H, (Hp.le.refl _), sl_canon ⟨rfl, rfl, rfl, trivial⟩, hM, hm⟩ ?_
  rintro k7 _ w ⟨v6, Hk4, hle5, ⟨τ, rfl⟩, hM, hm⟩
  obtain _ | k7 := k7
  · exact hm.elim
  replace hm : (ref07_Same_L1 x0 x1 Φ) (v6) (LoopN (ref07_Same_L1 x0 x1 Φ) k7) := hm
  generalize hrec8 : LoopN (ref07_Same_L1 x0 x1 Φ) k7 = rec1 at hm
  refine CW.seq <| CW.seq <| CW.region <| RW.st (Ex.move (.int .i64 v6) rfl) rfl <| RW.st (Ex.move (.slice A1 n1 c1) rfl) rfl <| RW.st (Ex.lenN st25.1 rfl hF1.hn) rfl <| RW.st (Ex.lss rfl rfl) rfl <| RW.nil ?_
  refine CW.cond_dec (p := v6 < (x0.length : Int)) rfl (fun hc9 => ?_) (fun hc9 => ?_)
  ·
   replace hm := And.left hm hc9
   refine CW.skip <| CW.seq <| CW.block <| CW.seq ?_
   obtain ⟨hg10, hm⟩ := hm
   obtain ⟨_, ⟨A11, n11, c11, s11, rfl, hF11⟩, hx12⟩ := DtL.getI (α := List Sec) (hF1.mono hle5).dat hg10
   obtain ⟨hg13, hm⟩ := hm
   obtain ⟨_, ⟨A14, n14, c14, s14, rfl, hF14⟩, hx15⟩ := DtL.getI (α := List Sec) (hF2.mono hle5).dat hg13
   obtain ⟨v16, hW17, hm⟩ := hm
   refine CW.drawE 10 [.slice A1 n1 c1, .int .i64 v6, elp A1 (v6.toNat * 1 + 0), .slice A11 n11 c11, .slice A2 n2 c2, .int .i64 v6, elp A2 (v6.toNat * 1 + 0), .slice A14 n14 c14, .bool v16, .bool (decide (¬ (v16 = true)))]
    [[(0, none)], [(5, none)], [(17, some 0), (18, some 1)], [(19, some 2)], [(1, none)], [(5, none)], [(21, some 4), (22, some 5)], [(23, some 6)], [(20, some 3), (24, some 7)], [(25, some 8)]] [(0, none), (1, none), (5, none), (26, some 9)] (by kernel_rfl) hM (by kernel_rfl) ⟨?_, ?_, ?_, ?_, ?_, ?_, ?_, ?_, ?_, ?_, trivial⟩ ?_
   · exact One.ex (fun H' τ w hled hM => Ex.move (.slice A1 n1 c1) rfl) rfl (fun _ => rfl) rfl
   · exact One.ex (fun H' τ w hled hM => Ex.move (.int .i64 v6) rfl) rfl (fun _ => rfl) rfl
   · exact One.ex (fun H' τ w hled hM => Ex.index st25 rfl rfl v6.toNat (hF1.ne hg10) hg10.nat (hF1.lt hg10)) rfl (fun _ => rfl) rfl
   · exact One.ex (fun H' τ w hled hM => Ex.loadE hM (hle5.trans hled) hF1.rdc to61 rfl (hx12 0 _ rfl)) rfl (fun _ => rfl) rfl
   · exact One.ex (fun H' τ w hled hM => Ex.move (.slice A2 n2 c2) rfl) rfl (fun _ => rfl) rfl
   · exact One.ex (fun H' τ w hled hM => Ex.move (.int .i64 v6) rfl) rfl (fun _ => rfl) rfl
   · exact One.ex (fun H' τ w hled hM => Ex.index st25 rfl rfl v6.toNat (hF2.ne hg13) hg13.nat (hF2.lt hg13)) rfl (fun _ => rfl) rfl
   · exact One.ex (fun H' τ w hled hM => Ex.loadE hM (hle5.trans hled) hF2.rdc to61 rfl (hx15 0 _ rfl)) rfl (fun _ => rfl) rfl
   · exact One.call (ref07_SameVolume_lift (ix x0 v6) (ix x1 v6) hF11 hF14 hW17).toV en64 (fun _ => rfl) (fun _ => rfl) (fun _ => rfl) rfl
   · exact One.ex (fun H' τ w hled hM => Ex.not (p := v16 = true) (bvar _)) rfl (fun _ => rfl) rfl
   intro τ w hM
   change RW _ _ _ _ _ _ _ _ (sl [(0, .slice A1 n1 c1), (1, .slice A2 n2 c2), (5, .int .i64 v6), (26, .bool (decide (¬ (v16 = true))))] τ) _
   refine RW.nil ?_
   refine CW.cond_dec (p := ¬ (v16 = true)) rfl (fun hc18 => ?_) (fun hc18 => ?_)
   ·
    replace hm := And.left hm hc18
    refine CW.seq <| CW.region <| RW.st (Ex.assign (.bool false) rfl) rfl <| RW.nil <| CW.ret ?_
    refine blockQ_ret (thenQ_ret (thenQ_ret (blockQ_ret (thenQ_ret ?_))))
    refine end_tmp (.inl rfl) rfl (.bool false) rfl ?_
    exact ⟨_, _, hM, false, hm, rfl, rfl⟩
   ·
    replace hm := And.right hm hc18
    refine CW.skip <| CW.region <| RW.st (Ex.move (.int .i64 v6) rfl) rfl ?_
    obtain ⟨hg19, hm⟩ := hm
    refine RW.st (Ex.add rfl rfl hg19.1 hg19.2) rfl <| RW.st (Ex.assign (.int .i64 (v6 + 1)) rfl) rfl <| RW.nil ?_
    exact And.intro rfl ⟨k7, ⟨v6 + 1, Hk4, hle5.trans (Hp.le.refl _), sl_canon ⟨rfl, rfl, rfl, trivial⟩, hM, (by rw [hrec8]; exact hm)⟩, Nat.lt_succ_self _⟩
  ·
   replace hm := And.right hm hc9
   refine CW.exit ?_
   refine CW.seq <| CW.region <| RW.st (Ex.assign (.bool true) rfl) rfl <| RW.nil <| CW.ret ?_
   refine end_tmp (.inl rfl) rfl (.bool true) rfl ?_
   exact ⟨_, _, hM, true, hm, rfl, rfl⟩
end Go.Proofs.YtahlanamngfkcaaDoor

namespace Go.Proofs.YtahlanamngfkcaaDoor
open Go.RowKit
theorem cycle_in_lift {H : Hp} (x0 : Int) (x1 : Int) (x2 : Int) {Φ : Bool → Prop} (hm : cycle_in_W x0 x1 x2 Φ) : RetP Tryd.prog 103 #[.int .i64 x0, .int .i64 x1, .int .i64 x2] H (fun _ v L => ∃ y, Φ y ∧ v = .bool y ∧ L = []) := by
 refine RetP.of_code Tryd.func103 rfl (Nat.le_of_ble_eq_true rfl) fun w0 hM => ?_
 refine CW.seq <| CW.region <| RW.st (Ex.assign (.bool false) rfl) rfl <| RW.nil ?_
 skip
 refine CW.cut (fun D σ w => D = [] ∧ (∃ τ, σ = sl [(6, .bool (decide ((x1 ≤ x0) ∧ (x0 ≤ x2))))] τ) ∧ Mem w0 H w H []) ?_ ?_
 ·
  skip
  refine CW.region <| RW.st (Ex.move (.int .i64 x0) rfl) rfl <| RW.st (Ex.move (.int .i64 x1) rfl) rfl <| RW.st (Ex.geq rfl rfl) rfl <| RW.st (Ex.move (.bool (decide (x1 ≤ x0))) rfl) rfl ?_
  refine RW.split 10 (p := x1 ≤ x0) rfl (fun hc1 => ?_) (fun hc1 => ?_)
  ·
   skip
   refine RW.st (Ex.move (.int .i64 x0) rfl) rfl <| RW.st (Ex.move (.int .i64 x2) rfl) rfl <| RW.st (Ex.leq rfl rfl) rfl <| RW.st (Ex.pickT (.bool (decide (x0 ≤ x2))) rfl rfl) rfl <| RW.st (Ex.assign (.bool (decide (x0 ≤ x2))) rfl) rfl <| RW.nil ?_
   exact And.intro rfl (And.intro (sl_canon ⟨(congrArg Value.bool (decide_eq_decide.2 (imAnd hc1 Iff.rfl))), trivial⟩) hM)
  ·
   skip
   refine RW.pass rfl rfl <| RW.pass rfl rfl <| RW.pass rfl rfl <| RW.st (Ex.pickF (.bool false) rfl rfl) rfl <| RW.st (Ex.assign (.bool false) rfl) rfl <| RW.nil ?_
   exact And.intro rfl (And.intro (sl_canon ⟨(congrArg Value.bool (decide_eq_false (fun q => hc1 q.1)).symm), trivial⟩) hM)
 rintro _ _ w ⟨rfl, ⟨τ, rfl⟩, hM⟩
 refine CW.ret ?_
 refine end_tmp (.inl rfl) rfl (.bool (decide ((x1 ≤ x0) ∧ (x0 ≤ x2)))) rfl ?_
 exact ⟨_, _, hM, decide ((x1 ≤ x0) ∧ (x0 ≤ x2)), hm, rfl, rfl⟩
theorem image_fits_lift {H : Hp} (x0 : List (List Sec)) (x1 : api_Write) {A1 : Option Addr} {n1 c1 : Nat} {s1 : List Value} (hF1 : Fz (α := List Sec) H A1 n1 c1 x0 s1) {A2 : Option Addr} {n2 c2 : Nat} {s2 : List Value} (hF2 : Fz (α := Sec) H A2 n2 c2 x1.Data s2) {Φ : Int → Prop} (hm : image_fits_W x0 x1 Φ) : RetP Tryd.prog 113 #[.slice A1 n1 c1, .agg #[.int .i64 x1.Volume, .int .i64 x1.Start, .slice A2 n2 c2]] H (fun _ v L => ∃ y, Φ y ∧ v = .int .i64 (y) ∧ L = []) := by
 refine RetP.of_code Tryd.func113 rfl (Nat.le_of_ble_eq_true rfl) fun w0 hM => ?_
 refine CW.seq <| CW.region ?_
 refine RW.box hM (.agg #[.int .i64 x1.Volume, .int .i64 x1.Start, .slice A2 n2 c2]) [.int .i64 x1.Volume, .int .i64 x1.Start, .slice A2 n2 c2] rfl rfl rfl rfl ?_; intro b3 w hM
 replace hM : Mem w0 H w H [.box b3 100 [.int .i64 x1.Volume, .int .i64 x1.Start, .slice A2 n2 c2]] := hM
 refine RW.st (Ex.assign (.int .i64 0) rfl) rfl <| RW.nil <| CW.seq <| CW.block ?_
 skip
 refine CW.cut (fun D σ w => D = [] ∧ (∃ τ, σ = sl [(0, .slice A1 n1 c1), (3, .pointer (some ⟨b3, 0, none⟩)), (5, .bool (decide ((x1.Volume < 0) ∨ ((x0.length : Int) ≤ x1.Volume))))] τ) ∧ Mem w0 H w H [.box b3 100 [.int .i64 x1.Volume, .int .i64 x1.Start, .slice A2 n2 c2]]) ?_ ?_
 ·
  skip
  refine CW.region <| RW.st (Ex.fieldAddr fa100_0 rfl) rfl <| RW.st (Ex.load1 hM 0 to3 rfl rfl rfl) rfl <| RW.st (Ex.lss rfl rfl) rfl <| RW.st (Ex.move (.bool (decide (x1.Volume < 0))) rfl) rfl ?_
  refine RW.split 9 (p := x1.Volume < 0) rfl (fun hc4 => ?_) (fun hc4 => ?_)
  ·
   skip
   refine RW.pass rfl rfl <| RW.pass rfl rfl <| RW.pass rfl rfl <| RW.pass rfl rfl <| RW.pass rfl rfl <| RW.st (Ex.pickT (.bool true) rfl rfl) rfl <| RW.st (Ex.assign (.bool true) rfl) rfl <| RW.nil ?_
   exact And.intro rfl (And.intro (sl_canon ⟨rfl, rfl, (congrArg Value.bool (decide_eq_true (.inl hc4)).symm), trivial⟩) hM)
  ·
   skip
   refine RW.st (Ex.fieldAddr fa100_0 rfl) rfl <| RW.st (Ex.load1 hM 0 to3 rfl rfl rfl) rfl <| RW.st (Ex.move (.slice A1 n1 c1) rfl) rfl <| RW.st (Ex.lenN st25.1 rfl hF1.hn) rfl <| RW.st (Ex.geq rfl rfl) rfl <| RW.st (Ex.pickF (.bool (decide ((x0.length : Int) ≤ x1.Volume))) rfl rfl) rfl <| RW.st (Ex.assign (.bool (decide ((x0.length : Int) ≤ x1.Volume))) rfl) rfl <| RW.nil ?_
   exact And.intro rfl (And.intro (sl_canon ⟨rfl, rfl, (congrArg Value.bool (decide_eq_decide.2 (imOr hc4 Iff.rfl))), trivial⟩) hM)
 rintro _ _ w ⟨rfl, ⟨τ, rfl⟩, hM⟩
 refine CW.cond_dec (p := (x1.Volume < 0) ∨ ((x0.length : Int) ≤ x1.Volume)) rfl (fun hc5 => ?_) (fun hc5 => ?_)
 ·
  replace hm := And.left hm hc5
  refine CW.seq <| CW.region <| RW.st (Ex.assign (.int .i64 7) rfl) rfl <| RW.nil <| CW.ret ?_
  refine blockQ_ret (thenQ_ret ?_)
  refine end_tmp (.inl rfl) rfl (.int .i64 7) rfl ?_
  exact ⟨_, _, (hM.pick [] rfl rfl), 7, hm, rfl, rfl⟩
 ·
  replace hm := And.right hm hc5
  refine CW.seq <| CW.region <| RW.st (Ex.fieldAddr fa100_2 rfl) rfl <| RW.st (Ex.load1 hM 0 to61 rfl rfl rfl) rfl <| RW.st (Ex.lenN st61.1 rfl hF2.hn) rfl <| RW.st (Ex.eql rfl rfl) rfl <| RW.st (Ex.assign (.bool (decide ((x1.Data.length : Int) = 0))) rfl) rfl <| RW.nil ?_
  refine CW.cond_dec (p := (x1.Data.length : Int) = 0) rfl (fun hc6 => ?_) (fun hc6 => ?_)
  ·
   replace hm := And.left hm hc6
   refine CW.seq <| CW.region <| RW.st (Ex.assign (.int .i64 1) rfl) rfl <| RW.nil <| CW.ret ?_
   refine blockQ_ret (thenQ_ret ?_)
   refine end_tmp (.inl rfl) rfl (.int .i64 1) rfl ?_
   exact ⟨_, _, (hM.pick [] rfl rfl), 1, hm, rfl, rfl⟩
  ·
   replace hm := And.right hm hc6
   obtain ⟨hG13, hm⟩ := hm
   refine CW.cut (fun D σ w => D = [] ∧ (∃ τ, σ = sl [(21, .bool (decide ((x1.Start < 0) ∨ ((((ix x0 x1.Volume).length : Int) - (x1.Data.length : Int)) < x1.Start))))] τ) ∧ Mem w0 H w H [.box b3 100 [.int .i64 x1.Volume, .int .i64 x1.Start, .slice A2 n2 c2]]) ?_ ?_
   ·
    replace hm := hG13
    by_cases hc7 : x1.Start < 0
    ·
     skip
     refine CW.drawE 19 [.pointer (some ⟨b3, 1, none⟩), .int .i64 x1.Start, .bool true, .bool true, undef, undef, undef, undef, undef, undef, undef, undef, undef, undef, undef, undef, undef, .bool true, .bool true]
      [[(3, none)], [(22, some 0)], [(23, some 1)], [(24, some 2)], [(25, some 3)], [(25, some 3)], [(25, some 3)], [(25, some 3)], [(25, some 3)], [(25, some 3)], [(25, some 3)], [(25, some 3)], [(25, some 3)], [(25, some 3)], [(25, some 3)], [(25, some 3)], [(25, some 3)], [(25, some 3), (38, some 16)], [(39, some 17)]] [(21, some 18)] (by kernel_rfl) hM (by kernel_rfl) ⟨?_, ?_, ?_, ?_, ?_, ?_, ?_, ?_, ?_, ?_, ?_, ?_, ?_, ?_, ?_, ?_, ?_, ?_, ?_, trivial⟩ ?_
     · exact One.ex (fun H' τ w hled hM => Ex.fieldAddr fa100_1 rfl) rfl (fun _ => rfl) rfl
     · exact One.ex (fun H' τ w hled hM => Ex.load1 hM 0 to3 rfl rfl rfl) rfl (fun _ => rfl) rfl
     · exact One.ex (fun H' τ w hled hM => Ex.yes (Ex.lss rfl rfl) hc7) rfl (fun _ => rfl) rfl
     · exact One.ex (fun H' τ w hled hM => Ex.move (.bool true) rfl) rfl (fun _ => rfl) rfl
     · exact One.pass (fun _ => rfl) rfl
     · exact One.pass (fun _ => rfl) rfl
     · exact One.pass (fun _ => rfl) rfl
     · exact One.pass (fun _ => rfl) rfl
     · exact One.pass (fun _ => rfl) rfl
     · exact One.pass (fun _ => rfl) rfl
     · exact One.pass (fun _ => rfl) rfl
     · exact One.pass (fun _ => rfl) rfl
     · exact One.pass (fun _ => rfl) rfl
     · exact One.pass (fun _ => rfl) rfl
     · exact One.pass (fun _ => rfl) rfl
     · exact One.pass (fun _ => rfl) rfl
     · exact One.pass (fun _ => rfl) rfl
     · exact One.ex (fun H' τ w hled hM => Ex.pickT (.bool true) rfl rfl) rfl (fun _ => rfl) rfl
     · exact One.ex (fun H' τ w hled hM => Ex.assign (.bool true) rfl) rfl (fun _ => rfl) rfl
     intro τ w hM
     change RW _ _ _ _ _ _ _ _ (sl [(21, .bool true)] τ) _
     refine RW.nil ?_
     exact And.intro rfl (And.intro (sl_canon ⟨(congrArg Value.bool (decide_eq_true (.inl hc7)).symm), trivial⟩) hM)
    ·
     replace hm := hm hc7
     obtain ⟨hg8, hm⟩ := hm
     obtain ⟨_, ⟨A9, n9, c9, s9, rfl, hF9⟩, hx10⟩ := DtL.getI (α := List Sec) hF1.dat hg8
     have hg11 := hm
     refine CW.drawE 19 [.pointer (some ⟨b3, 1, none⟩), .int .i64 x1.Start, .bool false, .bool false, .pointer (some ⟨b3, 1, none⟩), .int .i64 x1.Start, .slice A1 n1 c1, .pointer (some ⟨b3, 0, none⟩), .int .i64 x1.Volume, elp A1 (x1.Volume.toNat * 1 + 0), .slice A9 n9 c9, .int .i64 (((ix x0 x1.Volume).length : Int)), .pointer (some ⟨b3, 2, none⟩), .slice A2 n2 c2, .int .i64 ((x1.Data.length : Int)), .int .i64 (((ix x0 x1.Volume).length : Int) - (x1.Data.length : Int)), .bool (decide ((((ix x0 x1.Volume).length : Int) - (x1.Data.length : Int)) < x1.Start)), .bool (decide ((((ix x0 x1.Volume).length : Int) - (x1.Data.length : Int)) < x1.Start)), .bool (decide ((((ix x0 x1.Volume).length : Int) - (x1.Data.length : Int)) < x1.Start))]
      [[(3, none)], [(22, some 0)], [(23, some 1)], [(24, some 2)], [(3, none), (25, some 3)], [(25, some 3), (26, some 4)], [(0, none), (25, some 3)], [(3, none), (25, some 3)], [(25, some 3), (29, some 7)], [(25, some 3), (28, some 6), (30, some 8)], [(25, some 3), (31, some 9)], [(25, some 3), (32, some 10)], [(3, none), (25, some 3)], [(25, some 3), (34, some 12)], [(25, some 3), (35, some 13)], [(25, some 3), (33, some 11), (36, some 14)], [(25, some 3), (27, some 5), (37, some 15)], [(25, some 3), (38, some 16)], [(39, some 17)]] [(21, some 18)] (by kernel_rfl) hM (by kernel_rfl) ⟨?_, ?_, ?_, ?_, ?_, ?_, ?_, ?_, ?_, ?_, ?_, ?_, ?_, ?_, ?_, ?_, ?_, ?_, ?_, trivial⟩ ?_
     · exact One.ex (fun H' τ w hled hM => Ex.fieldAddr fa100_1 rfl) rfl (fun _ => rfl) rfl
     · exact One.ex (fun H' τ w hled hM => Ex.load1 hM 0 to3 rfl rfl rfl) rfl (fun _ => rfl) rfl
     · exact One.ex (fun H' τ w hled hM => Ex.no (Ex.lss rfl rfl) hc7) rfl (fun _ => rfl) rfl
     · exact One.ex (fun H' τ w hled hM => Ex.move (.bool false) rfl) rfl (fun _ => rfl) rfl
     · exact One.ex (fun H' τ w hled hM => Ex.fieldAddr fa100_1 rfl) rfl (fun _ => rfl) rfl
     · exact One.ex (fun H' τ w hled hM => Ex.load1 hM 0 to3 rfl rfl rfl) rfl (fun _ => rfl) rfl
     · exact One.ex (fun H' τ w hled hM => Ex.move (.slice A1 n1 c1) rfl) rfl (fun _ => rfl) rfl
     · exact One.ex (fun H' τ w hled hM => Ex.fieldAddr fa100_0 rfl) rfl (fun _ => rfl) rfl
     · exact One.ex (fun H' τ w hled hM => Ex.load1 hM 0 to3 rfl rfl rfl) rfl (fun _ => rfl) rfl
     · exact One.ex (fun H' τ w hled hM => Ex.index st25 rfl rfl x1.Volume.toNat (hF1.ne hg8) hg8.nat (hF1.lt hg8)) rfl (fun _ => rfl) rfl
     · exact One.ex (fun H' τ w hled hM => Ex.loadE hM hled hF1.rdc to61 rfl (hx10 0 _ rfl)) rfl (fun _ => rfl) rfl
     · exact One.ex (fun H' τ w hled hM => Ex.lenN st61.1 rfl hF9.hn) rfl (fun _ => rfl) rfl
     · exact One.ex (fun H' τ w hled hM => Ex.fieldAddr fa100_2 rfl) rfl (fun _ => rfl) rfl
     · exact One.ex (fun H' τ w hled hM => Ex.load1 hM 0 to61 rfl rfl rfl) rfl (fun _ => rfl) rfl
     · exact One.ex (fun H' τ w hled hM => Ex.lenN st61.1 rfl hF2.hn) rfl (fun _ => rfl) rfl
     · exact One.ex (fun H' τ w hled hM => Ex.sub rfl rfl hg11.1 hg11.2) rfl (fun _ => rfl) rfl
     · exact One.ex (fun H' τ w hled hM => Ex.gtr rfl rfl) rfl (fun _ => rfl) rfl
     · exact One.ex (fun H' τ w hled hM => Ex.pickF (.bool (decide ((((ix x0 x1.Volume).length : Int) - (x1.Data.length : Int)) < x1.Start))) rfl rfl) rfl (fun _ => rfl) rfl
     · exact One.ex (fun H' τ w hled hM => Ex.assign (.bool (decide ((((ix x0 x1.Volume).length : Int) - (x1.Data.length : Int)) < x1.Start))) rfl) rfl (fun _ => rfl) rfl
     intro τ w hM
     change RW _ _ _ _ _ _ _ _ (sl [(21, .bool (decide ((((ix x0 x1.Volume).length : Int) - (x1.Data.length : Int)) < x1.Start)))] τ) _
     refine RW.nil ?_
     exact And.intro rfl (And.intro (sl_canon ⟨(congrArg Value.bool (decide_eq_decide.2 (imOr hc7 Iff.rfl))), trivial⟩) hM)
   rintro _ _ w ⟨rfl, ⟨τ, rfl⟩, hM⟩
   refine CW.cond_dec (p := (x1.Start < 0) ∨ ((((ix x0 x1.Volume).length : Int) - (x1.Data.length : Int)) < x1.Start)) rfl (fun hc12 => ?_) (fun hc12 => ?_)
   ·
    replace hm := And.left hm hc12
    refine CW.seq <| CW.region <| RW.st (Ex.assign (.int .i64 2) rfl) rfl <| RW.nil <| CW.ret ?_
    refine blockQ_ret (thenQ_ret ?_)
    refine end_tmp (.inl rfl) rfl (.int .i64 2) rfl ?_
    exact ⟨_, _, (hM.pick [] rfl rfl), 2, hm, rfl, rfl⟩
   ·
    replace hm := And.right hm hc12
    refine CW.skip <| CW.seq <| CW.region <| RW.st (Ex.assign (.int .i64 0) rfl) rfl <| RW.nil <| CW.ret ?_
    refine end_tmp (.inl rfl) rfl (.int .i64 0) rfl ?_
    exact ⟨_, _, (hM.pick [] rfl rfl), 0, hm, rfl, rfl⟩
theorem ref02_SameExtents_lift {H : Hp} (x0 : List api_Extent) (x1 : List api_Extent) {A1 : Option Addr} {n1 c1 : Nat} {s1 : List Value} (hF1 : Fz (α := api_Extent) H A1 n1 c1 x0 s1) {A2 : Option Addr} {n2 c2 : Nat} {s2 : List Value} (hF2 : Fz (α := api_Extent) H A2 n2 c2 x1 s2) {Φ : Bool → Prop} (hm : ref02_SameExtents_W x0 x1 Φ) : RetP Tryd.prog 49 #[.slice A1 n1 c1, .slice A2 n2 c2] H (fun _ v L => ∃ y, Φ y ∧ v = .bool y ∧ L = []) := by
 refine RetP.of_code Tryd.func49 rfl (Nat.le_of_ble_eq_true rfl) fun w0 hM => ?_
 refine CW.seq <| CW.region <| RW.st (Ex.assign (.bool false) rfl) rfl <| RW.nil <| CW.seq <| CW.seq <| CW.region <| RW.st (Ex.move (.slice A1 n1 c1) rfl) rfl <| RW.st (Ex.lenN st68.1 rfl hF1.hn) rfl <| RW.st (Ex.move (.slice A2 n2 c2) rfl) rfl <| RW.st (Ex.lenN st68.1 rfl hF2.hn) rfl <| RW.st (Ex.neq rfl rfl) rfl <| RW.nil ?_
 refine CW.cond_dec (p := (x0.length : Int) ≠ (x1.length : Int)) rfl (fun hc3 => ?_) (fun hc3 => ?_)
 ·
  replace hm := And.left hm hc3
  refine CW.seq <| CW.region <| RW.st (Ex.assign (.bool false) rfl) rfl <| RW.nil <| CW.ret ?_
  refine thenQ_ret ?_
  refine end_tmp (.inl rfl) rfl (.bool false) rfl ?_
  exact ⟨_, _, hM, false, hm, rfl, rfl⟩
 ·
  replace hm := And.right hm hc3
  refine CW.skip <| CW.seq <| CW.seq <| CW.region <| RW.st (Ex.assign (.int .i64 0) rfl) rfl <| RW.nil <| CW.block ?_
  obtain ⟨m16, hm⟩ := hm
  skip
  refine CW.loop (β := Nat) (fun n σ w => ∃ (v6 : Int), ∃ Hk4, H.le Hk4 ∧ (∃ τ, σ = sl [(0, .slice A1 n1 c1), (1, .slice A2 n2 c2), (5, .int .i64 v6)] τ) ∧ Mem w0 H w Hk4 [] ∧ LoopN (ref02_SameExtents_L1 x0 x1 Φ) n (v6)) (fun n => n) m16 ⟨0, H, (Hp.le.refl _), sl_canon ⟨rfl, rfl, rfl, trivial⟩, hM, hm⟩ ?_
  rintro k7 _ w ⟨v6, Hk4, hle5, ⟨τ, rfl⟩, hM, hm⟩
  obtain _ | k7 := k7
  · exact hm.elim
  replace hm : (ref02_SameExtents_L1 x0 x1 Φ) (v6) (LoopN (ref02_SameExtents_L1 x0 x1 Φ) k7) := hm
  generalize hrec8 : LoopN (ref02_SameExtents_L1 x0 x1 Φ) k7 = rec1 at hm
  refine CW.seq <| CW.seq <| CW.region <| RW.st (Ex.move (.int .i64 v6) rfl) rfl <| RW.st (Ex.move (.slice A1 n1 c1) rfl) rfl <| RW.st (Ex.lenN st68.1 rfl hF1.hn) rfl <| RW.st (Ex.lss rfl rfl) rfl <| RW.nil ?_
  refine CW.cond_dec (p := v6 < (x0.length : Int)) rfl (fun hc9 => ?_) (fun hc9 => ?_)
  ·
   replace hm := And.left hm hc9
   refine CW.skip <| CW.seq <| CW.block <| CW.seq ?_
   obtain ⟨hg10, hm⟩ := hm
   obtain ⟨_, rfl, hx11⟩ := DtL.getI (α := api_Extent) (hF1.mono hle5).dat hg10
   obtain ⟨hg12, hm⟩ := hm
   obtain ⟨_, rfl, hx13⟩ := DtL.getI (α := api_Extent) (hF2.mono hle5).dat hg12
   refine CW.drawE 9 [.slice A1 n1 c1, .int .i64 v6, elp A1 (v6.toNat * 2 + 0), .agg #[.int .i64 ((ix x0 v6).Start), .int .i64 ((ix x0 v6).Count)], .slice A2 n2 c2, .int .i64 v6, elp A2 (v6.toNat * 2 + 0), .agg #[.int .i64 ((ix x1 v6).Start), .int .i64 ((ix x1 v6).Count)], .bool (decide ((ix x0 v6) ≠ (ix x1 v6)))]
    [[(0, none)], [(5, none)], [(17, some 0), (18, some 1)], [(19, some 2)], [(1, none)], [(5, none)], [(21, some 4), (22, some 5)], [(23, some 6)], [(20, some 3), (24, some 7)]] [(0, none), (1, none), (5, none), (25, some 8)] (by kernel_rfl) hM (by kernel_rfl) ⟨?_, ?_, ?_, ?_, ?_, ?_, ?_, ?_, ?_, trivial⟩ ?_
   · exact One.ex (fun H' τ w hled hM => Ex.move (.slice A1 n1 c1) rfl) rfl (fun _ => rfl) rfl
   · exact One.ex (fun H' τ w hled hM => Ex.move (.int .i64 v6) rfl) rfl (fun _ => rfl) rfl
   · exact One.ex (fun H' τ w hled hM => Ex.index st68 rfl rfl v6.toNat (hF1.ne hg10) hg10.nat (hF1.lt hg10)) rfl (fun _ => rfl) rfl
   · exact One.ex (fun H' τ w hled hM => Ex.loadEA hM (hle5.trans hled) hF1.rdc [.int .i64 ((ix x0 v6).Start), .int .i64 ((ix x0 v6).Count)] ta103 rfl (hF1.ne hg10) rfl (chunk_sub (off := 0) (n := 2) hx11 rfl)) rfl (fun _ => rfl) rfl
   · exact One.ex (fun H' τ w hled hM => Ex.move (.slice A2 n2 c2) rfl) rfl (fun _ => rfl) rfl
   · exact One.ex (fun H' τ w hled hM => Ex.move (.int .i64 v6) rfl) rfl (fun _ => rfl) rfl
   · exact One.ex (fun H' τ w hled hM => Ex.index st68 rfl rfl v6.toNat (hF2.ne hg12) hg12.nat (hF2.lt hg12)) rfl (fun _ => rfl) rfl
   · exact One.ex (fun H' τ w hled hM => Ex.loadEA hM (hle5.trans hled) hF2.rdc [.int .i64 ((ix x1 v6).Start), .int .i64 ((ix x1 v6).Count)] ta103 rfl (hF2.ne hg12) rfl (chunk_sub (off := 0) (n := 2) hx13 rfl)) rfl (fun _ => rfl) rfl
   · exact One.ex (fun H' τ w hled hM => Ex.neqS (p := (ix x0 v6) ≠ (ix x1 v6)) [.i .i64 ((ix x0 v6).Start), .i .i64 ((ix x0 v6).Count)] [.i .i64 ((ix x1 v6).Start), .i .i64 ((ix x1 v6).Count)] (by kernel_rfl) rfl rfl rfl rfl rfl (not_congr (sc_api_Extent (ix x0 v6) (ix x1 v6)))) rfl (fun _ => rfl) rfl
   intro τ w hM
   change RW _ _ _ _ _ _ _ _ (sl [(0, .slice A1 n1 c1), (1, .slice A2 n2 c2), (5, .int .i64 v6), (25, .bool (decide ((ix x0 v6) ≠ (ix x1 v6))))] τ) _
   refine RW.nil ?_
   refine CW.cond_dec (p := (ix x0 v6) ≠ (ix x1 v6)) rfl (fun hc14 => ?_) (fun hc14 => ?_)
   ·
    replace hm := And.left hm hc14
    refine CW.seq <| CW.region <| RW.st (Ex.assign (.bool false) rfl) rfl <| RW.nil <| CW.ret ?_
    refine blockQ_ret (thenQ_ret (thenQ_ret (blockQ_ret (thenQ_ret ?_))))
    refine end_tmp (.inl rfl) rfl (.bool false) rfl ?_
    exact ⟨_, _, hM, false, hm, rfl, rfl⟩
   ·
    replace hm := And.right hm hc14
    refine CW.skip <| CW.region <| RW.st (Ex.move (.int .i64 v6) rfl) rfl ?_
    obtain ⟨hg15, hm⟩ := hm
    refine RW.st (Ex.add rfl rfl hg15.1 hg15.2) rfl <| RW.st (Ex.assign (.int .i64 (v6 + 1)) rfl) rfl <| RW.nil ?_
    exact And.intro rfl ⟨k7, ⟨v6 + 1, Hk4, hle5.trans (Hp.le.refl _), sl_canon ⟨rfl, rfl, rfl, trivial⟩, hM, (by rw [hrec8]; exact hm)⟩, Nat.lt_succ_self _⟩
  ·
   replace hm := And.right hm hc9
   refine CW.exit ?_
   refine CW.seq <| CW.region <| RW.st (Ex.assign (.bool true) rfl) rfl <| RW.nil <| CW.ret ?_
   refine end_tmp (.inl rfl) rfl (.bool true) rfl ?_
   exact ⟨_, _, hM, true, hm, rfl, rfl⟩
end Go.Proofs.YtahlanamngfkcaaDoor

namespace Go.Proofs.YtahlanamngfkcaaDoor
open Go.RowKit
theorem ref07_Check_lift {H : Hp} (x0 : List (List Sec)) {A1 : Option Addr} {n1 c1 : Nat} {s1 : List Value} (hF1 : Fz (α := List Sec) H A1 n1 c1 x0 s1) {Φ : Int → Prop} (hm : ref07_Check_W x0 Φ) : RetP Tryd.prog 97 #[.slice A1 n1 c1] H (fun _ v L => ∃ y, Φ y ∧ v = .int .i64 (y) ∧ L = []) := by
 refine RetP.of_code Tryd.func97 rfl (Nat.le_of_ble_eq_true rfl) fun w0 hM => ?_
 refine CW.seq <| CW.region <| RW.st (Ex.assign (.int .i64 0) rfl) rfl <| RW.nil <| CW.seq <| CW.region <| RW.st (Ex.move (.slice A1 n1 c1) rfl) rfl ?_
 refine RW.callP hM (ref07_SizesOf_lift x0 hF1 hm) en57 rfl rfl rfl rfl ?_; rintro _ w H3 _ hle4 ⟨v2, hm, A5, n5, c5, s5, rfl, hd6, hn7, rfl⟩ hM
 replace hM : Mem w0 H w H3 [.row (.slice A5 n5 c5) 3 1 n5 s5] := hM
 have hM1 := hM
 obtain ⟨H8, hM, hle9, hF10⟩ := hM.giveF (α := Int) 0 rfl hd6 hn7
 replace hM : Mem w0 H w H8 [] := hM
 refine RW.callB hM1 hM (ref07_Sizes_lift v2 hF10 hm) en73 rfl rfl rfl rfl ?_; clear hM hM1; intro v11 w hm hM
 replace hM : Mem w0 H w H3 [.row (.slice A5 n5 c5) 3 1 n5 s5] := hM
 refine RW.st (Ex.assign (.int .i64 v11) rfl) rfl <| RW.nil <| CW.ret ?_
 refine end_tmp (.inl rfl) rfl (.int .i64 v11) rfl ?_
 exact ⟨_, _, (hM.pick [] rfl rfl), v11, hm, rfl, rfl⟩
theorem ref43_Clean_lift {H : Hp} (x0 : List Int) {A1 : Option Addr} {n1 c1 : Nat} {s1 : List Value} (hF1 : Fz (α := Int) H A1 n1 c1 x0 s1) {Φ : List api_Bitmap → Prop} (hm : ref43_Clean_W x0 Φ) : RetP Tryd.prog 91 #[.slice A1 n1 c1] H (fun H' v L => ∃ y, Φ y ∧ ∃ A38, ∃ n38, ∃ c38, ∃ s38, v = .slice A38 n38 c38 ∧ DtL (α := api_Bitmap) H' s38 y ∧ n38 = y.length ∧ L = [.row (.slice A38 n38 c38) 65 2 n38 s38]) := by
 refine RetP.of_code Tryd.func91 rfl (Nat.le_of_ble_eq_true rfl) fun w0 hM => ?_
 refine CW.seq <| CW.region <| RW.st (Ex.assign (.slice none 0 0) rfl) rfl <| RW.nil <| CW.seq <| CW.region <| RW.st (Ex.assign (.slice none 0 0) rfl) rfl <| RW.nil <| CW.seq <| CW.seq <| CW.region <| RW.st (Ex.assign (.int .i64 0) rfl) rfl <| RW.nil <| CW.block ?_
 obtain ⟨m37, hm⟩ := hm
 skip
 replace hM := hM.nilRow 65 2
 refine CW.loop (β := Nat) (fun n σ w => ∃ (v4 : List api_Bitmap), ∃ (A5 : Option Addr), ∃ (n6 : Nat), ∃ (c7 : Nat), ∃ (s8 : List Value), ∃ (v11 : Int), ∃ Hk2, H.le Hk2 ∧ (∃ τ, σ = sl [(0, .slice A1 n1 c1), (3, .slice A5 n6 c7), (4, .int .i64 v11)] τ) ∧ Mem w0 H w Hk2 [.row (.slice A5 n6 c7) 65 2 n6 s8] ∧ (DtL (α := api_Bitmap) Hk2 s8 v4) ∧ (n6 = v4.length) ∧ LoopN (ref43_Clean_L1 x0 Φ) n (v4, v11)) (fun n => n) m37 ⟨([] : List api_Bitmap), none, 0, 0, [], 0, H, (Hp.le.refl _), sl_canon ⟨rfl, rfl, rfl, trivial⟩, hM, (DtL.nil : DtL _ [] ([] : List api_Bitmap)), rfl, hm⟩ ?_
 rintro k12 _ w ⟨v4, A5, n6, c7, s8, v11, Hk2, hle3, ⟨τ, rfl⟩, hM, hd9, hn10, hm⟩
 obtain _ | k12 := k12
 · exact hm.elim
 replace hm : (ref43_Clean_L1 x0 Φ) (v4, v11) (LoopN (ref43_Clean_L1 x0 Φ) k12) := hm
 generalize hrec13 : LoopN (ref43_Clean_L1 x0 Φ) k12 = rec1 at hm
 refine CW.seq <| CW.seq <| CW.region <| RW.st (Ex.move (.int .i64 v11) rfl) rfl <| RW.st (Ex.move (.slice A1 n1 c1) rfl) rfl <| RW.st (Ex.lenN st40.1 rfl hF1.hn) rfl <| RW.st (Ex.lss rfl rfl) rfl <| RW.nil ?_
 refine CW.cond_dec (p := v11 < (x0.length : Int)) rfl (fun hc14 => ?_) (fun hc14 => ?_)
 ·
  replace hm := And.left hm hc14
  refine CW.skip <| CW.seq <| CW.block <| CW.seq <| CW.region <| RW.st (Ex.move (.slice A1 n1 c1) rfl) rfl <| RW.st (Ex.move (.int .i64 v11) rfl) rfl ?_
  obtain ⟨hg15, hm⟩ := hm
  refine RW.st (Ex.index st40 rfl rfl v11.toNat (hF1.ne hg15) hg15.nat (hF1.lt hg15)) rfl ?_
  obtain ⟨_, rfl, hx16⟩ := DtL.getI (α := Int) (hF1.mono hle3).dat hg15
  refine RW.st (Ex.loadE hM hle3 hF1.rdc to3 rfl (hx16 0 _ rfl)) rfl ?_
  refine RW.callP hM (ref02_New_lift (ix x0 v11) hm) en65 rfl rfl rfl rfl ?_; rintro _ w H18 _ hle19 ⟨v17, hm, A20, n20, c20, s20, rfl, hd21, hn22, rfl⟩ hM
  replace hM : Mem w0 H w H18 [.row (.slice A20 n20 c20) 151 1 n20 s20, .row (.slice A5 n6 c7) 65 2 n6 s8] := hM
  refine RW.st (Ex.move (.tuple #[.agg #[.int .i64 v17.1.Size, .slice A20 n20 c20], .int .i64 v17.2]) rfl) rfl <| RW.st (Ex.extract rfl rfl) rfl <| RW.st (Ex.extract rfl rfl) rfl ?_
  refine RW.alloc hM tz65 [.int .i64 0, .slice none 0 0] rfl rfl rfl ?_; intro b23 w hM
  replace hM : Mem w0 H w H18 [.box b23 65 [.int .i64 0, .slice none 0 0], .row (.slice A20 n20 c20) 151 1 n20 s20, .row (.slice A5 n6 c7) 65 2 n6 s8] := hM
  refine RW.store hM 0 (.agg #[.int .i64 v17.1.Size, .slice A20 n20 c20]) [.int .i64 v17.1.Size, .slice A20 n20 c20] [.int .i64 v17.1.Size, .slice A20 n20 c20] sz65 rfl rfl rfl (oneAll ⟨rfl, rfl, trivial⟩) rfl (Nat.le_of_ble_eq_true rfl) rfl [.box b23 65 [.int .i64 v17.1.Size, .slice A20 n20 c20], .row (.slice A20 n20 c20) 151 1 n20 s20, .row (.slice A5 n6 c7) 65 2 n6 s8] rfl rfl rfl ?_; intro w hM
  refine RW.st (Ex.assign (.int .i64 v17.2) rfl) rfl <| RW.nil <| CW.region <| RW.st (Ex.move (.slice A5 n6 c7) rfl) rfl <| RW.st (Ex.loadA hM 0 [.int .i64 v17.1.Size, .slice A20 n20 c20] ta65 rfl rfl rfl rfl) rfl ?_
  obtain ⟨H24, hM, hle25, hF26⟩ := hM.giveF (α := BitVec 64) 1 rfl hd21 hn22
  replace hM : Mem w0 H w H24 [.box b23 65 [.int .i64 v17.1.Size, .slice A20 n20 c20], .row (.slice A5 n6 c7) 65 2 n6 s8] := hM
  refine RW.buildSlice hM st23 tz65 [(0, .agg #[.int .i64 v17.1.Size, .slice A20 n20 c20])] [.int .i64 v17.1.Size, .slice A20 n20 c20] (by decide) rfl rfl rfl (by decide) rfl rfl ?_; intro b27 w hM
  have hd28 : DtL H24 [.int .i64 v17.1.Size, .slice A20 n20 c20] ([v17.1] : List api_Bitmap) := (DtL.cons (c1 := [.int .i64 v17.1.Size, .slice A20 n20 c20]) ⟨_, _, _, _, rfl, hF26⟩ DtL.nil)
  replace hM : Mem w0 H w H24 [.row (.slice (some ⟨b27, 0, none⟩) 1 1) 65 2 1 [.int .i64 v17.1.Size, .slice A20 n20 c20], .box b23 65 [.int .i64 v17.1.Size, .slice A20 n20 c20], .row (.slice A5 n6 c7) 65 2 n6 s8] := hM
  obtain ⟨hg35, hm⟩ := hm
  refine RW.appendD (α := api_Bitmap) (xs := v4) (ys := ([v17.1] : List api_Bitmap)) hM 2 st23 rfl rfl (hd9.mono (hle19.trans hle25)) hn10 rfl (fun j u hj => hM.rowCell (k := 0) rfl rfl hj) hd28 rfl hg35 rfl rfl ?_; intro A29 n30 c31 s32 w hd33 hn34 hM
  replace hM : Mem w0 H w H24 [.row (.slice (some ⟨b27, 0, none⟩) 1 1) 65 2 1 [.int .i64 v17.1.Size, .slice A20 n20 c20], .box b23 65 [.int .i64 v17.1.Size, .slice A20 n20 c20], .row (.slice A29 n30 c31) 65 2 n30 s32] := hM
  refine RW.st (Ex.assign (.slice A29 n30 c31) rfl) rfl <| RW.nil <| CW.region <| RW.st (Ex.move (.int .i64 v11) rfl) rfl ?_
  obtain ⟨hg36, hm⟩ := hm
  refine RW.st (Ex.add rfl rfl hg36.1 hg36.2) rfl <| RW.st (Ex.assign (.int .i64 (v11 + 1)) rfl) rfl <| RW.nil ?_
  exact And.intro rfl ⟨k12, ⟨(v4 ++ ([v17.1] : List api_Bitmap)), A29, n30, c31, s32, v11 + 1, H24, hle3.trans (hle19.trans hle25), sl_canon ⟨rfl, rfl, rfl, trivial⟩, (hM.pick [2] rfl rfl), hd33, hn34, (by rw [hrec13]; exact hm)⟩, Nat.lt_succ_self _⟩
 ·
  replace hm := And.right hm hc14
  refine CW.exit ?_
  refine CW.seq <| CW.region <| RW.st (Ex.move (.slice A5 n6 c7) rfl) rfl <| RW.st (Ex.assign (.slice A5 n6 c7) rfl) rfl <| RW.nil <| CW.ret ?_
  refine end_tmp (.inl rfl) rfl (.slice A5 n6 c7) rfl ?_
  exact ⟨_, _, hM, v4, hm, A5, n6, c7, s8, rfl, hd9, hn10, rfl⟩
theorem ref02_Check_lift {H : Hp} (x0 : api_Bitmap) {A1 : Option Addr} {n1 c1 : Nat} {s1 : List Value} (hF1 : Fz (α := BitVec 64) H A1 n1 c1 x0.Words s1) {Φ : Int → Prop} (hm : ref02_Check_W x0 Φ) : RetP Tryd.prog 67 #[.agg #[.int .i64 x0.Size, .slice A1 n1 c1]] H (fun _ v L => ∃ y, Φ y ∧ v = .int .i64 (y) ∧ L = []) := by
 refine RetP.of_code Tryd.func67 rfl (Nat.le_of_ble_eq_true rfl) fun w0 hM => ?_
 refine CW.seq <| CW.region ?_
 refine RW.box hM (.agg #[.int .i64 x0.Size, .slice A1 n1 c1]) [.int .i64 x0.Size, .slice A1 n1 c1] rfl rfl rfl rfl ?_; intro b2 w hM
 replace hM : Mem w0 H w H [.box b2 65 [.int .i64 x0.Size, .slice A1 n1 c1]] := hM
 refine RW.st (Ex.assign (.int .i64 0) rfl) rfl <| RW.nil <| CW.seq ?_
 obtain ⟨hG21, hm⟩ := hm
 refine CW.cut (fun D σ w => D = [] ∧ (∃ τ, σ = sl [(1, .pointer (some ⟨b2, 0, none⟩)), (21, .bool (decide ((x0.Size < 0) ∨ ((4096 < x0.Size) ∨ ((x0.Words.length : Int) ≠ ((x0.Size + 63) / 64))))))] τ) ∧ Mem w0 H w H [.box b2 65 [.int .i64 x0.Size, .slice A1 n1 c1]]) ?_ ?_
 ·
  replace hm := hG21
  refine CW.region <| RW.st (Ex.fieldAddr fa65_0 rfl) rfl <| RW.st (Ex.load1 hM 0 to3 rfl rfl rfl) rfl <| RW.st (Ex.lss rfl rfl) rfl <| RW.st (Ex.move (.bool (decide (x0.Size < 0))) rfl) rfl ?_
  refine RW.split 7 (p := x0.Size < 0) rfl (fun hc3 => ?_) (fun hc3 => ?_)
  ·
   skip
   refine RW.pass rfl rfl <| RW.pass rfl rfl <| RW.pass rfl rfl <| RW.st (Ex.pickT (.bool true) rfl rfl) rfl <| RW.st (Ex.move (.bool true) rfl) rfl <| RW.pass rfl rfl <| RW.pass rfl rfl <| RW.pass rfl rfl <| RW.pass rfl rfl <| RW.pass rfl rfl <| RW.pass rfl rfl <| RW.pass rfl rfl <| RW.pass rfl rfl <| RW.st (Ex.pickT (.bool true) rfl rfl) rfl ?_
   refine RW.nil ?_
   exact And.intro rfl (And.intro (sl_canon ⟨rfl, (congrArg Value.bool (decide_eq_true (.inl hc3)).symm), trivial⟩) hM)
  ·
   replace hm := hm hc3
   refine RW.st (Ex.fieldAddr fa65_0 rfl) rfl <| RW.st (Ex.load1 hM 0 to3 rfl rfl rfl) rfl <| RW.st (Ex.gtr rfl rfl) rfl <| RW.st (Ex.pickF (.bool (decide (4096 < x0.Size))) rfl rfl) rfl <| RW.st (Ex.move (.bool (decide (4096 < x0.Size))) rfl) rfl ?_
   refine RW.split 12 (p := 4096 < x0.Size) rfl (fun hc4 => ?_) (fun hc4 => ?_)
   ·
    skip
    refine RW.pass rfl rfl <| RW.pass rfl rfl <| RW.pass rfl rfl <| RW.pass rfl rfl <| RW.pass rfl rfl <| RW.pass rfl rfl <| RW.pass rfl rfl <| RW.pass rfl rfl <| RW.st (Ex.pickT (.bool true) rfl rfl) rfl <| RW.nil ?_
    exact And.intro rfl (And.intro (sl_canon ⟨rfl, (congrArg Value.bool (decide_eq_true (.inr (.inl hc4))).symm), trivial⟩) hM)
   ·
    replace hm := hm hc4
    refine RW.st (Ex.fieldAddr fa65_1 rfl) rfl <| RW.st (Ex.load1 hM 0 to63 rfl rfl rfl) rfl <| RW.st (Ex.lenN st63.1 rfl hF1.hn) rfl <| RW.st (Ex.fieldAddr fa65_0 rfl) rfl <| RW.st (Ex.load1 hM 0 to3 rfl rfl rfl) rfl ?_
    obtain ⟨hg5, hm⟩ := hm
    refine RW.st (Ex.add rfl rfl hg5.1 hg5.2) rfl ?_
    have hg6 := hm
    refine RW.st (Ex.quo rfl rfl hg6.1 hg6.2.2 (by decide)) rfl <| RW.st (Ex.neq rfl rfl) rfl <| RW.st (Ex.pickF (.bool (decide ((x0.Words.length : Int) ≠ ((x0.Size + 63) / 64)))) rfl rfl) rfl <| RW.nil ?_
    exact And.intro rfl (And.intro (sl_canon ⟨rfl, (congrArg Value.bool (decide_eq_decide.2 (imOr hc3 (imOr hc4 Iff.rfl)))), trivial⟩) hM)
 rintro _ _ w ⟨rfl, ⟨τ, rfl⟩, hM⟩
 refine CW.cond_dec (p := (x0.Size < 0) ∨ ((4096 < x0.Size) ∨ ((x0.Words.length : Int) ≠ ((x0.Size + 63) / 64)))) rfl (fun hc7 => ?_) (fun hc7 => ?_)
 ·
  replace hm := And.left hm hc7
  refine CW.seq <| CW.region <| RW.st (Ex.assign (.int .i64 3) rfl) rfl <| RW.nil <| CW.ret ?_
  refine thenQ_ret ?_
  refine end_tmp (.inl rfl) rfl (.int .i64 3) rfl ?_
  exact ⟨_, _, (hM.pick [] rfl rfl), 3, hm, rfl, rfl⟩
 ·
  replace hm := And.right hm hc7
  refine CW.skip <| CW.seq <| CW.seq <| CW.region <| RW.st (Ex.fieldAddr fa65_0 rfl) rfl <| RW.st (Ex.load1 hM 0 to3 rfl rfl rfl) rfl <| RW.st (Ex.assign (.int .i64 x0.Size) rfl) rfl <| RW.nil <| CW.block ?_
  obtain ⟨m20, hm⟩ := hm
  skip
  refine CW.loop (β := Nat) (fun n σ w => ∃ (v10 : Int), ∃ Hk8, H.le Hk8 ∧ (∃ τ, σ = sl [(1, .pointer (some ⟨b2, 0, none⟩)), (3, .int .i64 v10)] τ) ∧ Mem w0 H w Hk8 [.box b2 65 [.int .i64 x0.Size, .slice A1 n1 c1]] ∧ LoopN (ref02_Check_L1 x0 Φ) n (v10)) (fun n => n) m20 ⟨x0.Size, H, (Hp.le.refl _), sl_canon ⟨rfl, rfl, trivial⟩, hM, hm⟩ ?_
  rintro k11 _ w ⟨v10, Hk8, hle9, ⟨τ, rfl⟩, hM, hm⟩
  obtain _ | k11 := k11
  · exact hm.elim
  replace hm : (ref02_Check_L1 x0 Φ) (v10) (LoopN (ref02_Check_L1 x0 Φ) k11) := hm
  generalize hrec12 : LoopN (ref02_Check_L1 x0 Φ) k11 = rec1 at hm
  refine CW.seq <| CW.seq <| CW.region <| RW.st (Ex.move (.int .i64 v10) rfl) rfl <| RW.st (Ex.fieldAddr fa65_1 rfl) rfl <| RW.st (Ex.load1 hM 0 to63 rfl rfl rfl) rfl <| RW.st (Ex.lenN st63.1 rfl hF1.hn) rfl ?_
  obtain ⟨hg13, hm⟩ := hm
  refine RW.st (Ex.mul rfl rfl hg13.1 hg13.2) rfl <| RW.st (Ex.lss rfl rfl) rfl <| RW.nil ?_
  refine CW.cond_dec (p := v10 < (64 * (x0.Words.length : Int))) rfl (fun hc14 => ?_) (fun hc14 => ?_)
  ·
   replace hm := And.left hm hc14
   refine CW.skip <| CW.seq <| CW.block <| CW.seq <| CW.region <| RW.st (Ex.loadA hM 0 [.int .i64 x0.Size, .slice A1 n1 c1] ta65 rfl rfl rfl rfl) rfl <| RW.st (Ex.move (.int .i64 v10) rfl) rfl ?_
   refine RW.callP hM (ref02_bit_lift x0 v10 (hF1.mono hle9) hm) en68 rfl rfl rfl rfl ?_; rintro _ w H16 _ hle17 ⟨v15, hm, rfl, rfl⟩ hM
   replace hM : Mem w0 H w H16 [.box b2 65 [.int .i64 x0.Size, .slice A1 n1 c1]] := hM
   refine RW.nil ?_
   refine CW.cond_b rfl (fun hc18 => ?_) (fun hc18 => ?_)
   ·
    replace hm := And.left hm hc18
    refine CW.seq <| CW.region <| RW.st (Ex.assign (.int .i64 3) rfl) rfl <| RW.nil <| CW.ret ?_
    refine blockQ_ret (thenQ_ret (thenQ_ret (blockQ_ret (thenQ_ret ?_))))
    refine end_tmp (.inl rfl) rfl (.int .i64 3) rfl ?_
    exact ⟨_, _, (hM.pick [] rfl rfl), 3, hm, rfl, rfl⟩
   ·
    replace hm := And.right hm hc18
    refine CW.skip <| CW.region <| RW.st (Ex.move (.int .i64 v10) rfl) rfl ?_
    obtain ⟨hg19, hm⟩ := hm
    refine RW.st (Ex.add rfl rfl hg19.1 hg19.2) rfl <| RW.st (Ex.assign (.int .i64 (v10 + 1)) rfl) rfl <| RW.nil ?_
    exact And.intro rfl ⟨k11, ⟨v10 + 1, H16, hle9.trans hle17, sl_canon ⟨rfl, rfl, trivial⟩, hM, (by rw [hrec12]; exact hm)⟩, Nat.lt_succ_self _⟩
  ·
   replace hm := And.right hm hc14
   refine CW.exit ?_
   refine CW.seq <| CW.region <| RW.st (Ex.assign (.int .i64 0) rfl) rfl <| RW.nil <| CW.ret ?_
   refine end_tmp (.inl rfl) rfl (.int .i64 0) rfl ?_
   exact ⟨_, _, (hM.pick [] rfl rfl), 0, hm, rfl, rfl⟩
theorem delta_correct_lift {H : Hp} (x0 : List api_Span) {A1 : Option Addr} {n1 c1 : Nat} {s1 : List Value} (hF1 : Fz (α := api_Span) H A1 n1 c1 x0 s1) {Φ : Bool → Prop} (hm : delta_correct_W x0 Φ) : RetP Tryd.prog 93 #[.slice A1 n1 c1] H (fun _ v L => ∃ y, Φ y ∧ v = .bool y ∧ L = []) := by
 refine RetP.of_code Tryd.func93 rfl (Nat.le_of_ble_eq_true rfl) fun w0 hM => ?_
 refine CW.seq <| CW.region <| RW.st (Ex.assign (.bool false) rfl) rfl <| RW.nil <| CW.seq <| CW.region <| RW.st (Ex.build bs98 [] [.int .i64 0, .int .i64 0, .int .i64 0] rfl rfl) rfl ?_
 refine RW.alloc hM tz98 [.int .i64 0, .int .i64 0, .int .i64 0] rfl rfl rfl ?_; intro b2 w hM
 replace hM : Mem w0 H w H [.box b2 98 [.int .i64 0, .int .i64 0, .int .i64 0]] := hM
 refine RW.store hM 0 (.agg #[.int .i64 0, .int .i64 0, .int .i64 0]) [.int .i64 0, .int .i64 0, .int .i64 0] [.int .i64 0, .int .i64 0, .int .i64 0] sz98 rfl rfl rfl (oneAll ⟨rfl, rfl, rfl, trivial⟩) rfl (Nat.le_of_ble_eq_true rfl) rfl [.box b2 98 [.int .i64 0, .int .i64 0, .int .i64 0]] rfl rfl rfl ?_; intro w hM
 refine RW.nil <| CW.seq <| CW.seq <| CW.region <| RW.st (Ex.move (.slice A1 n1 c1) rfl) rfl <| RW.st (Ex.lenN st22.1 rfl hF1.hn) rfl <| RW.st (Ex.move (.int .i64 0) rfl) rfl <| RW.nil <| CW.block ?_
 obtain ⟨m36, hm⟩ := hm
 skip
 refine CW.loop (β := Nat) (fun n σ w => ∃ (v5 : Int), ∃ (v6 : Int), ∃ (v7 : Int), ∃ (v8 : Int), ∃ Hk3, H.le Hk3 ∧ (∃ τ, σ = sl [(3, .pointer (some ⟨b2, 0, none⟩)), (7, .slice A1 n1 c1), (8, .int .i64 ((x0.length : Int))), (9, .int .i64 v8)] τ) ∧ Mem w0 H w Hk3 [.box b2 98 [.int .i64 v5, .int .i64 v6, .int .i64 v7]] ∧ LoopN (delta_correct_L1 x0 Φ) n (v5, v6, v7, v8)) (fun n => n) m36 ⟨0, 0, 0, 0, H, (Hp.le.refl _), sl_canon ⟨rfl, rfl, rfl, rfl, trivial⟩, hM, hm⟩ ?_
 rintro k9 _ w ⟨v5, v6, v7, v8, Hk3, hle4, ⟨τ, rfl⟩, hM, hm⟩
 obtain _ | k9 := k9
 · exact hm.elim
 replace hm : (delta_correct_L1 x0 Φ) (v5, v6, v7, v8) (LoopN (delta_correct_L1 x0 Φ) k9) := hm
 generalize hrec10 : LoopN (delta_correct_L1 x0 Φ) k9 = rec1 at hm
 refine CW.seq <| CW.region <| RW.st (Ex.lss rfl rfl) rfl <| RW.nil <| CW.seq ?_
 refine CW.cond_dec (p := v8 < (x0.length : Int)) rfl (fun hc11 => ?_) (fun hc11 => ?_)
 ·
  replace hm := And.left hm hc11
  refine CW.skip <| CW.seq <| CW.block <| CW.seq <| CW.region ?_
  obtain ⟨hg15, hm⟩ := hm
  refine RW.st (Ex.index st22 rfl rfl v8.toNat (hF1.ne hg15) hg15.nat (hF1.lt hg15)) rfl ?_
  obtain ⟨_, rfl, hx16⟩ := DtL.getI (α := api_Span) (hF1.mono hle4).dat hg15
  refine RW.st (Ex.loadEA hM hle4 hF1.rdc [.int .i64 ((ix x0 v8).Epoch), .int .i64 ((ix x0 v8).From), .int .i64 ((ix x0 v8).To)] ta98 rfl (hF1.ne hg15) rfl (chunk_sub (off := 0) (n := 3) hx16 rfl)) rfl ?_
  refine RW.alloc hM tz98 [.int .i64 0, .int .i64 0, .int .i64 0] rfl rfl rfl ?_; intro b17 w hM
  replace hM : Mem w0 H w Hk3 [.box b17 98 [.int .i64 0, .int .i64 0, .int .i64 0], .box b2 98 [.int .i64 v5, .int .i64 v6, .int .i64 v7]] := hM
  refine RW.store hM 0 (.agg #[.int .i64 ((ix x0 v8).Epoch), .int .i64 ((ix x0 v8).From), .int .i64 ((ix x0 v8).To)]) [.int .i64 ((ix x0 v8).Epoch), .int .i64 ((ix x0 v8).From), .int .i64 ((ix x0 v8).To)] [.int .i64 ((ix x0 v8).Epoch), .int .i64 ((ix x0 v8).From), .int .i64 ((ix x0 v8).To)] sz98 rfl rfl rfl (oneAll ⟨rfl, rfl, rfl, trivial⟩) rfl (Nat.le_of_ble_eq_true rfl) rfl [.box b17 98 [.int .i64 ((ix x0 v8).Epoch), .int .i64 ((ix x0 v8).From), .int .i64 ((ix x0 v8).To)], .box b2 98 [.int .i64 v5, .int .i64 v6, .int .i64 v7]] rfl rfl rfl ?_; intro w hM
  refine RW.nil <| CW.seq <| CW.seq <| CW.region <| RW.st (Ex.fieldAddr fa98_1 rfl) rfl <| RW.st (Ex.load1 hM 0 to3 rfl rfl rfl) rfl <| RW.st (Ex.fieldAddr fa98_2 rfl) rfl <| RW.st (Ex.load1 hM 1 to3 rfl rfl rfl) rfl ?_
  obtain ⟨hg26, hm⟩ := hm
  refine RW.st (Ex.add rfl rfl hg26.1 hg26.2) rfl <| RW.st (Ex.neq rfl rfl) rfl <| RW.st (Ex.move (.bool (decide (((ix x0 v8).From) ≠ (v7 + 1)))) rfl) rfl ?_
  refine RW.split 19 (p := ((ix x0 v8).From) ≠ (v7 + 1)) rfl (fun hc27 => ?_) (fun hc27 => ?_)
  ·
   replace hm := And.left hm hc27
   refine RW.pass rfl rfl <| RW.pass rfl rfl <| RW.pass rfl rfl <| RW.pass rfl rfl <| RW.pass rfl rfl <| RW.st (Ex.pickT (.bool true) rfl rfl) rfl <| RW.st (Ex.move (.bool true) rfl) rfl <| RW.pass rfl rfl <| RW.pass rfl rfl <| RW.pass rfl rfl <| RW.st (Ex.pickT (.bool true) rfl rfl) rfl <| RW.st (Ex.move (.bool true) rfl) rfl <| RW.pass rfl rfl <| RW.pass rfl rfl ?_
   refine RW.pass rfl rfl <| RW.pass rfl rfl <| RW.st (Ex.pickT (.bool true) rfl rfl) rfl <| RW.st (Ex.move (.bool true) rfl) rfl <| RW.pass rfl rfl <| RW.pass rfl rfl <| RW.pass rfl rfl <| RW.pass rfl rfl <| RW.pass rfl rfl <| RW.st (Ex.pickT (.bool true) rfl rfl) rfl <| RW.nil <| CW.cond_true rfl <| CW.seq <| CW.region ?_
   refine RW.st (Ex.assign (.bool false) rfl) rfl <| RW.nil <| CW.ret ?_
   refine thenQ_ret (blockQ_ret (thenQ_ret (thenQ_ret (blockQ_ret (thenQ_ret ?_)))))
   refine end_tmp (.inl rfl) rfl (.bool false) rfl ?_
   exact ⟨_, _, (hM.pick [] rfl rfl), false, hm, rfl, rfl⟩
  ·
   replace hm := And.right hm hc27
   refine RW.st (Ex.fieldAddr fa98_2 rfl) rfl <| RW.st (Ex.load1 hM 0 to3 rfl rfl rfl) rfl <| RW.st (Ex.fieldAddr fa98_1 rfl) rfl <| RW.st (Ex.load1 hM 0 to3 rfl rfl rfl) rfl <| RW.st (Ex.lss rfl rfl) rfl <| RW.st (Ex.pickF (.bool (decide (((ix x0 v8).To) < ((ix x0 v8).From)))) rfl rfl) rfl <| RW.st (Ex.move (.bool (decide (((ix x0 v8).To) < ((ix x0 v8).From)))) rfl) rfl ?_
   refine RW.split 26 (p := ((ix x0 v8).To) < ((ix x0 v8).From)) rfl (fun hc28 => ?_) (fun hc28 => ?_)
   ·
    replace hm := And.left hm hc28
    refine RW.pass rfl rfl <| RW.pass rfl rfl <| RW.pass rfl rfl <| RW.st (Ex.pickT (.bool true) rfl rfl) rfl <| RW.st (Ex.move (.bool true) rfl) rfl <| RW.pass rfl rfl <| RW.pass rfl rfl <| RW.pass rfl rfl <| RW.pass rfl rfl <| RW.st (Ex.pickT (.bool true) rfl rfl) rfl <| RW.st (Ex.move (.bool true) rfl) rfl <| RW.pass rfl rfl <| RW.pass rfl rfl <| RW.pass rfl rfl ?_
    refine RW.pass rfl rfl <| RW.pass rfl rfl <| RW.st (Ex.pickT (.bool true) rfl rfl) rfl <| RW.nil <| CW.cond_true rfl <| CW.seq <| CW.region <| RW.st (Ex.assign (.bool false) rfl) rfl <| RW.nil <| CW.ret ?_
    refine thenQ_ret (blockQ_ret (thenQ_ret (thenQ_ret (blockQ_ret (thenQ_ret ?_)))))
    refine end_tmp (.inl rfl) rfl (.bool false) rfl ?_
    exact ⟨_, _, (hM.pick [] rfl rfl), false, hm, rfl, rfl⟩
   ·
    replace hm := And.right hm hc28
    refine RW.st (Ex.fieldAddr fa98_2 rfl) rfl <| RW.st (Ex.load1 hM 0 to3 rfl rfl rfl) rfl <| RW.st (Ex.gtr rfl rfl) rfl <| RW.st (Ex.pickF (.bool (decide (1073741824 < ((ix x0 v8).To)))) rfl rfl) rfl <| RW.st (Ex.move (.bool (decide (1073741824 < ((ix x0 v8).To)))) rfl) rfl ?_
    refine RW.split 31 (p := 1073741824 < ((ix x0 v8).To)) rfl (fun hc29 => ?_) (fun hc29 => ?_)
    ·
     replace hm := And.left hm hc29
     refine RW.pass rfl rfl <| RW.pass rfl rfl <| RW.pass rfl rfl <| RW.pass rfl rfl <| RW.st (Ex.pickT (.bool true) rfl rfl) rfl <| RW.st (Ex.move (.bool true) rfl) rfl <| RW.pass rfl rfl <| RW.pass rfl rfl <| RW.pass rfl rfl <| RW.pass rfl rfl <| RW.pass rfl rfl <| RW.st (Ex.pickT (.bool true) rfl rfl) rfl <| RW.nil <| CW.cond_true rfl ?_
     refine CW.seq <| CW.region <| RW.st (Ex.assign (.bool false) rfl) rfl <| RW.nil <| CW.ret ?_
     refine thenQ_ret (blockQ_ret (thenQ_ret (thenQ_ret (blockQ_ret (thenQ_ret ?_)))))
     refine end_tmp (.inl rfl) rfl (.bool false) rfl ?_
     exact ⟨_, _, (hM.pick [] rfl rfl), false, hm, rfl, rfl⟩
    ·
     replace hm := And.right hm hc29
     refine RW.st (Ex.fieldAddr fa98_0 rfl) rfl <| RW.st (Ex.load1 hM 0 to3 rfl rfl rfl) rfl ?_
     refine RW.callP hM (delta_in_lift ((ix x0 v8).Epoch) 1 hm) en92 rfl rfl rfl rfl ?_; rintro _ w H31 _ hle32 ⟨v30, hm, rfl, rfl⟩ hM
     replace hM : Mem w0 H w H31 [.box b17 98 [.int .i64 ((ix x0 v8).Epoch), .int .i64 ((ix x0 v8).From), .int .i64 ((ix x0 v8).To)], .box b2 98 [.int .i64 v5, .int .i64 v6, .int .i64 v7]] := hM
     refine RW.st (Ex.not (p := v30 = true) (bvar _)) rfl <| RW.st (Ex.pickF (.bool (decide (¬ (v30 = true)))) rfl rfl) rfl <| RW.st (Ex.move (.bool (decide (¬ (v30 = true)))) rfl) rfl ?_
     refine RW.split 37 (p := ¬ (v30 = true)) rfl (fun hc33 => ?_) (fun hc33 => ?_)
     ·
      replace hm := And.left hm hc33
      refine RW.pass rfl rfl <| RW.pass rfl rfl <| RW.pass rfl rfl <| RW.pass rfl rfl <| RW.pass rfl rfl <| RW.st (Ex.pickT (.bool true) rfl rfl) rfl <| RW.nil <| CW.cond_true rfl <| CW.seq <| CW.region <| RW.st (Ex.assign (.bool false) rfl) rfl <| RW.nil <| CW.ret ?_
      refine thenQ_ret (blockQ_ret (thenQ_ret (thenQ_ret (blockQ_ret (thenQ_ret ?_)))))
      refine end_tmp (.inl rfl) rfl (.bool false) rfl ?_
      exact ⟨_, _, (hM.pick [] rfl rfl), false, hm, rfl, rfl⟩
     ·
      replace hm := And.right hm hc33
      refine RW.st (Ex.fieldAddr fa98_0 rfl) rfl <| RW.st (Ex.load1 hM 0 to3 rfl rfl rfl) rfl <| RW.st (Ex.fieldAddr fa98_0 rfl) rfl <| RW.st (Ex.load1 hM 1 to3 rfl rfl rfl) rfl <| RW.st (Ex.leq rfl rfl) rfl <| RW.st (Ex.pickF (.bool (decide (((ix x0 v8).Epoch) ≤ v5))) rfl rfl) rfl <| RW.nil ?_
      refine CW.cond_dec (p := ((ix x0 v8).Epoch) ≤ v5) rfl (fun hc34 => ?_) (fun hc34 => ?_)
      ·
       replace hm := And.left hm hc34
       refine CW.seq <| CW.region <| RW.st (Ex.assign (.bool false) rfl) rfl <| RW.nil <| CW.ret ?_
       refine thenQ_ret (blockQ_ret (thenQ_ret (thenQ_ret (blockQ_ret (thenQ_ret ?_)))))
       refine end_tmp (.inl rfl) rfl (.bool false) rfl ?_
       exact ⟨_, _, (hM.pick [] rfl rfl), false, hm, rfl, rfl⟩
      ·
       replace hm := And.right hm hc34
       refine CW.skip <| CW.region <| RW.st (Ex.loadA hM 0 [.int .i64 ((ix x0 v8).Epoch), .int .i64 ((ix x0 v8).From), .int .i64 ((ix x0 v8).To)] ta98 rfl rfl rfl rfl) rfl ?_
       refine RW.store hM 1 (.agg #[.int .i64 ((ix x0 v8).Epoch), .int .i64 ((ix x0 v8).From), .int .i64 ((ix x0 v8).To)]) [.int .i64 ((ix x0 v8).Epoch), .int .i64 ((ix x0 v8).From), .int .i64 ((ix x0 v8).To)] [.int .i64 ((ix x0 v8).Epoch), .int .i64 ((ix x0 v8).From), .int .i64 ((ix x0 v8).To)] sz98 rfl rfl rfl (oneAll ⟨rfl, rfl, rfl, trivial⟩) rfl (Nat.le_of_ble_eq_true rfl) rfl [.box b17 98 [.int .i64 ((ix x0 v8).Epoch), .int .i64 ((ix x0 v8).From), .int .i64 ((ix x0 v8).To)], .box b2 98 [.int .i64 ((ix x0 v8).Epoch), .int .i64 ((ix x0 v8).From), .int .i64 ((ix x0 v8).To)]] rfl rfl rfl ?_; intro w hM
       refine RW.nil <| CW.region ?_
       obtain ⟨hg35, hm⟩ := hm
       refine RW.st (Ex.add rfl rfl hg35.1 hg35.2) rfl <| RW.st (Ex.move (.int .i64 (v8 + 1)) rfl) rfl <| RW.nil ?_
       exact And.intro rfl ⟨k9, ⟨(ix x0 v8).Epoch, (ix x0 v8).From, (ix x0 v8).To, v8 + 1, H31, hle4.trans hle32, sl_canon ⟨rfl, rfl, rfl, rfl, trivial⟩, (hM.pick [1] rfl rfl), (by rw [hrec10]; exact hm)⟩, Nat.lt_succ_self _⟩
 ·
  replace hm := And.right hm hc11
  refine CW.exit ?_
  refine CW.seq <| CW.region <| RW.st (Ex.assign (.bool true) rfl) rfl <| RW.nil <| CW.ret ?_
  refine end_tmp (.inl rfl) rfl (.bool true) rfl ?_
  exact ⟨_, _, (hM.pick [] rfl rfl), true, hm, rfl, rfl⟩
theorem image_mapped_api_Sector_int__image_sizes_1_lift {H : Hp} (x0 : List (List Sec)) {A1 : Option Addr} {n1 c1 : Nat} {s1 : List Value} (hF1 : Fz (α := List Sec) H A1 n1 c1 x0 s1) {Φ : List Int → Prop} (hm : image_mapped_api_Sector_int__image_sizes_1_W x0 Φ) : RetP Tryd.prog 146 #[.slice A1 n1 c1, .func (.func 147) #[] #[]] H (fun H' v L => ∃ y, Φ y ∧ ∃ A40, ∃ n40, ∃ c40, ∃ s40, v = .slice A40 n40 c40 ∧ DtL (α := Int) H' s40 y ∧ n40 = y.length ∧ L = [.row (.slice A40 n40 c40) 3 1 n40 s40]) := by
 refine RetP.of_code Tryd.func146 rfl (Nat.le_of_ble_eq_true rfl) fun w0 hM => ?_
 refine CW.seq <| CW.region <| RW.st (Ex.assign (.slice none 0 0) rfl) rfl <| RW.nil <| CW.seq <| CW.region <| RW.st (Ex.move (.slice A1 n1 c1) rfl) rfl <| RW.st (Ex.lenN st24.1 rfl hF1.hn) rfl ?_
 obtain ⟨hg8, hm⟩ := hm
 obtain ⟨hg9, hm⟩ := hm
 refine RW.makeE (α := Int) hM st40 tz3 rfl rfl hg8 hg9 rfl rfl ?_; intro b2 n3 c4 s5 w hd6 hn7 hM
 replace hM : Mem w0 H w H [.row (.slice (some ⟨b2, 0, none⟩) n3 c4) 3 1 n3 s5] := hM
 refine RW.st (Ex.assign (.slice (some ⟨b2, 0, none⟩) n3 c4) rfl) rfl <| RW.nil <| CW.seq <| CW.seq <| CW.region <| RW.st (Ex.move (.slice A1 n1 c1) rfl) rfl <| RW.st (Ex.lenN st24.1 rfl hF1.hn) rfl <| RW.st (Ex.move (.int .i64 0) rfl) rfl <| RW.nil <| CW.block ?_
 obtain ⟨m39, hm⟩ := hm
 skip
 refine CW.loop (β := Nat) (fun n σ w => ∃ (v12 : List Int), ∃ (A13 : Option Addr), ∃ (n14 : Nat), ∃ (c15 : Nat), ∃ (s16 : List Value), ∃ (v19 : Int), ∃ Hk10, H.le Hk10 ∧ (∃ τ, σ = sl [(1, .func (.func 147) #[] #[]), (5, .slice A13 n14 c15), (11, .slice A1 n1 c1), (12, .int .i64 ((x0.length : Int))), (13, .int .i64 v19)] τ) ∧ Mem w0 H w Hk10 [.row (.slice A13 n14 c15) 3 1 n14 s16] ∧ (DtL (α := Int) Hk10 s16 v12) ∧ (n14 = v12.length) ∧ LoopN (image_mapped_api_Sector_int__image_sizes_1_L1 x0 Φ) n (v12, v19)) (fun n => n) m39 ⟨([] : List Int), (some ⟨b2, 0, none⟩), n3, c4, s5, 0, H, (Hp.le.refl _), sl_canon ⟨rfl, rfl, rfl, rfl, rfl, trivial⟩, hM, hd6, hn7, hm⟩ ?_
 rintro k20 _ w ⟨v12, A13, n14, c15, s16, v19, Hk10, hle11, ⟨τ, rfl⟩, hM, hd17, hn18, hm⟩
 obtain _ | k20 := k20
 · exact hm.elim
 replace hm : (image_mapped_api_Sector_int__image_sizes_1_L1 x0 Φ) (v12, v19) (LoopN (image_mapped_api_Sector_int__image_sizes_1_L1 x0 Φ) k20) := hm
 generalize hrec21 : LoopN (image_mapped_api_Sector_int__image_sizes_1_L1 x0 Φ) k20 = rec1 at hm
 refine CW.seq <| CW.region <| RW.st (Ex.lss rfl rfl) rfl <| RW.nil <| CW.seq ?_
 refine CW.cond_dec (p := v19 < (x0.length : Int)) rfl (fun hc22 => ?_) (fun hc22 => ?_)
 ·
  replace hm := And.left hm hc22
  refine CW.skip <| CW.seq <| CW.block <| CW.seq <| CW.region ?_
  obtain ⟨hg23, hm⟩ := hm
  refine RW.st (Ex.index st24 rfl rfl v19.toNat (hF1.ne hg23) hg23.nat (hF1.lt hg23)) rfl ?_
  obtain ⟨_, ⟨A24, n24, c24, s24, rfl, hF24⟩, hx25⟩ := DtL.getI (α := List Sec) (hF1.mono hle11).dat hg23
  refine RW.st (Ex.loadE hM hle11 hF1.rdc to61 rfl (hx25 0 _ rfl)) rfl <| RW.st (Ex.assign (.slice A24 n24 c24) rfl) rfl <| RW.nil <| CW.region <| RW.st (Ex.move (.slice A13 n14 c15) rfl) rfl <| RW.st (Ex.move (.func (.func 147) #[] #[]) rfl) rfl <| RW.st (Ex.move (.slice A24 n24 c24) rfl) rfl ?_
  refine RW.callP hM (image_sizes_1_lift (ix x0 v19) hF24 hm) en147 rfl rfl rfl rfl ?_; rintro _ w H27 _ hle28 ⟨v26, hm, rfl, rfl⟩ hM
  replace hM : Mem w0 H w H27 [.row (.slice A13 n14 c15) 3 1 n14 s16] := hM
  refine RW.buildSlice hM st40 tz3 [(0, .int .i64 v26)] [.int .i64 v26] (by decide) rfl rfl rfl (by decide) rfl rfl ?_; intro b29 w hM
  have hd30 : DtL H27 [.int .i64 v26] ([v26] : List Int) := (DtL.cons (c1 := [.int .i64 v26]) rfl DtL.nil)
  replace hM : Mem w0 H w H27 [.row (.slice (some ⟨b29, 0, none⟩) 1 1) 3 1 1 [.int .i64 v26], .row (.slice A13 n14 c15) 3 1 n14 s16] := hM
  obtain ⟨hg37, hm⟩ := hm
  refine RW.appendD (α := Int) (xs := v12) (ys := ([v26] : List Int)) hM 1 st40 rfl rfl (hd17.mono hle28) hn18 rfl (fun j u hj => hM.rowCell (k := 0) rfl rfl hj) hd30 rfl hg37 rfl rfl ?_; intro A31 n32 c33 s34 w hd35 hn36 hM
  replace hM : Mem w0 H w H27 [.row (.slice (some ⟨b29, 0, none⟩) 1 1) 3 1 1 [.int .i64 v26], .row (.slice A31 n32 c33) 3 1 n32 s34] := hM
  refine RW.st (Ex.assign (.slice A31 n32 c33) rfl) rfl <| RW.nil <| CW.region ?_
  obtain ⟨hg38, hm⟩ := hm
  refine RW.st (Ex.add rfl rfl hg38.1 hg38.2) rfl <| RW.st (Ex.move (.int .i64 (v19 + 1)) rfl) rfl <| RW.nil ?_
  exact And.intro rfl ⟨k20, ⟨(v12 ++ ([v26] : List Int)), A31, n32, c33, s34, v19 + 1, H27, hle11.trans hle28, sl_canon ⟨rfl, rfl, rfl, rfl, rfl, trivial⟩, (hM.pick [1] rfl rfl), hd35, hn36, (by rw [hrec21]; exact hm)⟩, Nat.lt_succ_self _⟩
 ·
  replace hm := And.right hm hc22
  refine CW.exit ?_
  refine CW.seq <| CW.region <| RW.st (Ex.move (.slice A13 n14 c15) rfl) rfl <| RW.st (Ex.assign (.slice A13 n14 c15) rfl) rfl <| RW.nil <| CW.ret ?_
  refine end_tmp (.inl rfl) rfl (.slice A13 n14 c15) rfl ?_
  exact ⟨_, _, hM, v12, hm, A13, n14, c15, s16, rfl, hd17, hn18, rfl⟩
theorem slices_IndexFunc_int_int__image_checkSizes_1_lift {H : Hp} (x0 : List Int) {A1 : Option Addr} {n1 c1 : Nat} {s1 : List Value} (hF1 : Fz (α := Int) H A1 n1 c1 x0 s1) {Φ : Int → Prop} (hm : slices_IndexFunc_int_int__image_checkSizes_1_W x0 Φ) : RetP Tryd.prog 157 #[.slice A1 n1 c1, .func (.func 145) #[] #[]] H (fun _ v L => ∃ y, Φ y ∧ v = .int .i64 (y) ∧ L = []) := by
 refine RetP.of_code Tryd.func157 rfl (Nat.le_of_ble_eq_true rfl) fun w0 hM => ?_
 refine CW.seq <| CW.region <| RW.st (Ex.assign (.int .i64 0) rfl) rfl <| RW.nil <| CW.seq <| CW.seq <| CW.region <| RW.st (Ex.move (.slice A1 n1 c1) rfl) rfl <| RW.st (Ex.lenN st40.1 rfl hF1.hn) rfl <| RW.st (Ex.move (.int .i64 0) rfl) rfl <| RW.nil <| CW.block ?_
 obtain ⟨m15, hm⟩ := hm
 skip
 refine CW.loop (β := Nat) (fun n σ w => ∃ (v4 : Int), ∃ Hk2, H.le Hk2 ∧ (∃ τ, σ = sl [(0, .slice A1 n1 c1), (1, .func (.func 145) #[] #[]), (7, .int .i64 ((x0.length : Int))), (8, .int .i64 v4)] τ) ∧ Mem w0 H w Hk2 [] ∧ LoopN (slices_IndexFunc_int_int__image_checkSizes_1_L1 x0 Φ) n (v4)) (fun n => n) m15 ⟨0, H, (Hp.le.refl _), sl_canon ⟨rfl, rfl, rfl, rfl, trivial⟩, hM, hm⟩ ?_
 rintro k5 _ w ⟨v4, Hk2, hle3, ⟨τ, rfl⟩, hM, hm⟩
 obtain _ | k5 := k5
 · exact hm.elim
 replace hm : (slices_IndexFunc_int_int__image_checkSizes_1_L1 x0 Φ) (v4) (LoopN (slices_IndexFunc_int_int__image_checkSizes_1_L1 x0 Φ) k5) := hm
 generalize hrec6 : LoopN (slices_IndexFunc_int_int__image_checkSizes_1_L1 x0 Φ) k5 = rec1 at hm
 refine CW.seq <| CW.region <| RW.st (Ex.lss rfl rfl) rfl <| RW.nil <| CW.seq ?_
 refine CW.cond_dec (p := v4 < (x0.length : Int)) rfl (fun hc7 => ?_) (fun hc7 => ?_)
 ·
  replace hm := And.left hm hc7
  refine CW.skip <| CW.seq <| CW.block <| CW.seq <| CW.region <| RW.st (Ex.move (.int .i64 v4) rfl) rfl <| RW.st (Ex.assign (.int .i64 v4) rfl) rfl <| RW.nil <| CW.seq <| CW.region <| RW.st (Ex.move (.func (.func 145) #[] #[]) rfl) rfl <| RW.st (Ex.move (.slice A1 n1 c1) rfl) rfl <| RW.st (Ex.move (.int .i64 v4) rfl) rfl ?_
  obtain ⟨hg8, hm⟩ := hm
  refine RW.st (Ex.index st40 rfl rfl v4.toNat (hF1.ne hg8) hg8.nat (hF1.lt hg8)) rfl ?_
  obtain ⟨_, rfl, hx9⟩ := DtL.getI (α := Int) (hF1.mono hle3).dat hg8
  refine RW.st (Ex.loadE hM hle3 hF1.rdc to3 rfl (hx9 0 _ rfl)) rfl ?_
  refine RW.callP hM (image_checkSizes_1_lift (ix x0 v4) hm) en145 rfl rfl rfl rfl ?_; rintro _ w H11 _ hle12 ⟨v10, hm, rfl, rfl⟩ hM
  replace hM : Mem w0 H w H11 [] := hM
  refine RW.nil ?_
  refine CW.cond_b rfl (fun hc13 => ?_) (fun hc13 => ?_)
  ·
   replace hm := And.left hm hc13
   refine CW.seq <| CW.region <| RW.st (Ex.move (.int .i64 v4) rfl) rfl <| RW.st (Ex.assign (.int .i64 v4) rfl) rfl <| RW.nil <| CW.ret ?_
   refine blockQ_ret (thenQ_ret (thenQ_ret (blockQ_ret (thenQ_ret ?_))))
   refine end_tmp (.inl rfl) rfl (.int .i64 v4) rfl ?_
   exact ⟨_, _, hM, v4, hm, rfl, rfl⟩
  ·
   replace hm := And.right hm hc13
   refine CW.skip <| CW.region ?_
   obtain ⟨hg14, hm⟩ := hm
   refine RW.st (Ex.add rfl rfl hg14.1 hg14.2) rfl <| RW.st (Ex.move (.int .i64 (v4 + 1)) rfl) rfl <| RW.nil ?_
   exact And.intro rfl ⟨k5, ⟨v4 + 1, H11, hle3.trans hle12, sl_canon ⟨rfl, rfl, rfl, rfl, trivial⟩, hM, (by rw [hrec6]; exact hm)⟩, Nat.lt_succ_self _⟩
 ·
  replace hm := And.right hm hc7
  refine CW.exit ?_
  refine CW.seq <| CW.region <| RW.st (Ex.assign (.int .i64 ((-1))) rfl) rfl <| RW.nil <| CW.ret ?_
  refine end_tmp (.inl rfl) rfl (.int .i64 ((-1))) rfl ?_
  exact ⟨_, _, hM, (-1), hm, rfl, rfl⟩
theorem bitmap_Check_lift {H : Hp} (x0 : api_Bitmap) {A1 : Option Addr} {n1 c1 : Nat} {s1 : List Value} (hF1 : Fz (α := BitVec 64) H A1 n1 c1 x0.Words s1) {Φ : Int → Prop} (hm : bitmap_Check_W x0 Φ) : RetP Tryd.prog 94 #[.agg #[.int .i64 x0.Size, .slice A1 n1 c1]] H (fun _ v L => ∃ y, Φ y ∧ v = .int .i64 (y) ∧ L = []) := by
 refine RetP.of_code Tryd.func94 rfl (Nat.le_of_ble_eq_true rfl) fun w0 hM => ?_
 refine CW.seq <| CW.region ?_
 refine RW.box hM (.agg #[.int .i64 x0.Size, .slice A1 n1 c1]) [.int .i64 x0.Size, .slice A1 n1 c1] rfl rfl rfl rfl ?_; intro b2 w hM
 replace hM : Mem w0 H w H [.box b2 65 [.int .i64 x0.Size, .slice A1 n1 c1]] := hM
 refine RW.st (Ex.assign (.int .i64 0) rfl) rfl <| RW.nil ?_
 refine CW.cut (fun D σ w => D = [] ∧ ∃ Hk3, H.le Hk3 ∧ (∃ τ, σ = sl [(1, .pointer (some ⟨b2, 0, none⟩))] τ) ∧ Mem w0 H w Hk3 [.box b2 65 [.int .i64 x0.Size, .slice A1 n1 c1]] ∧ bitmap_Check_J1 x0 Φ) ?_ ?_
 ·
  refine CW.seq ?_
  by_cases hc17 : x0.Size < 0
  ·
   replace hm := And.left hm hc17
   refine CW.drawE 17 [.pointer (some ⟨b2, 0, none⟩), .int .i64 x0.Size, .bool true, .bool true, undef, undef, undef, .bool true, .bool true, undef, undef, undef, undef, undef, undef, undef, .bool true]
    [[(1, none)], [(4, some 0)], [(5, some 1)], [(6, some 2)], [(7, some 3)], [(7, some 3)], [(7, some 3)], [(7, some 3), (10, some 6)], [(11, some 7)], [(12, some 8)], [(12, some 8)], [(12, some 8)], [(12, some 8)], [(12, some 8)], [(12, some 8)], [(12, some 8)], [(12, some 8), (19, some 15)]] [(1, none), (20, some 16)] (by kernel_rfl) hM (by kernel_rfl) ⟨?_, ?_, ?_, ?_, ?_, ?_, ?_, ?_, ?_, ?_, ?_, ?_, ?_, ?_, ?_, ?_, ?_, trivial⟩ ?_
   · exact One.ex (fun H' τ w hled hM => Ex.fieldAddr fa65_0 rfl) rfl (fun _ => rfl) rfl
   · exact One.ex (fun H' τ w hled hM => Ex.load1 hM 0 to3 rfl rfl rfl) rfl (fun _ => rfl) rfl
   · exact One.ex (fun H' τ w hled hM => Ex.yes (Ex.lss rfl rfl) hc17) rfl (fun _ => rfl) rfl
   · exact One.ex (fun H' τ w hled hM => Ex.move (.bool true) rfl) rfl (fun _ => rfl) rfl
   · exact One.pass (fun _ => rfl) rfl
   · exact One.pass (fun _ => rfl) rfl
   · exact One.pass (fun _ => rfl) rfl
   · exact One.ex (fun H' τ w hled hM => Ex.pickT (.bool true) rfl rfl) rfl (fun _ => rfl) rfl
   · exact One.ex (fun H' τ w hled hM => Ex.move (.bool true) rfl) rfl (fun _ => rfl) rfl
   · exact One.pass (fun _ => rfl) rfl
   · exact One.pass (fun _ => rfl) rfl
   · exact One.pass (fun _ => rfl) rfl
   · exact One.pass (fun _ => rfl) rfl
   · exact One.pass (fun _ => rfl) rfl
   · exact One.pass (fun _ => rfl) rfl
   · exact One.pass (fun _ => rfl) rfl
   · exact One.ex (fun H' τ w hled hM => Ex.pickT (.bool true) rfl rfl) rfl (fun _ => rfl) rfl
   intro τ w hM
   change RW _ _ _ _ _ _ _ _ (sl [(1, .pointer (some ⟨b2, 0, none⟩)), (20, .bool true)] τ) _
   refine RW.nil <| CW.cond_true rfl <| CW.seq <| CW.region <| RW.st (Ex.assign (.int .i64 3) rfl) rfl <| RW.nil <| CW.ret ?_
   refine thenQ_ret ?_
   refine end_tmp (.inl rfl) rfl (.int .i64 3) rfl ?_
   exact ⟨_, _, (hM.pick [] rfl rfl), 3, hm, rfl, rfl⟩
  ·
   replace hm := And.right hm hc17
   by_cases hc18 : 4096 < x0.Size
   ·
    replace hm := And.left hm hc18
    refine CW.drawE 17 [.pointer (some ⟨b2, 0, none⟩), .int .i64 x0.Size, .bool false, .bool false, .pointer (some ⟨b2, 0, none⟩), .int .i64 x0.Size, .bool true, .bool true, .bool true, undef, undef, undef, undef, undef, undef, undef, .bool true]
     [[(1, none)], [(4, some 0)], [(5, some 1)], [(6, some 2)], [(1, none), (7, some 3)], [(7, some 3), (8, some 4)], [(7, some 3), (9, some 5)], [(7, some 3), (10, some 6)], [(11, some 7)], [(12, some 8)], [(12, some 8)], [(12, some 8)], [(12, some 8)], [(12, some 8)], [(12, some 8)], [(12, some 8)], [(12, some 8), (19, some 15)]] [(1, none), (20, some 16)] (by kernel_rfl) hM (by kernel_rfl) ⟨?_, ?_, ?_, ?_, ?_, ?_, ?_, ?_, ?_, ?_, ?_, ?_, ?_, ?_, ?_, ?_, ?_, trivial⟩ ?_
    · exact One.ex (fun H' τ w hled hM => Ex.fieldAddr fa65_0 rfl) rfl (fun _ => rfl) rfl
    · exact One.ex (fun H' τ w hled hM => Ex.load1 hM 0 to3 rfl rfl rfl) rfl (fun _ => rfl) rfl
    · exact One.ex (fun H' τ w hled hM => Ex.no (Ex.lss rfl rfl) hc17) rfl (fun _ => rfl) rfl
    · exact One.ex (fun H' τ w hled hM => Ex.move (.bool false) rfl) rfl (fun _ => rfl) rfl
    · exact One.ex (fun H' τ w hled hM => Ex.fieldAddr fa65_0 rfl) rfl (fun _ => rfl) rfl
    · exact One.ex (fun H' τ w hled hM => Ex.load1 hM 0 to3 rfl rfl rfl) rfl (fun _ => rfl) rfl
    · exact One.ex (fun H' τ w hled hM => Ex.yes (Ex.gtr rfl rfl) hc18) rfl (fun _ => rfl) rfl
    · exact One.ex (fun H' τ w hled hM => Ex.pickF (.bool true) rfl rfl) rfl (fun _ => rfl) rfl
    · exact One.ex (fun H' τ w hled hM => Ex.move (.bool true) rfl) rfl (fun _ => rfl) rfl
    · exact One.pass (fun _ => rfl) rfl
    · exact One.pass (fun _ => rfl) rfl
    · exact One.pass (fun _ => rfl) rfl
    · exact One.pass (fun _ => rfl) rfl
    · exact One.pass (fun _ => rfl) rfl
    · exact One.pass (fun _ => rfl) rfl
    · exact One.pass (fun _ => rfl) rfl
    · exact One.ex (fun H' τ w hled hM => Ex.pickT (.bool true) rfl rfl) rfl (fun _ => rfl) rfl
    intro τ w hM
    change RW _ _ _ _ _ _ _ _ (sl [(1, .pointer (some ⟨b2, 0, none⟩)), (20, .bool true)] τ) _
    refine RW.nil <| CW.cond_true rfl <| CW.seq <| CW.region <| RW.st (Ex.assign (.int .i64 3) rfl) rfl <| RW.nil <| CW.ret ?_
    refine thenQ_ret ?_
    refine end_tmp (.inl rfl) rfl (.int .i64 3) rfl ?_
    exact ⟨_, _, (hM.pick [] rfl rfl), 3, hm, rfl, rfl⟩
   ·
    replace hm := And.right hm hc18
    obtain ⟨v19, hW20, hm⟩ := hm
    refine CW.drawE 17 [.pointer (some ⟨b2, 0, none⟩), .int .i64 x0.Size, .bool false, .bool false, .pointer (some ⟨b2, 0, none⟩), .int .i64 x0.Size, .bool false, .bool false, .bool false, .pointer (some ⟨b2, 1, none⟩), .slice A1 n1 c1, .int .i64 ((x0.Words.length : Int)), .pointer (some ⟨b2, 0, none⟩), .int .i64 x0.Size, .int .i64 v19, .bool (decide ((x0.Words.length : Int) ≠ v19)), .bool (decide ((x0.Words.length : Int) ≠ v19))]
     [[(1, none)], [(4, some 0)], [(5, some 1)], [(6, some 2)], [(1, none), (7, some 3)], [(7, some 3), (8, some 4)], [(7, some 3), (9, some 5)], [(7, some 3), (10, some 6)], [(11, some 7)], [(1, none), (12, some 8)], [(12, some 8), (13, some 9)], [(12, some 8), (14, some 10)], [(1, none), (12, some 8)], [(12, some 8), (16, some 12)], [(12, some 8), (17, some 13)], [(12, some 8), (15, some 11), (18, some 14)], [(12, some 8), (19, some 15)]] [(1, none), (20, some 16)] (by kernel_rfl) hM (by kernel_rfl) ⟨?_, ?_, ?_, ?_, ?_, ?_, ?_, ?_, ?_, ?_, ?_, ?_, ?_, ?_, ?_, ?_, ?_, trivial⟩ ?_
    · exact One.ex (fun H' τ w hled hM => Ex.fieldAddr fa65_0 rfl) rfl (fun _ => rfl) rfl
    · exact One.ex (fun H' τ w hled hM => Ex.load1 hM 0 to3 rfl rfl rfl) rfl (fun _ => rfl) rfl
    · exact One.ex (fun H' τ w hled hM => Ex.no (Ex.lss rfl rfl) hc17) rfl (fun _ => rfl) rfl
    · exact One.ex (fun H' τ w hled hM => Ex.move (.bool false) rfl) rfl (fun _ => rfl) rfl
    · exact One.ex (fun H' τ w hled hM => Ex.fieldAddr fa65_0 rfl) rfl (fun _ => rfl) rfl
    · exact One.ex (fun H' τ w hled hM => Ex.load1 hM 0 to3 rfl rfl rfl) rfl (fun _ => rfl) rfl
    · exact One.ex (fun H' τ w hled hM => Ex.no (Ex.gtr rfl rfl) hc18) rfl (fun _ => rfl) rfl
    · exact One.ex (fun H' τ w hled hM => Ex.pickF (.bool false) rfl rfl) rfl (fun _ => rfl) rfl
    · exact One.ex (fun H' τ w hled hM => Ex.move (.bool false) rfl) rfl (fun _ => rfl) rfl
    · exact One.ex (fun H' τ w hled hM => Ex.fieldAddr fa65_1 rfl) rfl (fun _ => rfl) rfl
    · exact One.ex (fun H' τ w hled hM => Ex.load1 hM 0 to63 rfl rfl rfl) rfl (fun _ => rfl) rfl
    · exact One.ex (fun H' τ w hled hM => Ex.lenN st63.1 rfl hF1.hn) rfl (fun _ => rfl) rfl
    · exact One.ex (fun H' τ w hled hM => Ex.fieldAddr fa65_0 rfl) rfl (fun _ => rfl) rfl
    · exact One.ex (fun H' τ w hled hM => Ex.load1 hM 0 to3 rfl rfl rfl) rfl (fun _ => rfl) rfl
    · exact One.call (bitmap_words_lift x0.Size hW20).toV en131 (fun _ => rfl) (fun _ => rfl) (fun _ => rfl) rfl
    · exact One.ex (fun H' τ w hled hM => Ex.neq rfl rfl) rfl (fun _ => rfl) rfl
    · exact One.ex (fun H' τ w hled hM => Ex.pickF (.bool (decide ((x0.Words.length : Int) ≠ v19))) rfl rfl) rfl (fun _ => rfl) rfl
    intro τ w hM
    change RW _ _ _ _ _ _ _ _ (sl [(1, .pointer (some ⟨b2, 0, none⟩)), (20, .bool (decide ((x0.Words.length : Int) ≠ v19)))] τ) _
    refine RW.nil ?_
    refine CW.cond_dec (p := (x0.Words.length : Int) ≠ v19) rfl (fun hc21 => ?_) (fun hc21 => ?_)
    ·
     replace hm := And.left hm hc21
     refine CW.seq <| CW.region <| RW.st (Ex.assign (.int .i64 3) rfl) rfl <| RW.nil <| CW.ret ?_
     refine thenQ_ret ?_
     refine end_tmp (.inl rfl) rfl (.int .i64 3) rfl ?_
     exact ⟨_, _, (hM.pick [] rfl rfl), 3, hm, rfl, rfl⟩
    ·
     replace hm := And.right hm hc21
     refine CW.skip ?_
     exact And.intro rfl ⟨H, (Hp.le.refl _), sl_canon ⟨rfl, trivial⟩, hM, hm⟩
 rintro _ _ w ⟨rfl, Hk3, hle4, ⟨τ, rfl⟩, hM, hm⟩
 refine CW.seq <| CW.seq <| CW.region <| RW.st (Ex.fieldAddr fa65_0 rfl) rfl <| RW.st (Ex.load1 hM 0 to3 rfl rfl rfl) rfl ?_
 obtain ⟨hg5, hm⟩ := hm
 refine RW.st (Ex.rem rfl rfl hg5 (by decide)) rfl <| RW.st (Ex.assign (.int .i64 (x0.Size % 64)) rfl) rfl <| RW.nil ?_
 obtain ⟨hG12, hm⟩ := hm
 refine CW.cut (fun D σ w => D = [] ∧ (∃ τ, σ = sl [(38, .bool (decide ((0 < (x0.Size % 64)) ∧ (((ix x0.Words ((x0.Words.length : Int) - 1)) >>> (x0.Size % 64 : Int).toNat) ≠ (0#64)))))] τ) ∧ Mem w0 H w Hk3 [.box b2 65 [.int .i64 x0.Size, .slice A1 n1 c1]]) ?_ ?_
 ·
  replace hm := hG12
  refine CW.region <| RW.st (Ex.move (.int .i64 (x0.Size % 64)) rfl) rfl <| RW.st (Ex.gtr rfl rfl) rfl <| RW.st (Ex.move (.bool (decide (0 < (x0.Size % 64)))) rfl) rfl ?_
  refine RW.split 26 (p := 0 < (x0.Size % 64)) rfl (fun hc6 => ?_) (fun hc6 => ?_)
  ·
   replace hm := hm hc6
   refine RW.st (Ex.fieldAddr fa65_1 rfl) rfl <| RW.st (Ex.load1 hM 0 to63 rfl rfl rfl) rfl <| RW.st (Ex.fieldAddr fa65_1 rfl) rfl <| RW.st (Ex.load1 hM 0 to63 rfl rfl rfl) rfl <| RW.st (Ex.lenN st63.1 rfl hF1.hn) rfl ?_
   obtain ⟨hg7, hm⟩ := hm
   refine RW.st (Ex.sub rfl rfl hg7.1 hg7.2) rfl ?_
   obtain ⟨hg8, hm⟩ := hm
   refine RW.st (Ex.index st63 rfl rfl (((x0.Words.length : Int) - 1).toNat) (hF1.ne hg8) hg8.nat (hF1.lt hg8)) rfl ?_
   obtain ⟨_, rfl, hx9⟩ := DtL.getI (α := BitVec 64) (hF1.mono hle4).dat hg8
   refine RW.st (Ex.loadE hM hle4 hF1.rdc to151 rfl (hx9 0 _ rfl)) rfl <| RW.st (Ex.move (.int .i64 (x0.Size % 64)) rfl) rfl ?_
   have hg10 := hm
   refine RW.st (Ex.shr64 (a := (ix x0.Words ((x0.Words.length : Int) - 1))) (n := x0.Size % 64) rfl rfl hg10) rfl <| RW.st (Ex.neq64 (a := (ix x0.Words ((x0.Words.length : Int) - 1)) >>> (x0.Size % 64 : Int).toNat) (b := 0#64) rfl rfl) rfl <| RW.st (Ex.pickT (.bool (decide (((ix x0.Words ((x0.Words.length : Int) - 1)) >>> (x0.Size % 64 : Int).toNat) ≠ (0#64)))) rfl rfl) rfl <| RW.nil ?_
   exact And.intro rfl (And.intro (sl_canon ⟨(congrArg Value.bool (decide_eq_decide.2 (imAnd hc6 Iff.rfl))), trivial⟩) hM)
  ·
   skip
   refine RW.pass rfl rfl <| RW.pass rfl rfl <| RW.pass rfl rfl <| RW.pass rfl rfl <| RW.pass rfl rfl <| RW.pass rfl rfl <| RW.pass rfl rfl <| RW.pass rfl rfl <| RW.pass rfl rfl <| RW.pass rfl rfl <| RW.pass rfl rfl <| RW.st (Ex.pickF (.bool false) rfl rfl) rfl <| RW.nil ?_
   exact And.intro rfl (And.intro (sl_canon ⟨(congrArg Value.bool (decide_eq_false (fun q => hc6 q.1)).symm), trivial⟩) hM)
 rintro _ _ w ⟨rfl, ⟨τ, rfl⟩, hM⟩
 refine CW.cond_dec (p := (0 < (x0.Size % 64)) ∧ (((ix x0.Words ((x0.Words.length : Int) - 1)) >>> (x0.Size % 64 : Int).toNat) ≠ (0#64))) rfl (fun hc11 => ?_) (fun hc11 => ?_)
 ·
  replace hm := And.left hm hc11
  refine CW.seq <| CW.region <| RW.st (Ex.assign (.int .i64 3) rfl) rfl <| RW.nil <| CW.ret ?_
  refine thenQ_ret ?_
  refine end_tmp (.inl rfl) rfl (.int .i64 3) rfl ?_
  exact ⟨_, _, (hM.pick [] rfl rfl), 3, hm, rfl, rfl⟩
 ·
  replace hm := And.right hm hc11
  refine CW.skip <| CW.seq <| CW.region <| RW.st (Ex.assign (.int .i64 0) rfl) rfl <| RW.nil <| CW.ret ?_
  refine end_tmp (.inl rfl) rfl (.int .i64 0) rfl ?_
  exact ⟨_, _, (hM.pick [] rfl rfl), 0, hm, rfl, rfl⟩
theorem reverse_volumes_api_Extent__reverse_Undo_1_lift {H : Hp} (hT : TabH H 0) (x0 : List api_Bitmap) {A1 : Option Addr} {n1 c1 : Nat} {s1 : List Value} (hF1 : Fz (α := api_Bitmap) H A1 n1 c1 x0 s1) {Φ : List (List api_Extent) → Prop} (hm : reverse_volumes_api_Extent__reverse_Undo_1_W x0 Φ) : RetP Tryd.prog 42 #[.slice A1 n1 c1, .func (.func 43) #[] #[]] H (fun H' v L => ∃ y, Φ y ∧ ∃ A34, ∃ n34, ∃ c34, ∃ s34, v = .slice A34 n34 c34 ∧ DtL (α := List api_Extent) H' s34 y ∧ n34 = y.length ∧ L = [.row (.slice A34 n34 c34) 68 1 n34 s34]) := by
 refine RetP.of_code Tryd.func42 rfl (Nat.le_of_ble_eq_true rfl) fun w0 hM => ?_
 refine CW.seq <| CW.region <| RW.st (Ex.assign (.slice none 0 0) rfl) rfl <| RW.nil <| CW.seq <| CW.region <| RW.st (Ex.assign (.slice none 0 0) rfl) rfl <| RW.nil <| CW.seq <| CW.seq <| CW.region <| RW.st (Ex.move (.slice A1 n1 c1) rfl) rfl <| RW.st (Ex.lenN st23.1 rfl hF1.hn) rfl <| RW.st (Ex.move (.int .i64 0) rfl) rfl ?_
 refine RW.nil <| CW.block ?_
 obtain ⟨m33, hm⟩ := hm
 skip
 replace hM := hM.nilRow 68 1
 refine CW.loop (β := Nat) (fun n σ w => ∃ (v4 : List (List api_Extent)), ∃ (A5 : Option Addr), ∃ (n6 : Nat), ∃ (c7 : Nat), ∃ (s8 : List Value), ∃ (v11 : Int), ∃ Hk2, H.le Hk2 ∧ (∃ τ, σ = sl [(1, .func (.func 43) #[] #[]), (5, .slice A5 n6 c7), (8, .slice A1 n1 c1), (9, .int .i64 ((x0.length : Int))), (10, .int .i64 v11)] τ) ∧ Mem w0 H w Hk2 [.row (.slice A5 n6 c7) 68 1 n6 s8] ∧ (DtL (α := List api_Extent) Hk2 s8 v4) ∧ (n6 = v4.length) ∧ LoopN (reverse_volumes_api_Extent__reverse_Undo_1_L1 x0 Φ) n (v4, v11)) (fun n => n) m33 ⟨([] : List (List api_Extent)), none, 0, 0, [], 0, H, (Hp.le.refl _), sl_canon ⟨rfl, rfl, rfl, rfl, rfl, trivial⟩, hM, (DtL.nil : DtL _ [] ([] : List (List api_Extent))), rfl, hm⟩ ?_
 rintro k12 _ w ⟨v4, A5, n6, c7, s8, v11, Hk2, hle3, ⟨τ, rfl⟩, hM, hd9, hn10, hm⟩
 obtain _ | k12 := k12
 · exact hm.elim
 replace hm : (reverse_volumes_api_Extent__reverse_Undo_1_L1 x0 Φ) (v4, v11) (LoopN (reverse_volumes_api_Extent__reverse_Undo_1_L1 x0 Φ) k12) := hm
 generalize hrec13 : LoopN (reverse_volumes_api_Extent__reverse_Undo_1_L1 x0 Φ) k12 = rec1 at hm
 refine CW.seq <| CW.region <| RW.st (Ex.lss rfl rfl) rfl <| RW.nil <| CW.seq ?_
 refine CW.cond_dec (p := v11 < (x0.length : Int)) rfl (fun hc14 => ?_) (fun hc14 => ?_)
 ·
  replace hm := And.left hm hc14
  refine CW.skip <| CW.seq <| CW.block <| CW.seq <| CW.region <| RW.st (Ex.move (.int .i64 v11) rfl) rfl ?_
  obtain ⟨hg15, hm⟩ := hm
  refine RW.st (Ex.index st23 rfl rfl v11.toNat (hF1.ne hg15) hg15.nat (hF1.lt hg15)) rfl ?_
  obtain ⟨_, ⟨A16, n16, c16, s16, rfl, hF16⟩, hx17⟩ := DtL.getI (α := api_Bitmap) (hF1.mono hle3).dat hg15
  refine RW.st (Ex.loadEA hM hle3 hF1.rdc [.int .i64 ((ix x0 v11).Size), .slice A16 n16 c16] ta65 rfl (hF1.ne hg15) rfl (chunk_sub (off := 0) (n := 2) hx17 rfl)) rfl ?_
  refine RW.alloc hM tz65 [.int .i64 0, .slice none 0 0] rfl rfl rfl ?_; intro b18 w hM
  replace hM : Mem w0 H w Hk2 [.box b18 65 [.int .i64 0, .slice none 0 0], .row (.slice A5 n6 c7) 68 1 n6 s8] := hM
  refine RW.st (Ex.assign (.int .i64 v11) rfl) rfl ?_
  refine RW.store hM 0 (.agg #[.int .i64 ((ix x0 v11).Size), .slice A16 n16 c16]) [.int .i64 ((ix x0 v11).Size), .slice A16 n16 c16] [.int .i64 ((ix x0 v11).Size), .slice A16 n16 c16] sz65 rfl rfl rfl (oneAll ⟨rfl, rfl, trivial⟩) rfl (Nat.le_of_ble_eq_true rfl) rfl [.box b18 65 [.int .i64 ((ix x0 v11).Size), .slice A16 n16 c16], .row (.slice A5 n6 c7) 68 1 n6 s8] rfl rfl rfl ?_; intro w hM
  refine RW.nil <| CW.region <| RW.st (Ex.move (.slice A5 n6 c7) rfl) rfl <| RW.st (Ex.move (.func (.func 43) #[] #[]) rfl) rfl <| RW.st (Ex.move (.int .i64 v11) rfl) rfl <| RW.st (Ex.loadA hM 0 [.int .i64 ((ix x0 v11).Size), .slice A16 n16 c16] ta65 rfl rfl rfl rfl) rfl ?_
  refine RW.callP hM (reverse_Undo_1_lift (hT.mono hle3) v11 (ix x0 v11) hF16 hm) en43 rfl rfl rfl rfl ?_; rintro _ w H20 _ hle21 ⟨v19, hm, A22, n22, c22, s22, rfl, hF22, rfl⟩ hM
  replace hM : Mem w0 H w H20 [.box b18 65 [.int .i64 ((ix x0 v11).Size), .slice A16 n16 c16], .row (.slice A5 n6 c7) 68 1 n6 s8] := hM
  refine RW.buildSlice hM st30 tz68 [(0, .slice A22 n22 c22)] [.slice A22 n22 c22] (by decide) rfl rfl rfl (by decide) rfl rfl ?_; intro b23 w hM
  have hd24 : DtL H20 [.slice A22 n22 c22] ([v19] : List (List api_Extent)) := (DtL.cons (c1 := [.slice A22 n22 c22]) ⟨_, _, _, _, rfl, hF22⟩ DtL.nil)
  replace hM : Mem w0 H w H20 [.row (.slice (some ⟨b23, 0, none⟩) 1 1) 68 1 1 [.slice A22 n22 c22], .box b18 65 [.int .i64 ((ix x0 v11).Size), .slice A16 n16 c16], .row (.slice A5 n6 c7) 68 1 n6 s8] := hM
  obtain ⟨hg31, hm⟩ := hm
  refine RW.appendD (α := List api_Extent) (xs := v4) (ys := ([v19] : List (List api_Extent))) hM 2 st30 rfl rfl (hd9.mono hle21) hn10 rfl (fun j u hj => hM.rowCell (k := 0) rfl rfl hj) hd24 rfl hg31 rfl rfl ?_; intro A25 n26 c27 s28 w hd29 hn30 hM
  replace hM : Mem w0 H w H20 [.row (.slice (some ⟨b23, 0, none⟩) 1 1) 68 1 1 [.slice A22 n22 c22], .box b18 65 [.int .i64 ((ix x0 v11).Size), .slice A16 n16 c16], .row (.slice A25 n26 c27) 68 1 n26 s28] := hM
  refine RW.st (Ex.assign (.slice A25 n26 c27) rfl) rfl <| RW.nil <| CW.region ?_
  obtain ⟨hg32, hm⟩ := hm
  refine RW.st (Ex.add rfl rfl hg32.1 hg32.2) rfl <| RW.st (Ex.move (.int .i64 (v11 + 1)) rfl) rfl <| RW.nil ?_
  exact And.intro rfl ⟨k12, ⟨(v4 ++ ([v19] : List (List api_Extent))), A25, n26, c27, s28, v11 + 1, H20, hle3.trans hle21, sl_canon ⟨rfl, rfl, rfl, rfl, rfl, trivial⟩, (hM.pick [2] rfl rfl), hd29, hn30, (by rw [hrec13]; exact hm)⟩, Nat.lt_succ_self _⟩
 ·
  replace hm := And.right hm hc14
  refine CW.exit ?_
  refine CW.seq <| CW.region <| RW.st (Ex.move (.slice A5 n6 c7) rfl) rfl <| RW.st (Ex.assign (.slice A5 n6 c7) rfl) rfl <| RW.nil <| CW.ret ?_
  refine end_tmp (.inl rfl) rfl (.slice A5 n6 c7) rfl ?_
  exact ⟨_, _, hM, v4, hm, A5, n6, c7, s8, rfl, hd9, hn10, rfl⟩
theorem slices_EqualFunc_api_Image_api_Image_api_Sector_api_Sector__delta_alike_1_lift {H : Hp} (x0 : List (List Sec)) (x1 : List (List Sec)) {A1 : Option Addr} {n1 c1 : Nat} {s1 : List Value} (hF1 : Fz (α := List Sec) H A1 n1 c1 x0 s1) {A2 : Option Addr} {n2 c2 : Nat} {s2 : List Value} (hF2 : Fz (α := List Sec) H A2 n2 c2 x1 s2) {Φ : Bool → Prop} (hm : slices_EqualFunc_api_Image_api_Image_api_Sector_api_Sector__delta_alike_1_W x0 x1 Φ) : RetP Tryd.prog 135 #[.slice A1 n1 c1, .slice A2 n2 c2, .func (.func 136) #[] #[]] H (fun _ v L => ∃ y, Φ y ∧ v = .bool y ∧ L = []) := by
 refine RetP.of_code Tryd.func135 rfl (Nat.le_of_ble_eq_true rfl) fun w0 hM => ?_
 refine CW.seq <| CW.region <| RW.st (Ex.assign (.bool false) rfl) rfl <| RW.nil <| CW.seq <| CW.seq <| CW.region <| RW.st (Ex.move (.slice A1 n1 c1) rfl) rfl <| RW.st (Ex.lenN st25.1 rfl hF1.hn) rfl <| RW.st (Ex.move (.slice A2 n2 c2) rfl) rfl <| RW.st (Ex.lenN st25.1 rfl hF2.hn) rfl <| RW.st (Ex.neq rfl rfl) rfl <| RW.nil ?_
 refine CW.cond_dec (p := (x0.length : Int) ≠ (x1.length : Int)) rfl (fun hc3 => ?_) (fun hc3 => ?_)
 ·
  replace hm := And.left hm hc3
  refine CW.seq <| CW.region <| RW.st (Ex.assign (.bool false) rfl) rfl <| RW.nil <| CW.ret ?_
  refine thenQ_ret ?_
  refine end_tmp (.inl rfl) rfl (.bool false) rfl ?_
  exact ⟨_, _, hM, false, hm, rfl, rfl⟩
 ·
  replace hm := And.right hm hc3
  refine CW.skip <| CW.seq <| CW.seq <| CW.region <| RW.st (Ex.move (.slice A1 n1 c1) rfl) rfl <| RW.st (Ex.lenN st25.1 rfl hF1.hn) rfl <| RW.st (Ex.move (.int .i64 0) rfl) rfl <| RW.nil <| CW.block ?_
  obtain ⟨m21, hm⟩ := hm
  skip
  refine CW.loop (β := Nat) (fun n σ w => ∃ (v6 : Int), ∃ Hk4, H.le Hk4 ∧ (∃ τ, σ = sl [(1, .slice A2 n2 c2), (2, .func (.func 136) #[] #[]), (15, .slice A1 n1 c1), (16, .int .i64 ((x0.length : Int))), (17, .int .i64 v6)] τ) ∧ Mem w0 H w Hk4 [] ∧ LoopN (slices_EqualFunc_api_Image_api_Image_api_Sector_api_Sector__delta_alike_1_L1 x0 x1 Φ) n (v6)) (fun n => n) m21 ⟨0, H, (Hp.le.refl _), sl_canon ⟨rfl, rfl, rfl, rfl, rfl, trivial⟩, hM, hm⟩ ?_
  rintro k7 _ w ⟨v6, Hk4, hle5, ⟨τ, rfl⟩, hM, hm⟩
  obtain _ | k7 := k7
  · exact hm.elim
  replace hm : (slices_EqualFunc_api_Image_api_Image_api_Sector_api_Sector__delta_alike_1_L1 x0 x1 Φ) (v6) (LoopN (slices_EqualFunc_api_Image_api_Image_api_Sector_api_Sector__delta_alike_1_L1 x0 x1 Φ) k7) := hm
  generalize hrec8 : LoopN (slices_EqualFunc_api_Image_api_Image_api_Sector_api_Sector__delta_alike_1_L1 x0 x1 Φ) k7 = rec1 at hm
  refine CW.seq <| CW.region <| RW.st (Ex.lss rfl rfl) rfl <| RW.nil <| CW.seq ?_
  refine CW.cond_dec (p := v6 < (x0.length : Int)) rfl (fun hc9 => ?_) (fun hc9 => ?_)
  ·
   replace hm := And.left hm hc9
   refine CW.skip <| CW.seq <| CW.block <| CW.seq <| CW.region <| RW.st (Ex.move (.int .i64 v6) rfl) rfl ?_
   obtain ⟨hg10, hm⟩ := hm
   refine RW.st (Ex.index st25 rfl rfl v6.toNat (hF1.ne hg10) hg10.nat (hF1.lt hg10)) rfl ?_
   obtain ⟨_, ⟨A11, n11, c11, s11, rfl, hF11⟩, hx12⟩ := DtL.getI (α := List Sec) (hF1.mono hle5).dat hg10
   refine RW.st (Ex.loadE hM hle5 hF1.rdc to61 rfl (hx12 0 _ rfl)) rfl <| RW.st (Ex.assign (.int .i64 v6) rfl) rfl <| RW.st (Ex.assign (.slice A11 n11 c11) rfl) rfl <| RW.nil <| CW.seq <| CW.region <| RW.st (Ex.move (.slice A2 n2 c2) rfl) rfl <| RW.st (Ex.move (.int .i64 v6) rfl) rfl ?_
   obtain ⟨hg13, hm⟩ := hm
   refine RW.st (Ex.index st25 rfl rfl v6.toNat (hF2.ne hg13) hg13.nat (hF2.lt hg13)) rfl ?_
   obtain ⟨_, ⟨A14, n14, c14, s14, rfl, hF14⟩, hx15⟩ := DtL.getI (α := List Sec) (hF2.mono hle5).dat hg13
   refine RW.st (Ex.loadE hM hle5 hF2.rdc to61 rfl (hx15 0 _ rfl)) rfl <| RW.st (Ex.assign (.slice A14 n14 c14) rfl) rfl <| RW.nil <| CW.seq <| CW.region <| RW.st (Ex.move (.func (.func 136) #[] #[]) rfl) rfl <| RW.st (Ex.move (.slice A11 n11 c11) rfl) rfl <| RW.st (Ex.move (.slice A14 n14 c14) rfl) rfl ?_
   refine RW.callP hM (delta_alike_1_lift (ix x0 v6) (ix x1 v6) hF11 hF14 hm) en136 rfl rfl rfl rfl ?_; rintro _ w H17 _ hle18 ⟨v16, hm, rfl, rfl⟩ hM
   replace hM : Mem w0 H w H17 [] := hM
   refine RW.st (Ex.not (p := v16 = true) (bvar _)) rfl <| RW.nil ?_
   refine CW.cond_dec (p := ¬ (v16 = true)) rfl (fun hc19 => ?_) (fun hc19 => ?_)
   ·
    replace hm := And.left hm hc19
    refine CW.seq <| CW.region <| RW.st (Ex.assign (.bool false) rfl) rfl <| RW.nil <| CW.ret ?_
    refine blockQ_ret (thenQ_ret (thenQ_ret (blockQ_ret (thenQ_ret ?_))))
    refine end_tmp (.inl rfl) rfl (.bool false) rfl ?_
    exact ⟨_, _, hM, false, hm, rfl, rfl⟩
   ·
    replace hm := And.right hm hc19
    refine CW.skip <| CW.region ?_
    obtain ⟨hg20, hm⟩ := hm
    refine RW.st (Ex.add rfl rfl hg20.1 hg20.2) rfl <| RW.st (Ex.move (.int .i64 (v6 + 1)) rfl) rfl <| RW.nil ?_
    exact And.intro rfl ⟨k7, ⟨v6 + 1, H17, hle5.trans hle18, sl_canon ⟨rfl, rfl, rfl, rfl, rfl, trivial⟩, hM, (by rw [hrec8]; exact hm)⟩, Nat.lt_succ_self _⟩
  ·
   replace hm := And.right hm hc9
   refine CW.exit ?_
   refine CW.seq <| CW.region <| RW.st (Ex.assign (.bool true) rfl) rfl <| RW.nil <| CW.ret ?_
   refine end_tmp (.inl rfl) rfl (.bool true) rfl ?_
   exact ⟨_, _, hM, true, hm, rfl, rfl⟩
theorem image_mapped_int_api_Sector__image_New_1_lift {H : Hp} (x0 : List Int) {A1 : Option Addr} {n1 c1 : Nat} {s1 : List Value} (hF1 : Fz (α := Int) H A1 n1 c1 x0 s1) {Φ : List (List Sec) → Prop} (hm : image_mapped_int_api_Sector__image_New_1_W x0 Φ) : RetP Tryd.prog 138 #[.slice A1 n1 c1, .func (.func 139) #[] #[]] H (fun H' v L => ∃ y, Φ y ∧ ∃ A44, ∃ n44, ∃ c44, ∃ s44, ∃ rs45, v = .slice A44 n44 c44 ∧ DeepL (α := List Sec) [71] H' s44 y rs45 ∧ n44 = y.length ∧ L = .row (.slice A44 n44 c44) 61 1 n44 s44 :: rs45) := by
 refine RetP.of_code Tryd.func138 rfl (Nat.le_of_ble_eq_true rfl) fun w0 hM => ?_
 refine CW.seq <| CW.region <| RW.st (Ex.assign (.slice none 0 0) rfl) rfl <| RW.nil <| CW.seq <| CW.region <| RW.st (Ex.move (.slice A1 n1 c1) rfl) rfl <| RW.st (Ex.lenN st40.1 rfl hF1.hn) rfl ?_
 obtain ⟨hg8, hm⟩ := hm
 obtain ⟨hg9, hm⟩ := hm
 refine RW.makeE (α := List Sec) hM st24 tz61 rfl rfl hg8 hg9 rfl rfl ?_; intro b2 n3 c4 s5 w hd6 hn7 hM
 replace hM : Mem w0 H w H [.row (.slice (some ⟨b2, 0, none⟩) n3 c4) 61 1 n3 s5] := hM
 refine RW.st (Ex.assign (.slice (some ⟨b2, 0, none⟩) n3 c4) rfl) rfl <| RW.nil <| CW.seq <| CW.seq <| CW.region <| RW.st (Ex.move (.slice A1 n1 c1) rfl) rfl <| RW.st (Ex.lenN st40.1 rfl hF1.hn) rfl <| RW.st (Ex.move (.int .i64 0) rfl) rfl <| RW.nil <| CW.block ?_
 obtain ⟨m43, hm⟩ := hm
 skip
 refine CW.loop (β := Nat) (fun n σ w => ∃ (v12 : List (List Sec)), ∃ (A13 : Option Addr), ∃ (n14 : Nat), ∃ (c15 : Nat), ∃ (s16 : List Value), ∃ (rs17 : List Ent), ∃ (v20 : Int), ∃ Hk10, H.le Hk10 ∧ (∃ τ, σ = sl [(1, .func (.func 139) #[] #[]), (5, .slice A13 n14 c15), (11, .slice A1 n1 c1), (12, .int .i64 ((x0.length : Int))), (13, .int .i64 v20)] τ) ∧ Mem w0 H w Hk10 (.row (.slice A13 n14 c15) 61 1 n14 s16 :: rs17) ∧ (DeepL (α := List Sec) [71] Hk10 s16 v12 rs17) ∧ (n14 = v12.length) ∧ LoopN (image_mapped_int_api_Sector__image_New_1_L1 x0 Φ) n (v12, v20)) (fun n => n) m43 ⟨([] : List (List Sec)), (some ⟨b2, 0, none⟩), n3, c4, s5, [], 0, H, (Hp.le.refl _), sl_canon ⟨rfl, rfl, rfl, rfl, rfl, trivial⟩, hM, (DeepL.ofNil (Ts := [71]) hd6), hn7, hm⟩ ?_
 rintro k21 _ w ⟨v12, A13, n14, c15, s16, rs17, v20, Hk10, hle11, ⟨τ, rfl⟩, hM, hd18, hn19, hm⟩
 obtain _ | k21 := k21
 · exact hm.elim
 replace hm : (image_mapped_int_api_Sector__image_New_1_L1 x0 Φ) (v12, v20) (LoopN (image_mapped_int_api_Sector__image_New_1_L1 x0 Φ) k21) := hm
 generalize hrec22 : LoopN (image_mapped_int_api_Sector__image_New_1_L1 x0 Φ) k21 = rec1 at hm
 refine CW.seq <| CW.region <| RW.st (Ex.lss rfl rfl) rfl <| RW.nil <| CW.seq ?_
 refine CW.cond_dec (p := v20 < (x0.length : Int)) rfl (fun hc23 => ?_) (fun hc23 => ?_)
 ·
  replace hm := And.left hm hc23
  refine CW.skip <| CW.seq <| CW.block <| CW.seq <| CW.region ?_
  obtain ⟨hg24, hm⟩ := hm
  refine RW.st (Ex.index st40 rfl rfl v20.toNat (hF1.ne hg24) hg24.nat (hF1.lt hg24)) rfl ?_
  obtain ⟨_, rfl, hx25⟩ := DtL.getI (α := Int) (hF1.mono hle11).dat hg24
  refine RW.st (Ex.loadE hM hle11 hF1.rdc to3 rfl (hx25 0 _ rfl)) rfl <| RW.st (Ex.assign (.int .i64 ((ix x0 v20))) rfl) rfl <| RW.nil <| CW.region <| RW.st (Ex.move (.slice A13 n14 c15) rfl) rfl <| RW.st (Ex.move (.func (.func 139) #[] #[]) rfl) rfl <| RW.st (Ex.move (.int .i64 ((ix x0 v20))) rfl) rfl ?_
  refine RW.callP hM (image_New_1_lift (ix x0 v20) hm) en139 rfl rfl rfl rfl ?_; rintro _ w H27 _ hle28 ⟨v26, hm, A29, n29, c29, s29, rfl, hd30, hn31, rfl⟩ hM
  replace hM : Mem w0 H w H27 (.row (.slice A29 n29 c29) 71 8 n29 s29 :: .row (.slice A13 n14 c15) 61 1 n14 s16 :: rs17) := hM
  refine RW.buildSlice hM st24 tz61 [(0, .slice A29 n29 c29)] [.slice A29 n29 c29] (by decide) rfl rfl rfl (by decide) rfl rfl ?_; intro b32 w hM
  replace hM : Mem w0 H w H27 (.row (.slice (some ⟨b32, 0, none⟩) 1 1) 61 1 1 [.slice A29 n29 c29] :: .row (.slice A29 n29 c29) 71 8 n29 s29 :: .row (.slice A13 n14 c15) 61 1 n14 s16 :: rs17) := hM
  obtain ⟨hg38, hm⟩ := hm
  refine RW.appendH (α := List Sec) (xs := v12) (x0 := v26) hM 2 st24 rfl rfl hn19 rfl (fun j u hj => hM.rowCell (k := 0) rfl rfl hj) rfl (oneAll ⟨rfl, trivial⟩) hg38 rfl rfl ?_; intro A34 n35 c36 w hn37 hM
  replace hM : Mem w0 H w H27 (.row (.slice (some ⟨b32, 0, none⟩) 1 1) 61 1 1 [.slice A29 n29 c29] :: .row (.slice A29 n29 c29) 71 8 n29 s29 :: .row (.slice A34 n35 c36) 61 1 n35 (s16 ++ [.slice A29 n29 c29]) :: rs17) := hM
  obtain ⟨s39, rs40, hd41, hM⟩ := Mem.adopt (α := List Sec) (Ts := [71]) (x := v26) [.row (.slice (some ⟨b32, 0, none⟩) 1 1) 61 1 1 [.slice A29 n29 c29], .row (.slice A34 n35 c36) 61 1 n35 (s16 ++ [.slice A29 n29 c29])] (Mem.pickT (L1 := [.row (.slice (some ⟨b32, 0, none⟩) 1 1) 61 1 1 [.slice A29 n29 c29], .row (.slice A29 n29 c29) 71 8 n29 s29, .row (.slice A34 n35 c36) 61 1 n35 (s16 ++ [.slice A29 n29 c29])]) (T := rs17) hM [1, 0, 2] rfl rfl) 1 rfl (hd18.mono hle28) ⟨A29, n29, c29, s29, rfl, rfl, hd30, hn31⟩
  replace hM : Mem w0 H w H27 (.row (.slice A34 n35 c36) 61 1 n35 s39 :: rs40) := Mem.pickT (L1 := [.row (.slice (some ⟨b32, 0, none⟩) 1 1) 61 1 1 [.slice A29 n29 c29], .row (.slice A34 n35 c36) 61 1 n35 s39]) (T := rs40) hM [1] rfl rfl
  refine RW.st (Ex.assign (.slice A34 n35 c36) rfl) rfl <| RW.nil <| CW.region ?_
  obtain ⟨hg42, hm⟩ := hm
  refine RW.st (Ex.add rfl rfl hg42.1 hg42.2) rfl <| RW.st (Ex.move (.int .i64 (v20 + 1)) rfl) rfl <| RW.nil ?_
  exact And.intro rfl ⟨k21, ⟨(v12 ++ [v26]), A34, n35, c36, s39, rs40, v20 + 1, H27, hle11.trans hle28, sl_canon ⟨rfl, rfl, rfl, rfl, rfl, trivial⟩, hM, hd41, hn37, (by rw [hrec22]; exact hm)⟩, Nat.lt_succ_self _⟩
 ·
  replace hm := And.right hm hc23
  refine CW.exit ?_
  refine CW.seq <| CW.region <| RW.st (Ex.move (.slice A13 n14 c15) rfl) rfl <| RW.st (Ex.assign (.slice A13 n14 c15) rfl) rfl <| RW.nil <| CW.ret ?_
  refine end_tmp (.inl rfl) rfl (.slice A13 n14 c15) rfl ?_
  exact ⟨_, _, hM, v12, hm, A13, n14, c15, s16, rs17, rfl, hd18, hn19, rfl⟩
theorem cycle_positions_1_lift {H : Hp} (x0 : Int) {Φ : Bool → Prop} (hm : cycle_positions_1_W x0 Φ) : RetP Tryd.prog 141 #[.int .i64 x0] H (fun _ v L => ∃ y, Φ y ∧ v = .bool y ∧ L = []) := by
 refine RetP.of_code Tryd.func141 rfl (Nat.le_of_ble_eq_true rfl) fun w0 hM => ?_
 refine CW.seq <| CW.region <| RW.st (Ex.assign (.bool false) rfl) rfl <| RW.nil <| CW.seq <| CW.region <| RW.st (Ex.move (.int .i64 x0) rfl) rfl ?_
 refine RW.callP hM (cycle_in_lift x0 0 1073741824 hm) en103 rfl rfl rfl rfl ?_; rintro _ w H2 _ hle3 ⟨v1, hm, rfl, rfl⟩ hM
 replace hM : Mem w0 H w H2 [] := hM
 refine RW.st (Ex.not (p := v1 = true) (bvar _)) rfl <| RW.st (Ex.assign (.bool (decide (¬ (v1 = true)))) rfl) rfl <| RW.nil <| CW.ret ?_
 refine end_tmp (.inl rfl) rfl (.bool (decide (¬ (v1 = true)))) rfl ?_
 exact ⟨_, _, hM, decide (¬ (v1 = true)), hm, rfl, rfl⟩
end Go.Proofs.YtahlanamngfkcaaDoor

namespace Go.Proofs.YtahlanamngfkcaaDoor
open Go.RowKit
theorem ref47_SameExtents_lift {H : Hp} (x0 : List (List api_Extent)) (x1 : List (List api_Extent)) {A1 : Option Addr} {n1 c1 : Nat} {s1 : List Value} (hF1 : Fz (α := List api_Extent) H A1 n1 c1 x0 s1) {A2 : Option Addr} {n2 c2 : Nat} {s2 : List Value} (hF2 : Fz (α := List api_Extent) H A2 n2 c2 x1 s2) {Φ : Bool → Prop} (hm : ref47_SameExtents_W x0 x1 Φ) : RetP Tryd.prog 16 #[.slice A1 n1 c1, .slice A2 n2 c2] H (fun _ v L => ∃ y, Φ y ∧ v = .bool y ∧ L = []) := by
 refine RetP.of_code Tryd.func16 rfl (Nat.le_of_ble_eq_true rfl) fun w0 hM => ?_
 refine CW.seq <| CW.region <| RW.st (Ex.assign (.bool false) rfl) rfl <| RW.nil <| CW.seq <| CW.seq <| CW.region <| RW.st (Ex.move (.slice A1 n1 c1) rfl) rfl <| RW.st (Ex.lenN st30.1 rfl hF1.hn) rfl <| RW.st (Ex.move (.slice A2 n2 c2) rfl) rfl <| RW.st (Ex.lenN st30.1 rfl hF2.hn) rfl <| RW.st (Ex.neq rfl rfl) rfl <| RW.nil ?_
 refine CW.cond_dec (p := (x0.length : Int) ≠ (x1.length : Int)) rfl (fun hc3 => ?_) (fun hc3 => ?_)
 ·
  replace hm := And.left hm hc3
  refine CW.seq <| CW.region <| RW.st (Ex.assign (.bool false) rfl) rfl <| RW.nil <| CW.ret ?_
  refine thenQ_ret ?_
  refine end_tmp (.inl rfl) rfl (.bool false) rfl ?_
  exact ⟨_, _, hM, false, hm, rfl, rfl⟩
 ·
  replace hm := And.right hm hc3
  refine CW.skip <| CW.seq <| CW.seq <| CW.region <| RW.st (Ex.assign (.int .i64 0) rfl) rfl <| RW.nil <| CW.block ?_
  obtain ⟨m20, hm⟩ := hm
  skip
  refine CW.loop (β := Nat) (fun n σ w => ∃ (v6 : Int), ∃ Hk4, H.le Hk4 ∧ (∃ τ, σ = sl [(0, .slice A1 n1 c1), (1, .slice A2 n2 c2), (5, .int .i64 v6)] τ) ∧ Mem w0 H w Hk4 [] ∧ LoopN (ref47_SameExtents_L1 x0 x1 Φ) n (v6)) (fun n => n) m20 ⟨0, H, (Hp.le.refl _), sl_canon ⟨rfl, rfl, rfl, trivial⟩, hM, hm⟩ ?_
  rintro k7 _ w ⟨v6, Hk4, hle5, ⟨τ, rfl⟩, hM, hm⟩
  obtain _ | k7 := k7
  · exact hm.elim
  replace hm : (ref47_SameExtents_L1 x0 x1 Φ) (v6) (LoopN (ref47_SameExtents_L1 x0 x1 Φ) k7) := hm
  generalize hrec8 : LoopN (ref47_SameExtents_L1 x0 x1 Φ) k7 = rec1 at hm
  refine CW.seq <| CW.seq <| CW.region <| RW.st (Ex.move (.int .i64 v6) rfl) rfl <| RW.st (Ex.move (.slice A1 n1 c1) rfl) rfl <| RW.st (Ex.lenN st30.1 rfl hF1.hn) rfl <| RW.st (Ex.lss rfl rfl) rfl <| RW.nil ?_
  refine CW.cond_dec (p := v6 < (x0.length : Int)) rfl (fun hc9 => ?_) (fun hc9 => ?_)
  ·
   replace hm := And.left hm hc9
   refine CW.skip <| CW.seq <| CW.block <| CW.seq ?_
   obtain ⟨hg10, hm⟩ := hm
   obtain ⟨_, ⟨A11, n11, c11, s11, rfl, hF11⟩, hx12⟩ := DtL.getI (α := List api_Extent) (hF1.mono hle5).dat hg10
   obtain ⟨hg13, hm⟩ := hm
   obtain ⟨_, ⟨A14, n14, c14, s14, rfl, hF14⟩, hx15⟩ := DtL.getI (α := List api_Extent) (hF2.mono hle5).dat hg13
   obtain ⟨v16, hW17, hm⟩ := hm
   refine CW.drawE 10 [.slice A1 n1 c1, .int .i64 v6, elp A1 (v6.toNat * 1 + 0), .slice A11 n11 c11, .slice A2 n2 c2, .int .i64 v6, elp A2 (v6.toNat * 1 + 0), .slice A14 n14 c14, .bool v16, .bool (decide (¬ (v16 = true)))]
    [[(0, none)], [(5, none)], [(17, some 0), (18, some 1)], [(19, some 2)], [(1, none)], [(5, none)], [(21, some 4), (22, some 5)], [(23, some 6)], [(20, some 3), (24, some 7)], [(25, some 8)]] [(0, none), (1, none), (5, none), (26, some 9)] (by kernel_rfl) hM (by kernel_rfl) ⟨?_, ?_, ?_, ?_, ?_, ?_, ?_, ?_, ?_, ?_, trivial⟩ ?_
   · exact One.ex (fun H' τ w hled hM => Ex.move (.slice A1 n1 c1) rfl) rfl (fun _ => rfl) rfl
   · exact One.ex (fun H' τ w hled hM => Ex.move (.int .i64 v6) rfl) rfl (fun _ => rfl) rfl
   · exact One.ex (fun H' τ w hled hM => Ex.index st30 rfl rfl v6.toNat (hF1.ne hg10) hg10.nat (hF1.lt hg10)) rfl (fun _ => rfl) rfl
   · exact One.ex (fun H' τ w hled hM => Ex.loadE hM (hle5.trans hled) hF1.rdc to68 rfl (hx12 0 _ rfl)) rfl (fun _ => rfl) rfl
   · exact One.ex (fun H' τ w hled hM => Ex.move (.slice A2 n2 c2) rfl) rfl (fun _ => rfl) rfl
   · exact One.ex (fun H' τ w hled hM => Ex.move (.int .i64 v6) rfl) rfl (fun _ => rfl) rfl
   · exact One.ex (fun H' τ w hled hM => Ex.index st30 rfl rfl v6.toNat (hF2.ne hg13) hg13.nat (hF2.lt hg13)) rfl (fun _ => rfl) rfl
   · exact One.ex (fun H' τ w hled hM => Ex.loadE hM (hle5.trans hled) hF2.rdc to68 rfl (hx15 0 _ rfl)) rfl (fun _ => rfl) rfl
   · exact One.call (ref02_SameExtents_lift (ix x0 v6) (ix x1 v6) hF11 hF14 hW17).toV en49 (fun _ => rfl) (fun _ => rfl) (fun _ => rfl) rfl
   · exact One.ex (fun H' τ w hled hM => Ex.not (p := v16 = true) (bvar _)) rfl (fun _ => rfl) rfl
   intro τ w hM
   change RW _ _ _ _ _ _ _ _ (sl [(0, .slice A1 n1 c1), (1, .slice A2 n2 c2), (5, .int .i64 v6), (26, .bool (decide (¬ (v16 = true))))] τ) _
   refine RW.nil ?_
   refine CW.cond_dec (p := ¬ (v16 = true)) rfl (fun hc18 => ?_) (fun hc18 => ?_)
   ·
    replace hm := And.left hm hc18
    refine CW.seq <| CW.region <| RW.st (Ex.assign (.bool false) rfl) rfl <| RW.nil <| CW.ret ?_
    refine blockQ_ret (thenQ_ret (thenQ_ret (blockQ_ret (thenQ_ret ?_))))
    refine end_tmp (.inl rfl) rfl (.bool false) rfl ?_
    exact ⟨_, _, hM, false, hm, rfl, rfl⟩
   ·
    replace hm := And.right hm hc18
    refine CW.skip <| CW.region <| RW.st (Ex.move (.int .i64 v6) rfl) rfl ?_
    obtain ⟨hg19, hm⟩ := hm
    refine RW.st (Ex.add rfl rfl hg19.1 hg19.2) rfl <| RW.st (Ex.assign (.int .i64 (v6 + 1)) rfl) rfl <| RW.nil ?_
    exact And.intro rfl ⟨k7, ⟨v6 + 1, Hk4, hle5.trans (Hp.le.refl _), sl_canon ⟨rfl, rfl, rfl, trivial⟩, hM, (by rw [hrec8]; exact hm)⟩, Nat.lt_succ_self _⟩
  ·
   replace hm := And.right hm hc9
   refine CW.exit ?_
   refine CW.seq <| CW.region <| RW.st (Ex.assign (.bool true) rfl) rfl <| RW.nil <| CW.ret ?_
   refine end_tmp (.inl rfl) rfl (.bool true) rfl ?_
   exact ⟨_, _, hM, true, hm, rfl, rfl⟩
end Go.Proofs.YtahlanamngfkcaaDoor

namespace Go.Proofs.YtahlanamngfkcaaDoor
open Go.RowKit
theorem slices_IndexFunc_int_int__cycle_positions_1_lift {H : Hp} (x0 : List Int) {A1 : Option Addr} {n1 c1 : Nat} {s1 : List Value} (hF1 : Fz (α := Int) H A1 n1 c1 x0 s1) {Φ : Int → Prop} (hm : slices_IndexFunc_int_int__cycle_positions_1_W x0 Φ) : RetP Tryd.prog 157 #[.slice A1 n1 c1, .func (.func 141) #[] #[]] H (fun _ v L => ∃ y, Φ y ∧ v = .int .i64 (y) ∧ L = []) := by
 refine RetP.of_code Tryd.func157 rfl (Nat.le_of_ble_eq_true rfl) fun w0 hM => ?_
 refine CW.seq <| CW.region <| RW.st (Ex.assign (.int .i64 0) rfl) rfl <| RW.nil <| CW.seq <| CW.seq <| CW.region <| RW.st (Ex.move (.slice A1 n1 c1) rfl) rfl <| RW.st (Ex.lenN st40.1 rfl hF1.hn) rfl <| RW.st (Ex.move (.int .i64 0) rfl) rfl <| RW.nil <| CW.block ?_
 obtain ⟨m15, hm⟩ := hm
 skip
 refine CW.loop (β := Nat) (fun n σ w => ∃ (v4 : Int), ∃ Hk2, H.le Hk2 ∧ (∃ τ, σ = sl [(0, .slice A1 n1 c1), (1, .func (.func 141) #[] #[]), (7, .int .i64 ((x0.length : Int))), (8, .int .i64 v4)] τ) ∧ Mem w0 H w Hk2 [] ∧ LoopN (slices_IndexFunc_int_int__cycle_positions_1_L1 x0 Φ) n (v4)) (fun n => n) m15 ⟨0, H, (Hp.le.refl _), sl_canon ⟨rfl, rfl, rfl, rfl, trivial⟩, hM, hm⟩ ?_
 rintro k5 _ w ⟨v4, Hk2, hle3, ⟨τ, rfl⟩, hM, hm⟩
 obtain _ | k5 := k5
 · exact hm.elim
 replace hm : (slices_IndexFunc_int_int__cycle_positions_1_L1 x0 Φ) (v4) (LoopN (slices_IndexFunc_int_int__cycle_positions_1_L1 x0 Φ) k5) := hm
 generalize hrec6 : LoopN (slices_IndexFunc_int_int__cycle_positions_1_L1 x0 Φ) k5 = rec1 at hm
 refine CW.seq <| CW.region <| RW.st (Ex.lss rfl rfl) rfl <| RW.nil <| CW.seq ?_
 refine CW.cond_dec (p := v4 < (x0.length : Int)) rfl (fun hc7 => ?_) (fun hc7 => ?_)
 ·
  replace hm := And.left hm hc7
  refine CW.skip <| CW.seq <| CW.block <| CW.seq <| CW.region <| RW.st (Ex.move (.int .i64 v4) rfl) rfl <| RW.st (Ex.assign (.int .i64 v4) rfl) rfl <| RW.nil <| CW.seq <| CW.region <| RW.st (Ex.move (.func (.func 141) #[] #[]) rfl) rfl <| RW.st (Ex.move (.slice A1 n1 c1) rfl) rfl <| RW.st (Ex.move (.int .i64 v4) rfl) rfl ?_
  obtain ⟨hg8, hm⟩ := hm
  refine RW.st (Ex.index st40 rfl rfl v4.toNat (hF1.ne hg8) hg8.nat (hF1.lt hg8)) rfl ?_
  obtain ⟨_, rfl, hx9⟩ := DtL.getI (α := Int) (hF1.mono hle3).dat hg8
  refine RW.st (Ex.loadE hM hle3 hF1.rdc to3 rfl (hx9 0 _ rfl)) rfl ?_
  refine RW.callP hM (cycle_positions_1_lift (ix x0 v4) hm) en141 rfl rfl rfl rfl ?_; rintro _ w H11 _ hle12 ⟨v10, hm, rfl, rfl⟩ hM
  replace hM : Mem w0 H w H11 [] := hM
  refine RW.nil ?_
  refine CW.cond_b rfl (fun hc13 => ?_) (fun hc13 => ?_)
  ·
   replace hm := And.left hm hc13
   refine CW.seq <| CW.region <| RW.st (Ex.move (.int .i64 v4) rfl) rfl <| RW.st (Ex.assign (.int .i64 v4) rfl) rfl <| RW.nil <| CW.ret ?_
   refine blockQ_ret (thenQ_ret (thenQ_ret (blockQ_ret (thenQ_ret ?_))))
   refine end_tmp (.inl rfl) rfl (.int .i64 v4) rfl ?_
   exact ⟨_, _, hM, v4, hm, rfl, rfl⟩
  ·
   replace hm := And.right hm hc13
   refine CW.skip <| CW.region ?_
   obtain ⟨hg14, hm⟩ := hm
   refine RW.st (Ex.add rfl rfl hg14.1 hg14.2) rfl <| RW.st (Ex.move (.int .i64 (v4 + 1)) rfl) rfl <| RW.nil ?_
   exact And.intro rfl ⟨k5, ⟨v4 + 1, H11, hle3.trans hle12, sl_canon ⟨rfl, rfl, rfl, rfl, trivial⟩, hM, (by rw [hrec6]; exact hm)⟩, Nat.lt_succ_self _⟩
 ·
  replace hm := And.right hm hc7
  refine CW.exit ?_
  refine CW.seq <| CW.region <| RW.st (Ex.assign (.int .i64 ((-1))) rfl) rfl <| RW.nil <| CW.ret ?_
  refine end_tmp (.inl rfl) rfl (.int .i64 ((-1))) rfl ?_
  exact ⟨_, _, hM, (-1), hm, rfl, rfl⟩
theorem ref02_Get_lift {H : Hp} (x0 : api_Bitmap) (x1 : Int) {A1 : Option Addr} {n1 c1 : Nat} {s1 : List Value} (hF1 : Fz (α := BitVec 64) H A1 n1 c1 x0.Words s1) {Φ : Bool → Prop} (hm : ref02_Get_W x0 x1 Φ) : RetP Tryd.prog 27 #[.agg #[.int .i64 x0.Size, .slice A1 n1 c1], .int .i64 x1] H (fun _ v L => ∃ y, Φ y ∧ v = .bool y ∧ L = []) := by
 refine RetP.of_code Tryd.func27 rfl (Nat.le_of_ble_eq_true rfl) fun w0 hM => ?_
 refine CW.seq <| CW.region ?_
 refine RW.box hM (.agg #[.int .i64 x0.Size, .slice A1 n1 c1]) [.int .i64 x0.Size, .slice A1 n1 c1] rfl rfl rfl rfl ?_; intro b2 w hM
 replace hM : Mem w0 H w H [.box b2 65 [.int .i64 x0.Size, .slice A1 n1 c1]] := hM
 refine RW.st (Ex.assign (.bool false) rfl) rfl <| RW.nil <| CW.seq <| CW.region <| RW.st (Ex.loadA hM 0 [.int .i64 x0.Size, .slice A1 n1 c1] ta65 rfl rfl rfl rfl) rfl ?_
 refine RW.callP hM (ref02_Check_lift x0 hF1 hm) en67 rfl rfl rfl rfl ?_; rintro _ w H7 _ hle8 ⟨v6, hm, rfl, rfl⟩ hM
 replace hM : Mem w0 H w H7 [.box b2 65 [.int .i64 x0.Size, .slice A1 n1 c1]] := hM
 refine RW.st (Ex.eql rfl rfl) rfl <| RW.st (Ex.move (.bool (decide (v6 = 0))) rfl) rfl ?_
 refine RW.split 8 (p := v6 = 0) rfl (fun hc9 => ?_) (fun hc9 => ?_)
 ·
  replace hm := And.left hm hc9
  refine RW.st (Ex.move (.int .i64 x1) rfl) rfl <| RW.st (Ex.geq rfl rfl) rfl <| RW.st (Ex.pickT (.bool (decide (0 ≤ x1))) rfl rfl) rfl <| RW.st (Ex.move (.bool (decide (0 ≤ x1))) rfl) rfl ?_
  refine RW.split 12 (p := 0 ≤ x1) rfl (fun hc10 => ?_) (fun hc10 => ?_)
  ·
   replace hm := And.left hm hc10
   refine RW.st (Ex.move (.int .i64 x1) rfl) rfl <| RW.st (Ex.fieldAddr fa65_0 rfl) rfl <| RW.st (Ex.load1 hM 0 to3 rfl rfl rfl) rfl <| RW.st (Ex.lss rfl rfl) rfl <| RW.st (Ex.pickT (.bool (decide (x1 < x0.Size))) rfl rfl) rfl <| RW.st (Ex.move (.bool (decide (x1 < x0.Size))) rfl) rfl ?_
   refine RW.split 18 (p := x1 < x0.Size) rfl (fun hc11 => ?_) (fun hc11 => ?_)
   ·
    replace hm := And.left hm hc11
    refine RW.st (Ex.loadA hM 0 [.int .i64 x0.Size, .slice A1 n1 c1] ta65 rfl rfl rfl rfl) rfl <| RW.st (Ex.move (.int .i64 x1) rfl) rfl ?_
    refine RW.callP hM (ref02_bit_lift x0 x1 (hF1.mono hle8) hm) en68 rfl rfl rfl rfl ?_; rintro _ w H13 _ hle14 ⟨v12, hm, rfl, rfl⟩ hM
    replace hM : Mem w0 H w H13 [.box b2 65 [.int .i64 x0.Size, .slice A1 n1 c1]] := hM
    refine RW.st (Ex.pickT (.bool v12) rfl rfl) rfl <| RW.st (Ex.assign (.bool v12) rfl) rfl <| RW.nil <| CW.ret ?_
    refine end_tmp (.inl rfl) rfl (.bool v12) rfl ?_
    exact ⟨_, _, (hM.pick [] rfl rfl), v12, hm, rfl, rfl⟩
   ·
    replace hm := And.right hm hc11
    refine RW.pass rfl rfl <| RW.pass rfl rfl <| RW.pass rfl rfl <| RW.st (Ex.pickF (.bool false) rfl rfl) rfl <| RW.st (Ex.assign (.bool false) rfl) rfl <| RW.nil <| CW.ret ?_
    refine end_tmp (.inl rfl) rfl (.bool false) rfl ?_
    exact ⟨_, _, (hM.pick [] rfl rfl), false, hm, rfl, rfl⟩
  ·
   replace hm := And.right hm hc10
   refine RW.pass rfl rfl <| RW.pass rfl rfl <| RW.pass rfl rfl <| RW.pass rfl rfl <| RW.st (Ex.pickF (.bool false) rfl rfl) rfl <| RW.st (Ex.move (.bool false) rfl) rfl <| RW.pass rfl rfl <| RW.pass rfl rfl <| RW.pass rfl rfl <| RW.st (Ex.pickF (.bool false) rfl rfl) rfl <| RW.st (Ex.assign (.bool false) rfl) rfl <| RW.nil <| CW.ret ?_
   refine end_tmp (.inl rfl) rfl (.bool false) rfl ?_
   exact ⟨_, _, (hM.pick [] rfl rfl), false, hm, rfl, rfl⟩
 ·
  replace hm := And.right hm hc9
  refine RW.pass rfl rfl <| RW.pass rfl rfl <| RW.st (Ex.pickF (.bool false) rfl rfl) rfl <| RW.st (Ex.move (.bool false) rfl) rfl <| RW.pass rfl rfl <| RW.pass rfl rfl <| RW.pass rfl rfl <| RW.pass rfl rfl <| RW.st (Ex.pickF (.bool false) rfl rfl) rfl <| RW.st (Ex.move (.bool false) rfl) rfl <| RW.pass rfl rfl <| RW.pass rfl rfl <| RW.pass rfl rfl <| RW.st (Ex.pickF (.bool false) rfl rfl) rfl ?_
  refine RW.st (Ex.assign (.bool false) rfl) rfl <| RW.nil <| CW.ret ?_
  refine end_tmp (.inl rfl) rfl (.bool false) rfl ?_
  exact ⟨_, _, (hM.pick [] rfl rfl), false, hm, rfl, rfl⟩
theorem law47_image_lift {H : Hp} (x0 : BitVec 8) {Φ : List (List Sec) → Prop} (hm : law47_image_W x0 Φ) : RetP Tryd.prog 22 #[u8 (x0)] H (fun H' v L => ∃ y, Φ y ∧ ∃ A14, ∃ n14, ∃ c14, ∃ s14, v = .slice A14 n14 c14 ∧ DtL (α := List Sec) H' s14 y ∧ n14 = y.length ∧ L = [.row (.slice A14 n14 c14) 61 1 n14 s14]) := by
 refine RetP.of_code Tryd.func22 rfl (Nat.le_of_ble_eq_true rfl) fun w0 hM => ?_
 refine CW.seq <| CW.region <| RW.st (Ex.assign (.slice none 0 0) rfl) rfl <| RW.nil <| CW.seq <| CW.region <| RW.st (Ex.move (u8 (x0)) rfl) rfl <| RW.st (Ex.conv8I (a := x0) Tryd.underlying5 Tryd.underlying3 rfl) rfl ?_
 obtain ⟨hg1, hm⟩ := hm
 refine RW.st (Ex.rem rfl rfl hg1 (by decide)) rfl ?_
 obtain ⟨hg2, hm⟩ := hm
 refine RW.st (Ex.add rfl rfl hg2.1 hg2.2) rfl ?_
 refine RW.buildSlice hM st40 tz3 [(0, .int .i64 (1 + ((x0.toNat : Int) % 12))), (1, .int .i64 4)] [.int .i64 (1 + ((x0.toNat : Int) % 12)), .int .i64 4] (by decide) rfl rfl rfl (by decide) rfl rfl ?_; intro b3 w hM
 have hd4 : DtL H [.int .i64 (1 + ((x0.toNat : Int) % 12)), .int .i64 4] ([1 + ((x0.toNat : Int) % 12), 4] : List Int) := (DtL.cons (c1 := [.int .i64 (1 + ((x0.toNat : Int) % 12))]) rfl (DtL.cons (c1 := [.int .i64 4]) rfl DtL.nil))
 replace hM : Mem w0 H w H [.row (.slice (some ⟨b3, 0, none⟩) 2 2) 3 1 2 [.int .i64 (1 + ((x0.toNat : Int) % 12)), .int .i64 4]] := hM
 obtain ⟨H5, hM, hle6, hF7⟩ := hM.giveF (α := Int) 0 rfl hd4 rfl
 replace hM : Mem w0 H w H5 [] := hM
 refine RW.callP hM (ref07_New_lift ([1 + ((x0.toNat : Int) % 12), 4] : List Int) hF7 hm) en61 rfl rfl rfl rfl ?_; rintro _ w H9 _ hle10 ⟨v8, hm, A11, n11, c11, s11, rfl, hd12, hn13, rfl⟩ hM
 replace hM : Mem w0 H w H9 [.row (.slice A11 n11 c11) 61 1 n11 s11] := hM
 refine RW.st (Ex.move (.tuple #[.slice A11 n11 c11, .int .i64 v8.2]) rfl) rfl <| RW.st (Ex.extract rfl rfl) rfl <| RW.st (Ex.extract rfl rfl) rfl <| RW.st (Ex.assign (.slice A11 n11 c11) rfl) rfl <| RW.st (Ex.assign (.int .i64 v8.2) rfl) rfl <| RW.nil <| CW.seq <| CW.region <| RW.st (Ex.move (.slice A11 n11 c11) rfl) rfl <| RW.st (Ex.assign (.slice A11 n11 c11) rfl) rfl <| RW.nil <| CW.ret ?_
 refine end_tmp (.inl rfl) rfl (.slice A11 n11 c11) rfl ?_
 exact ⟨_, _, hM, v8.1, hm, A11, n11, c11, s11, rfl, hd12, hn13, rfl⟩
theorem image_copied_lift {H : Hp} (x0 : List (List Sec)) {A1 : Option Addr} {n1 c1 : Nat} {s1 : List Value} (hF1 : Fz (α := List Sec) H A1 n1 c1 x0 s1) {Φ : List (List Sec) → Prop} (hm : image_copied_W x0 Φ) : RetP Tryd.prog 112 #[.slice A1 n1 c1] H (fun H' v L => ∃ y, Φ y ∧ ∃ A9, ∃ n9, ∃ c9, ∃ s9, ∃ rs10, v = .slice A9 n9 c9 ∧ DeepL (α := List Sec) [71] H' s9 y rs10 ∧ n9 = y.length ∧ L = .row (.slice A9 n9 c9) 61 1 n9 s9 :: rs10) := by
 refine RetP.of_code Tryd.func112 rfl (Nat.le_of_ble_eq_true rfl) fun w0 hM => ?_
 refine CW.seq <| CW.region <| RW.st (Ex.assign (.slice none 0 0) rfl) rfl <| RW.nil <| CW.seq <| CW.region <| RW.st (Ex.move (.slice A1 n1 c1) rfl) rfl ?_
 refine RW.callP hM (image_mapped_api_Sector_api_Sector__slices_Clone_api_Sector_api_Sector_lift x0 hF1 hm) en148 rfl rfl rfl rfl ?_; rintro _ w H3 _ hle4 ⟨v2, hm, A5, n5, c5, s5, rs6, rfl, hd7, hn8, rfl⟩ hM
 replace hM := Mem.toTail (a := [.row (.slice A5 n5 c5) 61 1 n5 s5]) (b := rs6) (c := []) hM
 replace hM : Mem w0 H w H3 (.row (.slice A5 n5 c5) 61 1 n5 s5 :: rs6) := hM
 refine RW.st (Ex.assign (.slice A5 n5 c5) rfl) rfl <| RW.nil <| CW.ret ?_
 refine end_tmp (.inl rfl) rfl (.slice A5 n5 c5) rfl ?_
 exact ⟨_, _, hM, v2, hm, A5, n5, c5, s5, rs6, rfl, hd7, hn8, rfl⟩
end Go.Proofs.YtahlanamngfkcaaDoor
