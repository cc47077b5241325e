/- Part 5 of the proof of the statement ReverseSettlesCardSaid: lemmas. No condition of its own. -/
import Derived.Test.YtahlanamngfkcaaDoorM4
namespace Go.Proofs.YtahlanamngfkcaaDoor
open Go.RowKit
theorem law47_point_lift {H : Hp} (x0 : Int) (x1 : List (List Sec)) (x2 : List api_Span) (x3 : List api_Write) {A1 : Option Addr} {n1 c1 : Nat} {s1 : List Value} (hF1 : Fz (α := List Sec) H A1 n1 c1 x1 s1) {A2 : Option Addr} {n2 c2 : Nat} {s2 : List Value} (hF2 : Fz (α := api_Span) H A2 n2 c2 x2 s2) {A3 : Option Addr} {n3 c3 : Nat} {s3 : List Value} (hF3 : Fz (α := api_Write) H A3 n3 c3 x3 s3) {Φ : api_Point → Prop} (hm : law47_point_W x0 x1 x2 x3 Φ) : RetP Tryd.prog 38 #[.int .i64 x0, .slice A1 n1 c1, .slice A2 n2 c2, .slice A3 n3 c3] H (fun H' v L => ∃ y, Φ y ∧ ∃ A42, ∃ n42, ∃ c42, ∃ s42, ∃ A43, ∃ n43, ∃ c43, ∃ s43, ∃ A44, ∃ n44, ∃ c44, ∃ s44, v = .agg #[.int .i64 (y.Site), .slice A42 n42 c42, .slice A43 n43 c43, .slice A44 n44 c44] ∧ Fz (α := api_Span) H' A42 n42 c42 y.Lineage s42 ∧ DtL (α := api_Bitmap) H' s43 y.Dirty ∧ n43 = y.Dirty.length ∧ Fz (α := List Sec) H' A44 n44 c44 y.Image s44 ∧ L = [.row (.slice A43 n43 c43) 65 2 n43 s43]) := by
 refine RetP.of_code Tryd.func38 rfl (Nat.le_of_ble_eq_true rfl) fun w0 hM => ?_
 refine CW.seq <| CW.region ?_
 refine RW.alloc hM tz27 [.int .i64 0, .slice none 0 0, .slice none 0 0, .slice none 0 0] rfl rfl rfl ?_; intro b4 w hM
 replace hM : Mem w0 H w H [.box b4 27 [.int .i64 0, .slice none 0 0, .slice none 0 0, .slice none 0 0]] := hM
 refine RW.nil <| CW.seq <| CW.region <| RW.st (Ex.move (.slice A1 n1 c1) rfl) rfl <| RW.st (Ex.move (.slice A3 n3 c3) rfl) rfl ?_
 refine RW.callP hM (ref07_Apply_lift x1 x3 hF1 hF3 hm) en89 rfl rfl rfl rfl ?_; rintro _ w H6 _ hle7 ⟨v5, hm, A8, n8, c8, s8, rs9, rfl, hd10, hn11, rfl⟩ hM
 replace hM := Mem.toTail (a := [.row (.slice A8 n8 c8) 61 1 n8 s8]) (b := rs9) (c := [.box b4 27 [.int .i64 0, .slice none 0 0, .slice none 0 0, .slice none 0 0]]) hM
 replace hM : Mem w0 H w H6 (.row (.slice A8 n8 c8) 61 1 n8 s8 :: .box b4 27 [.int .i64 0, .slice none 0 0, .slice none 0 0, .slice none 0 0] :: rs9) := hM
 refine RW.st (Ex.move (.tuple #[.slice A8 n8 c8, .int .i64 v5.2.1, .int .i64 v5.2.2]) rfl) rfl <| RW.st (Ex.extract rfl rfl) rfl <| RW.st (Ex.extract rfl rfl) rfl <| RW.st (Ex.extract rfl rfl) rfl <| RW.st (Ex.assign (.slice A8 n8 c8) rfl) rfl <| RW.st (Ex.assign (.int .i64 v5.2.1) rfl) rfl <| RW.st (Ex.assign (.int .i64 v5.2.2) rfl) rfl <| RW.nil <| CW.seq <| CW.region <| RW.st (Ex.move (.int .i64 x0) rfl) rfl <| RW.st (Ex.move (.slice A2 n2 c2) rfl) rfl <| RW.st (Ex.move (.slice A1 n1 c1) rfl) rfl ?_
 refine RW.callP hM (ref07_SizesOf_lift x1 (hF1.mono hle7) hm) en57 rfl rfl rfl rfl ?_; rintro _ w H13 _ hle14 ⟨v12, hm, A15, n15, c15, s15, rfl, hd16, hn17, rfl⟩ hM
 replace hM : Mem w0 H w H13 (.row (.slice A15 n15 c15) 3 1 n15 s15 :: .row (.slice A8 n8 c8) 61 1 n8 s8 :: .box b4 27 [.int .i64 0, .slice none 0 0, .slice none 0 0, .slice none 0 0] :: rs9) := hM
 obtain ⟨H18, hM, hle19, hF20⟩ := hM.giveF (α := Int) 0 rfl hd16 hn17
 replace hM : Mem w0 H w H18 (.row (.slice A8 n8 c8) 61 1 n8 s8 :: .box b4 27 [.int .i64 0, .slice none 0 0, .slice none 0 0, .slice none 0 0] :: rs9) := hM
 refine RW.callP hM (ref43_Clean_lift v12 hF20 hm) en91 rfl rfl rfl rfl ?_; rintro _ w H22 _ hle23 ⟨v21, hm, A24, n24, c24, s24, rfl, hd25, hn26, rfl⟩ hM
 replace hM : Mem w0 H w H22 (.row (.slice A24 n24 c24) 65 2 n24 s24 :: .row (.slice A8 n8 c8) 61 1 n8 s8 :: .box b4 27 [.int .i64 0, .slice none 0 0, .slice none 0 0, .slice none 0 0] :: rs9) := hM
 refine RW.st (Ex.move (.slice A3 n3 c3) rfl) rfl ?_
 obtain ⟨H27, hM, hle28, hF29⟩ := hM.giveF (α := api_Bitmap) 0 rfl hd25 hn26
 replace hM : Mem w0 H w H27 (.row (.slice A8 n8 c8) 61 1 n8 s8 :: .box b4 27 [.int .i64 0, .slice none 0 0, .slice none 0 0, .slice none 0 0] :: rs9) := hM
 refine RW.callP hM (ref43_Mark_lift v21 x3 hF29 (hF3.mono ((((hle7.trans hle14).trans hle19).trans hle23).trans hle28)) hm) en90 rfl rfl rfl rfl ?_; rintro _ w H31 _ hle32 ⟨v30, hm, A33, n33, c33, s33, rfl, hd34, hn35, rfl⟩ hM
 replace hM : Mem w0 H w H31 (.row (.slice A33 n33 c33) 65 2 n33 s33 :: .row (.slice A8 n8 c8) 61 1 n8 s8 :: .box b4 27 [.int .i64 0, .slice none 0 0, .slice none 0 0, .slice none 0 0] :: rs9) := hM
 refine RW.st (Ex.move (.slice A8 n8 c8) rfl) rfl <| RW.st (Ex.build bs27 [(0, .int .i64 x0), (1, .slice A2 n2 c2), (2, .slice A33 n33 c33), (3, .slice A8 n8 c8)] [.int .i64 x0, .slice A2 n2 c2, .slice A33 n33 c33, .slice A8 n8 c8] rfl rfl) rfl ?_
 refine RW.store hM 2 (.agg #[.int .i64 x0, .slice A2 n2 c2, .slice A33 n33 c33, .slice A8 n8 c8]) [.int .i64 x0, .slice A2 n2 c2, .slice A33 n33 c33, .slice A8 n8 c8] [.int .i64 x0, .slice A2 n2 c2, .slice A33 n33 c33, .slice A8 n8 c8] sz27 rfl rfl rfl (oneAll ⟨rfl, rfl, rfl, rfl, trivial⟩) rfl (Nat.le_of_ble_eq_true rfl) rfl (.row (.slice A33 n33 c33) 65 2 n33 s33 :: .row (.slice A8 n8 c8) 61 1 n8 s8 :: .box b4 27 [.int .i64 x0, .slice A2 n2 c2, .slice A33 n33 c33, .slice A8 n8 c8] :: rs9) rfl rfl rfl ?_; intro w hM
 refine RW.nil <| CW.ret ?_
 obtain ⟨H36, hM, hle37, hd38⟩ := DeepL.flat (es := [.row (.slice A33 n33 c33) 65 2 n33 s33, .row (.slice A8 n8 c8) 61 1 n8 s8, .box b4 27 [.int .i64 x0, .slice A2 n2 c2, .slice A33 n33 c33, .slice A8 n8 c8]]) hM (hd10.mono ((((hle14.trans hle19).trans hle23).trans hle28).trans hle32))
 replace hM : Mem w0 H w H36 [.row (.slice A33 n33 c33) 65 2 n33 s33, .row (.slice A8 n8 c8) 61 1 n8 s8, .box b4 27 [.int .i64 x0, .slice A2 n2 c2, .slice A33 n33 c33, .slice A8 n8 c8]] := hM
 obtain ⟨H39, hM, hle40, hF41⟩ := hM.giveF (α := List Sec) 1 rfl hd38 hn11
 replace hM : Mem w0 H w H39 [.row (.slice A33 n33 c33) 65 2 n33 s33, .box b4 27 [.int .i64 x0, .slice A2 n2 c2, .slice A33 n33 c33, .slice A8 n8 c8]] := hM
 refine end_cell (k := 1) (.inl rfl) rfl hM rfl ta27 [.int .i64 x0, .slice A2 n2 c2, .slice A33 n33 c33, .slice A8 n8 c8] rfl rfl ?_
 exact ⟨_, _, (hM.pick [0] rfl rfl), (api_Point.mk x0 x2 v30 v5.1), hm, A2, n2, c2, s2, A33, n33, c33, s33, A8, n8, c8, s8, rfl, (hF2.mono (((((((hle7.trans hle14).trans hle19).trans hle23).trans hle28).trans hle32).trans hle37).trans hle40)), (hd34.mono (hle37.trans hle40)), hn35, hF41, rfl⟩
theorem delta_Check_lift {H : Hp} (x0 : api_Point) {A1 : Option Addr} {n1 c1 : Nat} {s1 : List Value} (hF1 : Fz (α := api_Span) H A1 n1 c1 x0.Lineage s1) {A2 : Option Addr} {n2 c2 : Nat} {s2 : List Value} (hF2 : Fz (α := api_Bitmap) H A2 n2 c2 x0.Dirty s2) {A3 : Option Addr} {n3 c3 : Nat} {s3 : List Value} (hF3 : Fz (α := List Sec) H A3 n3 c3 x0.Image s3) {Φ : Int → Prop} (hm : delta_Check_W x0 Φ) : RetP Tryd.prog 40 #[.agg #[.int .i64 x0.Site, .slice A1 n1 c1, .slice A2 n2 c2, .slice A3 n3 c3]] H (fun _ v L => ∃ y, Φ y ∧ v = .int .i64 (y) ∧ L = []) := by
 refine RetP.of_code Tryd.func40 rfl (Nat.le_of_ble_eq_true rfl) fun w0 hM => ?_
 refine CW.seq <| CW.region ?_
 refine RW.box hM (.agg #[.int .i64 x0.Site, .slice A1 n1 c1, .slice A2 n2 c2, .slice A3 n3 c3]) [.int .i64 x0.Site, .slice A1 n1 c1, .slice A2 n2 c2, .slice A3 n3 c3] rfl rfl rfl rfl ?_; intro b4 w hM
 replace hM : Mem w0 H w H [.box b4 27 [.int .i64 x0.Site, .slice A1 n1 c1, .slice A2 n2 c2, .slice A3 n3 c3]] := hM
 refine RW.st (Ex.assign (.int .i64 0) rfl) rfl <| RW.nil <| CW.seq <| CW.block <| CW.seq <| CW.region <| RW.st (Ex.fieldAddr fa27_0 rfl) rfl <| RW.st (Ex.load1 hM 0 to3 rfl rfl rfl) rfl ?_
 refine RW.callP hM (delta_in_lift x0.Site 0 hm) en92 rfl rfl rfl rfl ?_; rintro _ w H6 _ hle7 ⟨v5, hm, rfl, rfl⟩ hM
 replace hM : Mem w0 H w H6 [.box b4 27 [.int .i64 x0.Site, .slice A1 n1 c1, .slice A2 n2 c2, .slice A3 n3 c3]] := hM
 refine RW.st (Ex.not (p := v5 = true) (bvar _)) rfl <| RW.st (Ex.assign (.bool (decide (¬ (v5 = true)))) rfl) rfl <| RW.nil ?_
 refine CW.cond_dec (p := ¬ (v5 = true)) rfl (fun hc8 => ?_) (fun hc8 => ?_)
 ·
  replace hm := And.left hm hc8
  refine CW.seq <| CW.region <| RW.st (Ex.assign (.int .i64 2) rfl) rfl <| RW.nil <| CW.ret ?_
  refine blockQ_ret (thenQ_ret ?_)
  refine end_tmp (.inl rfl) rfl (.int .i64 2) rfl ?_
  exact ⟨_, _, (hM.pick [] rfl rfl), 2, hm, rfl, rfl⟩
 ·
  replace hm := And.right hm hc8
  refine CW.seq <| CW.region <| RW.st (Ex.fieldAddr fa27_1 rfl) rfl <| RW.st (Ex.load1 hM 0 to22 rfl rfl rfl) rfl ?_
  refine RW.callP hM (delta_correct_lift x0.Lineage (hF1.mono hle7) hm) en93 rfl rfl rfl rfl ?_; rintro _ w H10 _ hle11 ⟨v9, hm, rfl, rfl⟩ hM
  replace hM : Mem w0 H w H10 [.box b4 27 [.int .i64 x0.Site, .slice A1 n1 c1, .slice A2 n2 c2, .slice A3 n3 c3]] := hM
  refine RW.st (Ex.not (p := v9 = true) (bvar _)) rfl <| RW.st (Ex.assign (.bool (decide (¬ (v9 = true)))) rfl) rfl <| RW.nil ?_
  refine CW.cond_dec (p := ¬ (v9 = true)) rfl (fun hc12 => ?_) (fun hc12 => ?_)
  ·
   replace hm := And.left hm hc12
   refine CW.seq <| CW.region <| RW.st (Ex.assign (.int .i64 3) rfl) rfl <| RW.nil <| CW.ret ?_
   refine blockQ_ret (thenQ_ret ?_)
   refine end_tmp (.inl rfl) rfl (.int .i64 3) rfl ?_
   exact ⟨_, _, (hM.pick [] rfl rfl), 3, hm, rfl, rfl⟩
  ·
   replace hm := And.right hm hc12
   refine CW.skip <| CW.seq <| CW.seq <| CW.region <| RW.st (Ex.fieldAddr fa27_3 rfl) rfl <| RW.st (Ex.load1 hM 0 to25 rfl rfl rfl) rfl ?_
   refine RW.callP hM (image_Check_lift x0.Image (hF3.mono (hle7.trans hle11)) hm) en62 rfl rfl rfl rfl ?_; rintro _ w H14 _ hle15 ⟨v13, hm, rfl, rfl⟩ hM
   replace hM : Mem w0 H w H14 [.box b4 27 [.int .i64 x0.Site, .slice A1 n1 c1, .slice A2 n2 c2, .slice A3 n3 c3]] := hM
   refine RW.st (Ex.assign (.int .i64 v13) rfl) rfl <| RW.nil <| CW.seq <| CW.region <| RW.st (Ex.move (.int .i64 v13) rfl) rfl <| RW.st (Ex.neq rfl rfl) rfl <| RW.nil ?_
   refine CW.cond_dec (p := v13 ≠ 0) rfl (fun hc16 => ?_) (fun hc16 => ?_)
   ·
    replace hm := And.left hm hc16
    refine CW.seq <| CW.region <| RW.st (Ex.move (.int .i64 v13) rfl) rfl <| RW.st (Ex.assign (.int .i64 v13) rfl) rfl <| RW.nil <| CW.ret ?_
    refine thenQ_ret ?_
    refine end_tmp (.inl rfl) rfl (.int .i64 v13) rfl ?_
    exact ⟨_, _, (hM.pick [] rfl rfl), v13, hm, rfl, rfl⟩
   ·
    replace hm := And.right hm hc16
    refine CW.skip <| CW.seq <| CW.seq <| CW.region <| RW.st (Ex.fieldAddr fa27_2 rfl) rfl <| RW.st (Ex.load1 hM 0 to23 rfl rfl rfl) rfl <| RW.st (Ex.lenN st23.1 rfl hF2.hn) rfl <| RW.st (Ex.fieldAddr fa27_3 rfl) rfl <| RW.st (Ex.load1 hM 0 to25 rfl rfl rfl) rfl <| RW.st (Ex.lenN st25.1 rfl hF3.hn) rfl <| RW.st (Ex.neq rfl rfl) rfl <| RW.nil ?_
    refine CW.cond_dec (p := (x0.Dirty.length : Int) ≠ (x0.Image.length : Int)) rfl (fun hc17 => ?_) (fun hc17 => ?_)
    ·
     replace hm := And.left hm hc17
     refine CW.seq <| CW.region <| RW.st (Ex.assign (.int .i64 6) rfl) rfl <| RW.nil <| CW.ret ?_
     refine thenQ_ret ?_
     refine end_tmp (.inl rfl) rfl (.int .i64 6) rfl ?_
     exact ⟨_, _, (hM.pick [] rfl rfl), 6, hm, rfl, rfl⟩
    ·
     replace hm := And.right hm hc17
     refine CW.skip <| CW.seq <| CW.seq <| CW.region <| RW.st (Ex.fieldAddr fa27_2 rfl) rfl <| RW.st (Ex.load1 hM 0 to23 rfl rfl rfl) rfl <| RW.st (Ex.lenN st23.1 rfl hF2.hn) rfl <| RW.st (Ex.move (.int .i64 0) rfl) rfl <| RW.nil <| CW.block ?_
     obtain ⟨m37, hm⟩ := hm
     skip
     refine CW.loop (β := Nat) (fun n σ w => ∃ (v20 : Int), ∃ Hk18, H14.le Hk18 ∧ (∃ τ, σ = sl [(1, .pointer (some ⟨b4, 0, none⟩)), (31, .slice A2 n2 c2), (32, .int .i64 ((x0.Dirty.length : Int))), (33, .int .i64 v20)] τ) ∧ Mem w0 H w Hk18 [.box b4 27 [.int .i64 x0.Site, .slice A1 n1 c1, .slice A2 n2 c2, .slice A3 n3 c3]] ∧ LoopN (delta_Check_L1 x0 Φ) n (v20)) (fun n => n) m37 ⟨0, H14, (Hp.le.refl _), sl_canon ⟨rfl, rfl, rfl, rfl, trivial⟩, hM, hm⟩ ?_
     rintro k21 _ w ⟨v20, Hk18, hle19, ⟨τ, rfl⟩, hM, hm⟩
     obtain _ | k21 := k21
     · exact hm.elim
     replace hm : (delta_Check_L1 x0 Φ) (v20) (LoopN (delta_Check_L1 x0 Φ) k21) := hm
     generalize hrec22 : LoopN (delta_Check_L1 x0 Φ) k21 = rec1 at hm
     refine CW.seq <| CW.region <| RW.st (Ex.lss rfl rfl) rfl <| RW.nil <| CW.seq ?_
     refine CW.cond_dec (p := v20 < (x0.Dirty.length : Int)) rfl (fun hc23 => ?_) (fun hc23 => ?_)
     ·
      replace hm := And.left hm hc23
      refine CW.skip <| CW.seq <| CW.block <| CW.seq <| CW.region <| RW.st (Ex.move (.int .i64 v20) rfl) rfl ?_
      obtain ⟨hg24, hm⟩ := hm
      refine RW.st (Ex.index st23 rfl rfl v20.toNat (hF2.ne hg24) hg24.nat (hF2.lt hg24)) rfl ?_
      obtain ⟨_, ⟨A25, n25, c25, s25, rfl, hF25⟩, hx26⟩ := DtL.getI (α := api_Bitmap) (hF2.mono (((hle7.trans hle11).trans hle15).trans hle19)).dat hg24
      refine RW.st (Ex.loadEA hM (((hle7.trans hle11).trans hle15).trans hle19) hF2.rdc [.int .i64 ((ix x0.Dirty v20).Size), .slice A25 n25 c25] ta65 rfl (hF2.ne hg24) rfl (chunk_sub (off := 0) (n := 2) hx26 rfl)) rfl ?_
      refine RW.alloc hM tz65 [.int .i64 0, .slice none 0 0] rfl rfl rfl ?_; intro b27 w hM
      replace hM : Mem w0 H w Hk18 [.box b27 65 [.int .i64 0, .slice none 0 0], .box b4 27 [.int .i64 x0.Site, .slice A1 n1 c1, .slice A2 n2 c2, .slice A3 n3 c3]] := hM
      refine RW.st (Ex.assign (.int .i64 v20) rfl) rfl ?_
      refine RW.store hM 0 (.agg #[.int .i64 ((ix x0.Dirty v20).Size), .slice A25 n25 c25]) [.int .i64 ((ix x0.Dirty v20).Size), .slice A25 n25 c25] [.int .i64 ((ix x0.Dirty v20).Size), .slice A25 n25 c25] sz65 rfl rfl rfl (oneAll ⟨rfl, rfl, trivial⟩) rfl (Nat.le_of_ble_eq_true rfl) rfl [.box b27 65 [.int .i64 ((ix x0.Dirty v20).Size), .slice A25 n25 c25], .box b4 27 [.int .i64 x0.Site, .slice A1 n1 c1, .slice A2 n2 c2, .slice A3 n3 c3]] rfl rfl rfl ?_; intro w hM
      refine RW.nil <| CW.seq <| CW.seq <| CW.region <| RW.st (Ex.loadA hM 0 [.int .i64 ((ix x0.Dirty v20).Size), .slice A25 n25 c25] ta65 rfl rfl rfl rfl) rfl ?_
      refine RW.callP hM (bitmap_Check_lift (ix x0.Dirty v20) hF25 hm) en94 rfl rfl rfl rfl ?_; rintro _ w H29 _ hle30 ⟨v28, hm, rfl, rfl⟩ hM
      replace hM : Mem w0 H w H29 [.box b27 65 [.int .i64 ((ix x0.Dirty v20).Size), .slice A25 n25 c25], .box b4 27 [.int .i64 x0.Site, .slice A1 n1 c1, .slice A2 n2 c2, .slice A3 n3 c3]] := hM
      refine RW.st (Ex.assign (.int .i64 v28) rfl) rfl <| RW.nil <| CW.seq <| CW.region <| RW.st (Ex.move (.int .i64 v28) rfl) rfl <| RW.st (Ex.neq rfl rfl) rfl <| RW.nil ?_
      refine CW.cond_dec (p := v28 ≠ 0) rfl (fun hc31 => ?_) (fun hc31 => ?_)
      ·
       replace hm := And.left hm hc31
       refine CW.seq <| CW.region <| RW.st (Ex.move (.int .i64 v28) rfl) rfl <| RW.st (Ex.assign (.int .i64 v28) rfl) rfl <| RW.nil <| CW.ret ?_
       refine thenQ_ret (blockQ_ret (thenQ_ret (thenQ_ret (blockQ_ret (thenQ_ret ?_)))))
       refine end_tmp (.inl rfl) rfl (.int .i64 v28) rfl ?_
       exact ⟨_, _, (hM.pick [] rfl rfl), v28, hm, rfl, rfl⟩
      ·
       replace hm := And.right hm hc31
       refine CW.skip <| CW.seq ?_
       obtain ⟨hg32, hm⟩ := hm
       obtain ⟨_, ⟨A33, n33, c33, s33, rfl, hF33⟩, hx34⟩ := DtL.getI (α := List Sec) (hF3.mono ((((hle7.trans hle11).trans hle15).trans hle19).trans hle30)).dat hg32
       refine CW.drawE 9 [.pointer (some ⟨b27, 0, none⟩), .int .i64 ((ix x0.Dirty v20).Size), .pointer (some ⟨b4, 3, none⟩), .slice A3 n3 c3, .int .i64 v20, elp A3 (v20.toNat * 1 + 0), .slice A33 n33 c33, .int .i64 (((ix x0.Image v20).length : Int)), .bool (decide (((ix x0.Dirty v20).Size) ≠ ((ix x0.Image v20).length : Int)))]
        [[(5, none)], [(43, some 0)], [(1, none)], [(45, some 2)], [(4, none)], [(46, some 3), (47, some 4)], [(48, some 5)], [(49, some 6)], [(44, some 1), (50, some 7)]] [(1, none), (31, none), (32, none), (33, none), (51, some 8)] (by kernel_rfl) hM (by kernel_rfl) ⟨?_, ?_, ?_, ?_, ?_, ?_, ?_, ?_, ?_, trivial⟩ ?_
       · exact One.ex (fun H' τ w hled hM => Ex.fieldAddr fa65_0 rfl) rfl (fun _ => rfl) rfl
       · exact One.ex (fun H' τ w hled hM => Ex.load1 hM 0 to3 rfl rfl rfl) rfl (fun _ => rfl) rfl
       · exact One.ex (fun H' τ w hled hM => Ex.fieldAddr fa27_3 rfl) rfl (fun _ => rfl) rfl
       · exact One.ex (fun H' τ w hled hM => Ex.load1 hM 1 to25 rfl rfl rfl) rfl (fun _ => rfl) rfl
       · exact One.ex (fun H' τ w hled hM => Ex.move (.int .i64 v20) rfl) rfl (fun _ => rfl) rfl
       · exact One.ex (fun H' τ w hled hM => Ex.index st25 rfl rfl v20.toNat (hF3.ne hg32) hg32.nat (hF3.lt hg32)) rfl (fun _ => rfl) rfl
       · exact One.ex (fun H' τ w hled hM => Ex.loadE hM (((((hle7.trans hle11).trans hle15).trans hle19).trans hle30).trans hled) hF3.rdc to61 rfl (hx34 0 _ rfl)) rfl (fun _ => rfl) rfl
       · exact One.ex (fun H' τ w hled hM => Ex.lenN st61.1 rfl hF33.hn) rfl (fun _ => rfl) rfl
       · exact One.ex (fun H' τ w hled hM => Ex.neq rfl rfl) rfl (fun _ => rfl) rfl
       intro τ w hM
       change RW _ _ _ _ _ _ _ _ (sl [(1, .pointer (some ⟨b4, 0, none⟩)), (31, .slice A2 n2 c2), (32, .int .i64 ((x0.Dirty.length : Int))), (33, .int .i64 v20), (51, .bool (decide (((ix x0.Dirty v20).Size) ≠ ((ix x0.Image v20).length : Int))))] τ) _
       refine RW.nil ?_
       refine CW.cond_dec (p := ((ix x0.Dirty v20).Size) ≠ ((ix x0.Image v20).length : Int)) rfl (fun hc35 => ?_) (fun hc35 => ?_)
       ·
        replace hm := And.left hm hc35
        refine CW.seq <| CW.region <| RW.st (Ex.assign (.int .i64 22) rfl) rfl <| RW.nil <| CW.ret ?_
        refine blockQ_ret (thenQ_ret (thenQ_ret (blockQ_ret (thenQ_ret ?_))))
        refine end_tmp (.inl rfl) rfl (.int .i64 22) rfl ?_
        exact ⟨_, _, (hM.pick [] rfl rfl), 22, hm, rfl, rfl⟩
       ·
        replace hm := And.right hm hc35
        refine CW.skip <| CW.region ?_
        obtain ⟨hg36, hm⟩ := hm
        refine RW.st (Ex.add rfl rfl hg36.1 hg36.2) rfl <| RW.st (Ex.move (.int .i64 (v20 + 1)) rfl) rfl <| RW.nil ?_
        exact And.intro rfl ⟨k21, ⟨v20 + 1, H29, hle19.trans hle30, sl_canon ⟨rfl, rfl, rfl, rfl, trivial⟩, (hM.pick [1] rfl rfl), (by rw [hrec22]; exact hm)⟩, Nat.lt_succ_self _⟩
     ·
      replace hm := And.right hm hc23
      refine CW.exit ?_
      refine CW.seq <| CW.region <| RW.st (Ex.assign (.int .i64 0) rfl) rfl <| RW.nil <| CW.ret ?_
      refine end_tmp (.inl rfl) rfl (.int .i64 0) rfl ?_
      exact ⟨_, _, (hM.pick [] rfl rfl), 0, hm, rfl, rfl⟩
theorem image_Fits_lift {H : Hp} (x0 : List (List Sec)) (x1 : api_Write) {A1 : Option Addr} {n1 c1 : Nat} {s1 : List Value} (hF1 : Fz (α := List Sec) H A1 n1 c1 x0 s1) {A2 : Option Addr} {n2 c2 : Nat} {s2 : List Value} (hF2 : Fz (α := Sec) H A2 n2 c2 x1.Data s2) {Φ : Int → Prop} (hm : image_Fits_W x0 x1 Φ) : RetP Tryd.prog 144 #[.slice A1 n1 c1, .agg #[.int .i64 x1.Volume, .int .i64 x1.Start, .slice A2 n2 c2]] H (fun _ v L => ∃ y, Φ y ∧ v = .int .i64 (y) ∧ L = []) := by
 refine RetP.of_code Tryd.func144 rfl (Nat.le_of_ble_eq_true rfl) fun w0 hM => ?_
 refine CW.seq <| CW.region ?_
 refine RW.box hM (.agg #[.int .i64 x1.Volume, .int .i64 x1.Start, .slice A2 n2 c2]) [.int .i64 x1.Volume, .int .i64 x1.Start, .slice A2 n2 c2] rfl rfl rfl rfl ?_; intro b3 w hM
 replace hM : Mem w0 H w H [.box b3 100 [.int .i64 x1.Volume, .int .i64 x1.Start, .slice A2 n2 c2]] := hM
 refine RW.st (Ex.assign (.int .i64 0) rfl) rfl <| RW.nil <| CW.seq <| CW.seq <| CW.region <| RW.st (Ex.move (.slice A1 n1 c1) rfl) rfl ?_
 refine RW.callP hM (image_Check_lift x0 hF1 hm) en62 rfl rfl rfl rfl ?_; rintro _ w H5 _ hle6 ⟨v4, hm, rfl, rfl⟩ hM
 replace hM : Mem w0 H w H5 [.box b3 100 [.int .i64 x1.Volume, .int .i64 x1.Start, .slice A2 n2 c2]] := hM
 refine RW.st (Ex.assign (.int .i64 v4) rfl) rfl <| RW.nil <| CW.seq <| CW.region <| RW.st (Ex.move (.int .i64 v4) rfl) rfl <| RW.st (Ex.neq rfl rfl) rfl <| RW.nil ?_
 refine CW.cond_dec (p := v4 ≠ 0) rfl (fun hc7 => ?_) (fun hc7 => ?_)
 ·
  replace hm := And.left hm hc7
  refine CW.seq <| CW.region <| RW.st (Ex.move (.int .i64 v4) rfl) rfl <| RW.st (Ex.assign (.int .i64 v4) rfl) rfl <| RW.nil <| CW.ret ?_
  refine thenQ_ret ?_
  refine end_tmp (.inl rfl) rfl (.int .i64 v4) rfl ?_
  exact ⟨_, _, (hM.pick [] rfl rfl), v4, hm, rfl, rfl⟩
 ·
  replace hm := And.right hm hc7
  refine CW.skip <| CW.seq <| CW.region <| RW.st (Ex.move (.slice A1 n1 c1) rfl) rfl <| RW.st (Ex.loadA hM 0 [.int .i64 x1.Volume, .int .i64 x1.Start, .slice A2 n2 c2] ta100 rfl rfl rfl rfl) rfl ?_
  refine RW.callP hM (image_fits_lift x0 x1 (hF1.mono hle6) (hF2.mono hle6) hm) en113 rfl rfl rfl rfl ?_; rintro _ w H9 _ hle10 ⟨v8, hm, rfl, rfl⟩ hM
  replace hM : Mem w0 H w H9 [.box b3 100 [.int .i64 x1.Volume, .int .i64 x1.Start, .slice A2 n2 c2]] := hM
  refine RW.st (Ex.assign (.int .i64 v8) rfl) rfl <| RW.nil <| CW.ret ?_
  refine end_tmp (.inl rfl) rfl (.int .i64 v8) rfl ?_
  exact ⟨_, _, (hM.pick [] rfl rfl), v8, hm, rfl, rfl⟩
theorem image_Apply_lift {H : Hp} (x0 : List (List Sec)) (x1 : List api_Write) {A1 : Option Addr} {n1 c1 : Nat} {s1 : List Value} (hF1 : Fz (α := List Sec) H A1 n1 c1 x0 s1) {A2 : Option Addr} {n2 c2 : Nat} {s2 : List Value} (hF2 : Fz (α := api_Write) H A2 n2 c2 x1 s2) {Φ : List (List Sec) × Int × Int → Prop} (hm : image_Apply_W x0 x1 Φ) : RetP Tryd.prog 63 #[.slice A1 n1 c1, .slice A2 n2 c2] H (fun H' v L => ∃ y, Φ y ∧ ∃ A89, ∃ n89, ∃ c89, ∃ s89, ∃ rs90, v = .tuple #[.slice A89 n89 c89, .int .i64 (y.2.1), .int .i64 (y.2.2)] ∧ DeepL (α := List Sec) [71] H' s89 y.1 rs90 ∧ n89 = y.1.length ∧ L = .row (.slice A89 n89 c89) 61 1 n89 s89 :: rs90) := by
 refine RetP.of_code Tryd.func63 rfl (Nat.le_of_ble_eq_true rfl) fun w0 hM => ?_
 refine CW.seq <| CW.region <| RW.st (Ex.assign (.slice none 0 0) rfl) rfl <| RW.st (Ex.assign (.int .i64 0) rfl) rfl <| RW.st (Ex.assign (.int .i64 0) rfl) rfl <| RW.nil <| CW.seq <| CW.seq <| CW.region <| RW.st (Ex.move (.slice A1 n1 c1) rfl) rfl ?_
 refine RW.callP hM (image_Check_lift x0 hF1 hm) en62 rfl rfl rfl rfl ?_; rintro _ w H4 _ hle5 ⟨v3, hm, rfl, rfl⟩ hM
 replace hM : Mem w0 H w H4 [] := hM
 refine RW.st (Ex.assign (.int .i64 v3) rfl) rfl <| RW.nil <| CW.seq <| CW.region <| RW.st (Ex.move (.int .i64 v3) rfl) rfl <| RW.st (Ex.neq rfl rfl) rfl <| RW.nil ?_
 refine CW.cond_dec (p := v3 ≠ 0) rfl (fun hc6 => ?_) (fun hc6 => ?_)
 ·
  replace hm := And.left hm hc6
  refine CW.seq <| CW.region <| RW.st (Ex.move (.int .i64 v3) rfl) rfl <| RW.st (Ex.assign (.slice none 0 0) rfl) rfl <| RW.st (Ex.assign (.int .i64 0) rfl) rfl <| RW.st (Ex.assign (.int .i64 v3) rfl) rfl <| RW.nil <| CW.ret ?_
  refine thenQ_ret ?_
  refine end_tmp3 (.inl rfl) rfl (.slice none 0 0) (.int .i64 0) (.int .i64 v3) rfl rfl rfl ?_
  replace hM := hM.nilRow 61 1
  exact ⟨_, _, hM, (([] : List (List Sec)), 0, v3), hm, none, 0, 0, [], [], rfl, (DeepL.nil : DeepL (α := List Sec) [71] H4 [] [] []), rfl, rfl⟩
 ·
  replace hm := And.right hm hc6
  refine CW.skip <| CW.seq <| CW.region <| RW.st (Ex.move (.slice A1 n1 c1) rfl) rfl ?_
  refine RW.callP hM (image_copied_lift x0 (hF1.mono hle5) hm) en112 rfl rfl rfl rfl ?_; rintro _ w H8 _ hle9 ⟨v7, hm, A10, n10, c10, s10, rs11, rfl, hd12, hn13, rfl⟩ hM
  replace hM := Mem.toTail (a := [.row (.slice A10 n10 c10) 61 1 n10 s10]) (b := rs11) (c := []) hM
  replace hM : Mem w0 H w H8 (.row (.slice A10 n10 c10) 61 1 n10 s10 :: rs11) := hM
  refine RW.st (Ex.assign (.slice A10 n10 c10) rfl) rfl <| RW.nil <| CW.seq <| CW.seq <| CW.region <| RW.st (Ex.move (.slice A2 n2 c2) rfl) rfl <| RW.st (Ex.lenN st43.1 rfl hF2.hn) rfl <| RW.st (Ex.move (.int .i64 0) rfl) rfl <| RW.nil <| CW.block ?_
  obtain ⟨m88, hm⟩ := hm
  skip
  refine CW.loop (β := Nat) (fun n σ w => ∃ (v16 : List (List Sec)), ∃ (A17 : Option Addr), ∃ (n18 : Nat), ∃ (c19 : Nat), ∃ (s20 : List Value), ∃ (rs21 : List Ent), ∃ (v24 : Int), ∃ Hk14, H8.le Hk14 ∧ (∃ τ, σ = sl [(8, .slice A17 n18 c19), (19, .slice A2 n2 c2), (20, .int .i64 ((x1.length : Int))), (21, .int .i64 v24)] τ) ∧ Mem w0 H w Hk14 (.row (.slice A17 n18 c19) 61 1 n18 s20 :: rs21) ∧ (DeepL (α := List Sec) [71] Hk14 s20 v16 rs21) ∧ (n18 = v16.length) ∧ LoopN (image_Apply_L1 x1 Φ) n (v16, v24)) (fun n => n) m88 ⟨v7, A10, n10, c10, s10, rs11, 0, H8, (Hp.le.refl _), sl_canon ⟨rfl, rfl, rfl, rfl, trivial⟩, hM, hd12, hn13, hm⟩ ?_
  rintro k25 _ w ⟨v16, A17, n18, c19, s20, rs21, v24, Hk14, hle15, ⟨τ, rfl⟩, hM, hd22, hn23, hm⟩
  obtain _ | k25 := k25
  · exact hm.elim
  replace hm : (image_Apply_L1 x1 Φ) (v16, v24) (LoopN (image_Apply_L1 x1 Φ) k25) := hm
  generalize hrec26 : LoopN (image_Apply_L1 x1 Φ) k25 = rec1 at hm
  refine CW.seq <| CW.region <| RW.st (Ex.lss rfl rfl) rfl <| RW.nil <| CW.seq ?_
  refine CW.cond_dec (p := v24 < (x1.length : Int)) rfl (fun hc27 => ?_) (fun hc27 => ?_)
  ·
   replace hm := And.left hm hc27
   refine CW.skip <| CW.seq <| CW.block <| CW.seq <| CW.region <| RW.st (Ex.move (.int .i64 v24) rfl) rfl ?_
   obtain ⟨hg28, hm⟩ := hm
   refine RW.st (Ex.index st43 rfl rfl v24.toNat (hF2.ne hg28) hg28.nat (hF2.lt hg28)) rfl ?_
   obtain ⟨_, ⟨A29, n29, c29, s29, rfl, hF29⟩, hx30⟩ := DtL.getI (α := api_Write) (hF2.mono ((hle5.trans hle9).trans hle15)).dat hg28
   refine RW.st (Ex.loadEA hM ((hle5.trans hle9).trans hle15) hF2.rdc [.int .i64 ((ix x1 v24).Volume), .int .i64 ((ix x1 v24).Start), .slice A29 n29 c29] ta100 rfl (hF2.ne hg28) rfl (chunk_sub (off := 0) (n := 3) hx30 rfl)) rfl ?_
   refine RW.alloc hM tz100 [.int .i64 0, .int .i64 0, .slice none 0 0] rfl rfl rfl ?_; intro b31 w hM
   replace hM : Mem w0 H w Hk14 (.box b31 100 [.int .i64 0, .int .i64 0, .slice none 0 0] :: .row (.slice A17 n18 c19) 61 1 n18 s20 :: rs21) := hM
   refine RW.st (Ex.assign (.int .i64 v24) rfl) rfl ?_
   refine RW.store hM 0 (.agg #[.int .i64 ((ix x1 v24).Volume), .int .i64 ((ix x1 v24).Start), .slice A29 n29 c29]) [.int .i64 ((ix x1 v24).Volume), .int .i64 ((ix x1 v24).Start), .slice A29 n29 c29] [.int .i64 ((ix x1 v24).Volume), .int .i64 ((ix x1 v24).Start), .slice A29 n29 c29] sz100 rfl rfl rfl (oneAll ⟨rfl, rfl, rfl, trivial⟩) rfl (Nat.le_of_ble_eq_true rfl) rfl (.box b31 100 [.int .i64 ((ix x1 v24).Volume), .int .i64 ((ix x1 v24).Start), .slice A29 n29 c29] :: .row (.slice A17 n18 c19) 61 1 n18 s20 :: rs21) rfl rfl rfl ?_; intro w hM
   refine RW.nil <| CW.seq <| CW.seq <| CW.region <| RW.st (Ex.move (.slice A17 n18 c19) rfl) rfl <| RW.st (Ex.loadA hM 0 [.int .i64 ((ix x1 v24).Volume), .int .i64 ((ix x1 v24).Start), .slice A29 n29 c29] ta100 rfl rfl rfl rfl) rfl ?_
   have hM1 := hM
   obtain ⟨H32, hM, hle33, hd34⟩ := DeepL.flat (es := [.box b31 100 [.int .i64 ((ix x1 v24).Volume), .int .i64 ((ix x1 v24).Start), .slice A29 n29 c29], .row (.slice A17 n18 c19) 61 1 n18 s20]) hM hd22
   replace hM : Mem w0 H w H32 [.box b31 100 [.int .i64 ((ix x1 v24).Volume), .int .i64 ((ix x1 v24).Start), .slice A29 n29 c29], .row (.slice A17 n18 c19) 61 1 n18 s20] := hM
   obtain ⟨H35, hM, hle36, hF37⟩ := hM.giveF (α := List Sec) 1 rfl hd34 hn23
   replace hM : Mem w0 H w H35 [.box b31 100 [.int .i64 ((ix x1 v24).Volume), .int .i64 ((ix x1 v24).Start), .slice A29 n29 c29]] := hM
   refine RW.callB hM1 hM (image_fits_lift v16 (ix x1 v24) hF37 (hF29.mono (hle33.trans hle36)) hm) en113 rfl rfl rfl rfl ?_; clear hM hM1; intro v38 w hm hM
   replace hM : Mem w0 H w Hk14 (.box b31 100 [.int .i64 ((ix x1 v24).Volume), .int .i64 ((ix x1 v24).Start), .slice A29 n29 c29] :: .row (.slice A17 n18 c19) 61 1 n18 s20 :: rs21) := hM
   refine RW.st (Ex.assign (.int .i64 v38) rfl) rfl <| RW.nil <| CW.seq <| CW.region <| RW.st (Ex.move (.int .i64 v38) rfl) rfl <| RW.st (Ex.neq rfl rfl) rfl <| RW.nil ?_
   refine CW.cond_dec (p := v38 ≠ 0) rfl (fun hc41 => ?_) (fun hc41 => ?_)
   ·
    replace hm := And.left hm hc41
    refine CW.seq <| CW.region <| RW.st (Ex.move (.int .i64 v24) rfl) rfl <| RW.st (Ex.move (.int .i64 v38) rfl) rfl <| RW.st (Ex.assign (.slice none 0 0) rfl) rfl <| RW.st (Ex.assign (.int .i64 v24) rfl) rfl <| RW.st (Ex.assign (.int .i64 v38) rfl) rfl <| RW.nil <| CW.ret ?_
    refine thenQ_ret (blockQ_ret (thenQ_ret (thenQ_ret (blockQ_ret (thenQ_ret ?_)))))
    refine end_tmp3 (.inl rfl) rfl (.slice none 0 0) (.int .i64 v24) (.int .i64 v38) rfl rfl rfl ?_
    replace hM := hM.nilRow 61 1
    exact ⟨_, _, ((Mem.dropT (L1 := [.row (.slice none 0 0) 61 1 0 [], .box b31 100 [.int .i64 ((ix x1 v24).Volume), .int .i64 ((ix x1 v24).Start), .slice A29 n29 c29], .row (.slice A17 n18 c19) 61 1 n18 s20]) (T := rs21) hM).pick [0] rfl rfl), (([] : List (List Sec)), v24, v38), hm, none, 0, 0, [], [], rfl, (DeepL.nil : DeepL (α := List Sec) [71] Hk14 [] [] []), rfl, rfl⟩
   ·
    replace hm := And.right hm hc41
    refine CW.skip ?_
    obtain ⟨hg42, hm⟩ := hm
    obtain ⟨c44, _, c45, _, rs46, rfl, ⟨A43, n43, c43, s43, rfl, rfl, hF43, hn48⟩, hh47, hM⟩ := Mem.focus [.box b31 100 [.int .i64 ((ix x1 v24).Volume), .int .i64 ((ix x1 v24).Start), .slice A29 n29 c29], .row (.slice A17 n18 c19) 61 1 n18 s20] hM hd22 hg42
    replace hM : Mem w0 H w Hk14 (.row (.slice A43 n43 c43) 71 8 n43 s43 :: .box b31 100 [.int .i64 ((ix x1 v24).Volume), .int .i64 ((ix x1 v24).Start), .slice A29 n29 c29] :: .row (.slice A17 n18 c19) 61 1 n18 (c44 ++ ([.slice A43 n43 c43] ++ c45)) :: rs46) := hM
    have hx49 := Hole.get (ch := [.slice A43 n43 c43]) hh47
    obtain ⟨hg55, hm⟩ := hm
    refine CW.drawL 10 [] [(fun Hq us E => us = [.slice A17 n18 c19] ∧ E = [] ∧ True), (fun Hq us E => us = [.pointer (some ⟨b31, 0, none⟩)] ∧ E = [] ∧ True), (fun Hq us E => us = [.int .i64 ((ix x1 v24).Volume)] ∧ E = [] ∧ True), (fun Hq us E => us = [elp A17 ((((ix x1 v24).Volume).toNat) * 1 + 0)] ∧ E = [] ∧ True), (fun Hq us E => us = [.slice A43 n43 c43] ∧ E = [] ∧ True), (fun Hq us E => us = [.pointer (some ⟨b31, 1, none⟩)] ∧ E = [] ∧ True), (fun Hq us E => us = [.int .i64 ((ix x1 v24).Start)] ∧ E = [] ∧ True), (fun Hq us E => ∃ (A56 : Option Addr), ∃ (n57 : Nat), ∃ (c58 : Nat), us = [.slice A56 n57 c58] ∧ E = [] ∧ View A43 n43 c43 8 ((ix x1 v24).Start) A56 n57 c58 ∧ True), (fun Hq us E => us = [.pointer (some ⟨b31, 2, none⟩)] ∧ E = [] ∧ True), (fun Hq us E => us = [.slice A29 n29 c29] ∧ E = [] ∧ True)]
     (fun k => [[0], [1], [2], [3], [4], [5], [6], [7], [8], [9]].getD k []) (fun _ => none) (by kernel_rfl) hM (by kernel_rfl) (by kernel_rfl) (by kernel_rfl) rfl (by simp only [List.forall_mem_cons]; exact ⟨fun _ _ _ _ hle ⟨e1, e2, _⟩ => ⟨e1, e2, trivial⟩, fun _ _ _ _ hle ⟨e1, e2, _⟩ => ⟨e1, e2, trivial⟩, fun _ _ _ _ hle ⟨e1, e2, _⟩ => ⟨e1, e2, trivial⟩, fun _ _ _ _ hle ⟨e1, e2, _⟩ => ⟨e1, e2, trivial⟩, fun _ _ _ _ hle ⟨e1, e2, _⟩ => ⟨e1, e2, trivial⟩, fun _ _ _ _ hle ⟨e1, e2, _⟩ => ⟨e1, e2, trivial⟩, fun _ _ _ _ hle ⟨e1, e2, _⟩ => ⟨e1, e2, trivial⟩, fun _ _ _ _ hle ⟨A56, n57, c58, e1, e2, hV59, _⟩ => ⟨A56, n57, c58, e1, e2, hV59, trivial⟩, fun _ _ _ _ hle ⟨e1, e2, _⟩ => ⟨e1, e2, trivial⟩, fun _ _ _ _ hle ⟨e1, e2, _⟩ => ⟨e1, e2, trivial⟩, by simp⟩) ⟨?_, ?_, ?_, ?_, ?_, ?_, ?_, ?_, ?_, ?_, trivial⟩ ?_
    ·
     intro H' σ' w R E hle hMR hE0 hE hp hf
     obtain rfl := hE0 rfl
     obtain ⟨τ, rfl⟩ := sl_canon (σ := σ') (l := [(8, .slice A17 n18 c19)]) ⟨(hf 8 (by kernel_rfl)).trans rfl, trivial⟩
     have hM := Mem.subR (R := R) hMR
     exact RW.step (Ex.move (.slice A17 n18 c19) rfl) rfl rfl rfl (RW.nil ⟨rfl, rfl, _, rfl, H', [], Hp.le.refl _, hMR, rfl, rfl, trivial⟩)
    ·
     intro H' σ' w R E hle hMR hE0 hE hp hf
     obtain rfl := hE0 rfl
     obtain ⟨τ, rfl⟩ := sl_canon (σ := σ') (l := [(10, .pointer (some ⟨b31, 0, none⟩))]) ⟨(hf 10 (by kernel_rfl)).trans rfl, trivial⟩
     have hM := Mem.subR (R := R) hMR
     exact RW.step (Ex.fieldAddr fa100_0 rfl) rfl rfl rfl (RW.nil ⟨rfl, rfl, _, rfl, H', [], Hp.le.refl _, hMR, rfl, rfl, trivial⟩)
    ·
     intro H' σ' w R E hle hMR hE0 hE hp hf
     obtain rfl := hE0 rfl
     obtain ⟨_, hg⟩ := hp 1 (by decide) (by kernel_rfl)
     obtain ⟨e60, _, _⟩ := hg.get rfl
     have e61 : σ' 34 = .pointer (some ⟨b31, 0, none⟩) := (List.cons.inj e60).1
     obtain ⟨τ, rfl⟩ := sl_canon (σ := σ') (l := [(34, .pointer (some ⟨b31, 0, none⟩))]) ⟨e61, trivial⟩
     have hM := Mem.subR (R := R) hMR
     exact RW.step (Ex.load1 hM 1 to3 rfl rfl rfl) rfl rfl rfl (RW.nil ⟨rfl, rfl, _, rfl, H', [], Hp.le.refl _, hMR, rfl, rfl, trivial⟩)
    ·
     intro H' σ' w R E hle hMR hE0 hE hp hf
     obtain rfl := hE0 rfl
     obtain ⟨_, hg⟩ := hp 0 (by decide) (by kernel_rfl)
     obtain ⟨e62, _, _⟩ := hg.get rfl
     have e63 : σ' 33 = .slice A17 n18 c19 := (List.cons.inj e62).1
     obtain ⟨_, hg⟩ := hp 2 (by decide) (by kernel_rfl)
     obtain ⟨e64, _, _⟩ := hg.get rfl
     have e65 : σ' 35 = .int .i64 ((ix x1 v24).Volume) := (List.cons.inj e64).1
     obtain ⟨τ, rfl⟩ := sl_canon (σ := σ') (l := [(33, .slice A17 n18 c19), (35, .int .i64 ((ix x1 v24).Volume))]) ⟨e63, e65, trivial⟩
     have hM := Mem.subR (R := R) hMR
     exact RW.step (Ex.index st25 rfl rfl (((ix x1 v24).Volume).toNat) (hM.rowNeD (α := List Sec) (p := 2) rfl hn23 hg42) hg42.nat (Nat.lt_of_lt_of_eq hg42.lt (hn23).symm)) rfl rfl rfl (RW.nil ⟨rfl, rfl, _, rfl, H', [], Hp.le.refl _, hMR, rfl, rfl, trivial⟩)
    ·
     intro H' σ' w R E hle hMR hE0 hE hp hf
     obtain rfl := hE0 rfl
     obtain ⟨_, hg⟩ := hp 3 (by decide) (by kernel_rfl)
     obtain ⟨e66, _, _⟩ := hg.get rfl
     have e67 : σ' 36 = elp A17 ((((ix x1 v24).Volume).toNat) * 1 + 0) := (List.cons.inj e66).1
     obtain ⟨τ, rfl⟩ := sl_canon (σ := σ') (l := [(36, elp A17 ((((ix x1 v24).Volume).toNat) * 1 + 0))]) ⟨e67, trivial⟩
     have hM := Mem.subR (R := R) hMR
     exact RW.step (Ex.loadR hM 2 rfl to61 (hM.rowNeD (α := List Sec) (p := 2) rfl hn23 hg42) rfl (hx49 0 _ rfl)) rfl rfl rfl (RW.nil ⟨rfl, rfl, _, rfl, H', [], Hp.le.refl _, hMR, rfl, rfl, trivial⟩)
    ·
     intro H' σ' w R E hle hMR hE0 hE hp hf
     obtain rfl := hE0 rfl
     obtain ⟨τ, rfl⟩ := sl_canon (σ := σ') (l := [(10, .pointer (some ⟨b31, 0, none⟩))]) ⟨(hf 10 (by kernel_rfl)).trans rfl, trivial⟩
     have hM := Mem.subR (R := R) hMR
     exact RW.step (Ex.fieldAddr fa100_1 rfl) rfl rfl rfl (RW.nil ⟨rfl, rfl, _, rfl, H', [], Hp.le.refl _, hMR, rfl, rfl, trivial⟩)
    ·
     intro H' σ' w R E hle hMR hE0 hE hp hf
     obtain rfl := hE0 rfl
     obtain ⟨_, hg⟩ := hp 5 (by decide) (by kernel_rfl)
     obtain ⟨e68, _, _⟩ := hg.get rfl
     have e69 : σ' 38 = .pointer (some ⟨b31, 1, none⟩) := (List.cons.inj e68).1
     obtain ⟨τ, rfl⟩ := sl_canon (σ := σ') (l := [(38, .pointer (some ⟨b31, 1, none⟩))]) ⟨e69, trivial⟩
     have hM := Mem.subR (R := R) hMR
     exact RW.step (Ex.load1 hM 1 to3 rfl rfl rfl) rfl rfl rfl (RW.nil ⟨rfl, rfl, _, rfl, H', [], Hp.le.refl _, hMR, rfl, rfl, trivial⟩)
    ·
     intro H' σ' w R E hle hMR hE0 hE hp hf
     obtain rfl := hE0 rfl
     obtain ⟨_, hg⟩ := hp 4 (by decide) (by kernel_rfl)
     obtain ⟨e70, _, _⟩ := hg.get rfl
     have e71 : σ' 37 = .slice A43 n43 c43 := (List.cons.inj e70).1
     obtain ⟨_, hg⟩ := hp 6 (by decide) (by kernel_rfl)
     obtain ⟨e72, _, _⟩ := hg.get rfl
     have e73 : σ' 39 = .int .i64 ((ix x1 v24).Start) := (List.cons.inj e72).1
     obtain ⟨τ, rfl⟩ := sl_canon (σ := σ') (l := [(37, .slice A43 n43 c43), (39, .int .i64 ((ix x1 v24).Start))]) ⟨e71, e73, trivial⟩
     have hM := Mem.subR (R := R) hMR
     refine RW.sliceLo st61 rfl rfl hn48 hg55 rfl rfl ?_; intro A56 n57 c58 hV59
     exact RW.nil ⟨rfl, rfl, _, rfl, H', [], Hp.le.refl _, hMR, A56, n57, c58, rfl, rfl, hV59, trivial⟩
    ·
     intro H' σ' w R E hle hMR hE0 hE hp hf
     obtain rfl := hE0 rfl
     obtain ⟨τ, rfl⟩ := sl_canon (σ := σ') (l := [(10, .pointer (some ⟨b31, 0, none⟩))]) ⟨(hf 10 (by kernel_rfl)).trans rfl, trivial⟩
     have hM := Mem.subR (R := R) hMR
     exact RW.step (Ex.fieldAddr fa100_2 rfl) rfl rfl rfl (RW.nil ⟨rfl, rfl, _, rfl, H', [], Hp.le.refl _, hMR, rfl, rfl, trivial⟩)
    ·
     intro H' σ' w R E hle hMR hE0 hE hp hf
     obtain rfl := hE0 rfl
     obtain ⟨_, hg⟩ := hp 8 (by decide) (by kernel_rfl)
     obtain ⟨e74, _, _⟩ := hg.get rfl
     have e75 : σ' 41 = .pointer (some ⟨b31, 2, none⟩) := (List.cons.inj e74).1
     obtain ⟨τ, rfl⟩ := sl_canon (σ := σ') (l := [(41, .pointer (some ⟨b31, 2, none⟩))]) ⟨e75, trivial⟩
     have hM := Mem.subR (R := R) hMR
     exact RW.step (Ex.load1 hM 1 to61 rfl rfl rfl) rfl rfl rfl (RW.nil ⟨rfl, rfl, _, rfl, H', [], Hp.le.refl _, hMR, rfl, rfl, trivial⟩)
    ·
     intro H8 σ' w X miss hms hle8 hM hX hX0 hf
     simp [subs] at hms
     rcases hms with rfl
     ·
      obtain ⟨H76, hH8⟩ : ∃ x, x = H8 := ⟨_, rfl⟩
      subst hH8
      have hle77 := hle8
      obtain ⟨_, g0, y0⟩ := hX 0 (by decide) (by kernel_rfl)
      obtain ⟨_, rfl, _⟩ := g0.get rfl
      replace y0 : X 0 = [] := y0
      obtain ⟨_, g0, y1⟩ := hX 1 (by decide) (by kernel_rfl)
      obtain ⟨_, rfl, _⟩ := g0.get rfl
      replace y1 : X 1 = [] := y1
      obtain ⟨_, g0, y2⟩ := hX 2 (by decide) (by kernel_rfl)
      obtain ⟨_, rfl, _⟩ := g0.get rfl
      replace y2 : X 2 = [] := y2
      obtain ⟨_, g0, y3⟩ := hX 3 (by decide) (by kernel_rfl)
      obtain ⟨_, rfl, _⟩ := g0.get rfl
      replace y3 : X 3 = [] := y3
      obtain ⟨_, g0, y4⟩ := hX 4 (by decide) (by kernel_rfl)
      obtain ⟨_, rfl, _⟩ := g0.get rfl
      replace y4 : X 4 = [] := y4
      obtain ⟨_, g0, y5⟩ := hX 5 (by decide) (by kernel_rfl)
      obtain ⟨_, rfl, _⟩ := g0.get rfl
      replace y5 : X 5 = [] := y5
      obtain ⟨_, g0, y6⟩ := hX 6 (by decide) (by kernel_rfl)
      obtain ⟨_, rfl, _⟩ := g0.get rfl
      replace y6 : X 6 = [] := y6
      obtain ⟨_, g0, y7⟩ := hX 7 (by decide) (by kernel_rfl)
      obtain ⟨A56, n57, c58, e78, rfl, hV59, _⟩ := g0.get rfl
      have e79 : σ' 40 = .slice A56 n57 c58 := (List.cons.inj e78).1
      replace y7 : X 7 = [] := y7
      obtain ⟨_, g0, y8⟩ := hX 8 (by decide) (by kernel_rfl)
      obtain ⟨_, rfl, _⟩ := g0.get rfl
      replace y8 : X 8 = [] := y8
      obtain ⟨_, g0, y9⟩ := hX 9 (by decide) (by kernel_rfl)
      obtain ⟨e80, rfl, _⟩ := g0.get rfl
      have e81 : σ' 42 = .slice A29 n29 c29 := (List.cons.inj e80).1
      replace y9 : X 9 = [] := y9
      have hfl : flatX X 10 = [] := by
       show X 0 ++ (X 1 ++ (X 2 ++ (X 3 ++ (X 4 ++ (X 5 ++ (X 6 ++ (X 7 ++ (X 8 ++ (X 9 ++ []))))))))) = _
       rw [y0, y1, y2, y3, y4, y5, y6, y7, y8, y9]; rfl
      rw [hfl] at hM
      obtain ⟨τ, rfl⟩ := sl_canon (σ := σ') (l := [(8, .slice A17 n18 c19), (19, .slice A2 n2 c2), (20, .int .i64 ((x1.length : Int))), (21, .int .i64 v24), (40, .slice A56 n57 c58), (42, .slice A29 n29 c29)]) ⟨(hf 8 (by kernel_rfl)).trans rfl, (hf 19 (by kernel_rfl)).trans rfl, (hf 20 (by kernel_rfl)).trans rfl, (hf 21 (by kernel_rfl)).trans rfl, e79, e81, trivial⟩
      replace hM : Mem w0 H w H76 (.row (.slice A43 n43 c43) 71 8 n43 s43 :: .box b31 100 [.int .i64 ((ix x1 v24).Volume), .int .i64 ((ix x1 v24).Start), .slice A29 n29 c29] :: .row (.slice A17 n18 c19) 61 1 n18 (c44 ++ ([.slice A43 n43 c43] ++ c45)) :: rs46) := hM
      change RA _ _ _ _ _ _ _ (sl [(8, .slice A17 n18 c19), (19, .slice A2 n2 c2), (20, .int .i64 ((x1.length : Int))), (21, .int .i64 v24), (40, .slice A56 n57 c58), (42, .slice A29 n29 c29)] τ) _ 11 _
      refine RA.step [10] (by kernel_rfl) rfl ⟨⟨_, rfl, ?_⟩, trivial⟩
      refine RW.copyV (α := Sec) (xs := (ix v16 ((ix x1 v24).Volume))) (ys := (ix x1 v24).Data) hM 0 st61 rfl hV59 rfl (hF43.mono hle77) hn48 hg55 rfl hle77 hF29 rfl rfl ?_; intro s82 w hd83 hM
      replace hM : Mem w0 H w H76 (.row (.slice A43 n43 c43) 71 8 n43 s82 :: .box b31 100 [.int .i64 ((ix x1 v24).Volume), .int .i64 ((ix x1 v24).Start), .slice A29 n29 c29] :: .row (.slice A17 n18 c19) 61 1 n18 (c44 ++ ([.slice A43 n43 c43] ++ c45)) :: rs46) := hM
      refine RW.nil ?_
      refine And.intro rfl ?_
      refine RA.done (by kernel_rfl) ?_
      refine CW.region ?_
      obtain ⟨hg84, hm⟩ := hm
      refine RW.st (Ex.add rfl rfl hg84.1 hg84.2) rfl <| RW.st (Ex.move (.int .i64 (v24 + 1)) rfl) rfl <| RW.nil ?_
      obtain ⟨s85, rs86, hd87, hM⟩ := Mem.unfocus (α := List Sec) (Ts := [71]) (x := (paste (ix v16 ((ix x1 v24).Volume)) ((ix x1 v24).Start) ((ix x1 v24).Data))) [.box b31 100 [.int .i64 ((ix x1 v24).Volume), .int .i64 ((ix x1 v24).Start), .slice A29 n29 c29], .row (.slice A17 n18 c19) 61 1 n18 (c44 ++ ([.slice A43 n43 c43] ++ c45))] hM 1 rfl (hh47.mono hle77) ⟨A43, n43, c43, s82, rfl, rfl, hd83, (hn48).trans (paste_len hg55).symm⟩
      replace hM : Mem w0 H w H76 (.box b31 100 [.int .i64 ((ix x1 v24).Volume), .int .i64 ((ix x1 v24).Start), .slice A29 n29 c29] :: .row (.slice A17 n18 c19) 61 1 n18 s85 :: rs86) := hM
      exact And.intro rfl ⟨k25, ⟨(put v16 ((ix x1 v24).Volume) (paste (ix v16 ((ix x1 v24).Volume)) ((ix x1 v24).Start) ((ix x1 v24).Data))), A17, n18, c19, s85, rs86, v24 + 1, H76, hle15.trans hle77, sl_canon ⟨rfl, rfl, rfl, rfl, trivial⟩, (Mem.pickT (L1 := [.box b31 100 [.int .i64 ((ix x1 v24).Volume), .int .i64 ((ix x1 v24).Start), .slice A29 n29 c29], .row (.slice A17 n18 c19) 61 1 n18 s85]) (T := rs86) hM [1] rfl rfl), hd87, (hn23).trans (put_len _ _ _).symm, (by rw [hrec26]; exact hm)⟩, Nat.lt_succ_self _⟩
  ·
   replace hm := And.right hm hc27
   refine CW.exit ?_
   refine CW.seq <| CW.region <| RW.st (Ex.move (.slice A17 n18 c19) rfl) rfl <| RW.st (Ex.assign (.slice A17 n18 c19) rfl) rfl <| RW.st (Ex.assign (.int .i64 0) rfl) rfl <| RW.st (Ex.assign (.int .i64 0) rfl) rfl <| RW.nil <| CW.ret ?_
   refine end_tmp3 (.inl rfl) rfl (.slice A17 n18 c19) (.int .i64 0) (.int .i64 0) rfl rfl rfl ?_
   exact ⟨_, _, hM, (v16, 0, 0), hm, A17, n18, c19, s20, rs21, rfl, hd22, hn23, rfl⟩
end Go.Proofs.YtahlanamngfkcaaDoor

namespace Go.Proofs.YtahlanamngfkcaaDoor
open Go.RowKit
theorem law47_sides_lift {H : Hp} (x0 : List (List Sec)) (x1 : List api_Write) (x2 : List api_Write) (x3 : BitVec 8) {A1 : Option Addr} {n1 c1 : Nat} {s1 : List Value} (hF1 : Fz (α := List Sec) H A1 n1 c1 x0 s1) {A2 : Option Addr} {n2 c2 : Nat} {s2 : List Value} (hF2 : Fz (α := api_Write) H A2 n2 c2 x1 s2) {A3 : Option Addr} {n3 c3 : Nat} {s3 : List Value} (hF3 : Fz (α := api_Write) H A3 n3 c3 x2 s3) {Φ : api_Point × api_Point → Prop} (hm : law47_sides_W x0 x1 x2 x3 Φ) : RetP Tryd.prog 21 #[.slice A1 n1 c1, .slice A2 n2 c2, .slice A3 n3 c3, u8 (x3)] H (fun H' v L => ∃ y, Φ y ∧ ∃ A61, ∃ n61, ∃ c61, ∃ s61, ∃ A62, ∃ n62, ∃ c62, ∃ s62, ∃ A63, ∃ n63, ∃ c63, ∃ s63, ∃ A66, ∃ n66, ∃ c66, ∃ s66, ∃ A67, ∃ n67, ∃ c67, ∃ s67, ∃ A68, ∃ n68, ∃ c68, ∃ s68, v = .tuple #[.agg #[.int .i64 (y.1.Site), .slice A61 n61 c61, .slice A62 n62 c62, .slice A63 n63 c63], .agg #[.int .i64 (y.2.Site), .slice A66 n66 c66, .slice A67 n67 c67, .slice A68 n68 c68]] ∧ Fz (α := api_Span) H' A61 n61 c61 y.1.Lineage s61 ∧ DtL (α := api_Bitmap) H' s62 y.1.Dirty ∧ n62 = y.1.Dirty.length ∧ Fz (α := List Sec) H' A63 n63 c63 y.1.Image s63 ∧ Fz (α := api_Span) H' A66 n66 c66 y.2.Lineage s66 ∧ DtL (α := api_Bitmap) H' s67 y.2.Dirty ∧ n67 = y.2.Dirty.length ∧ Fz (α := List Sec) H' A68 n68 c68 y.2.Image s68 ∧ L = [.row (.slice A62 n62 c62) 65 2 n62 s62, .row (.slice A67 n67 c67) 65 2 n67 s67]) := by
 refine RetP.of_code Tryd.func21 rfl (Nat.le_of_ble_eq_true rfl) fun w0 hM => ?_
 refine CW.seq <| CW.region ?_
 refine RW.alloc hM tz27 [.int .i64 0, .slice none 0 0, .slice none 0 0, .slice none 0 0] rfl rfl rfl ?_; intro b4 w hM
 replace hM : Mem w0 H w H [.box b4 27 [.int .i64 0, .slice none 0 0, .slice none 0 0, .slice none 0 0]] := hM
 refine RW.alloc hM tz27 [.int .i64 0, .slice none 0 0, .slice none 0 0, .slice none 0 0] rfl rfl rfl ?_; intro b5 w hM
 replace hM : Mem w0 H w H [.box b5 27 [.int .i64 0, .slice none 0 0, .slice none 0 0, .slice none 0 0], .box b4 27 [.int .i64 0, .slice none 0 0, .slice none 0 0, .slice none 0 0]] := hM
 refine RW.nil <| CW.seq <| CW.region <| RW.st (Ex.move (u8 (x3)) rfl) rfl <| RW.st (Ex.rem8 (a := x3) (b := 5#8) rfl rfl (by decide)) rfl <| RW.st (Ex.conv8I (a := x3 % (5#8)) Tryd.underlying5 Tryd.underlying3 rfl) rfl ?_
 obtain ⟨hg6, hm⟩ := hm
 refine RW.st (Ex.add rfl rfl hg6.1 hg6.2) rfl <| RW.st (Ex.assign (.int .i64 (1 + ((x3 % (5#8)).toNat : Int))) rfl) rfl <| RW.nil <| CW.seq <| CW.region <| RW.st (Ex.move (.slice A1 n1 c1) rfl) rfl <| RW.st (Ex.move (.int .i64 (1 + ((x3 % (5#8)).toNat : Int))) rfl) rfl ?_
 obtain ⟨hg7, hm⟩ := hm
 refine RW.st (Ex.add rfl rfl hg7.1 hg7.2) rfl <| RW.st (Ex.build bs98 [(0, .int .i64 1), (1, .int .i64 1), (2, .int .i64 ((1 + ((x3 % (5#8)).toNat : Int)) + 1))] [.int .i64 1, .int .i64 1, .int .i64 ((1 + ((x3 % (5#8)).toNat : Int)) + 1)] rfl rfl) rfl ?_
 refine RW.buildSlice hM st22 tz98 [(0, .agg #[.int .i64 1, .int .i64 1, .int .i64 ((1 + ((x3 % (5#8)).toNat : Int)) + 1)])] [.int .i64 1, .int .i64 1, .int .i64 ((1 + ((x3 % (5#8)).toNat : Int)) + 1)] (by decide) rfl rfl rfl (by decide) rfl rfl ?_; intro b8 w hM
 have hd9 : DtL H [.int .i64 1, .int .i64 1, .int .i64 ((1 + ((x3 % (5#8)).toNat : Int)) + 1)] ([(api_Span.mk 1 1 ((1 + ((x3 % (5#8)).toNat : Int)) + 1))] : List api_Span) := (DtL.cons (c1 := [.int .i64 1, .int .i64 1, .int .i64 ((1 + ((x3 % (5#8)).toNat : Int)) + 1)]) rfl DtL.nil)
 replace hM : Mem w0 H w H [.row (.slice (some ⟨b8, 0, none⟩) 1 1) 98 3 1 [.int .i64 1, .int .i64 1, .int .i64 ((1 + ((x3 % (5#8)).toNat : Int)) + 1)], .box b5 27 [.int .i64 0, .slice none 0 0, .slice none 0 0, .slice none 0 0], .box b4 27 [.int .i64 0, .slice none 0 0, .slice none 0 0, .slice none 0 0]] := hM
 refine RW.st (Ex.move (.slice A1 n1 c1) rfl) rfl <| RW.st (Ex.move (.slice A2 n2 c2) rfl) rfl ?_
 refine RW.callP hM (law47_fitting_lift x0 x1 hF1 hF2 hm) en60 rfl rfl rfl rfl ?_; rintro _ w H11 _ hle12 ⟨v10, hm, A13, n13, c13, s13, rfl, hd14, hn15, rfl⟩ hM
 replace hM : Mem w0 H w H11 [.row (.slice A13 n13 c13) 100 3 n13 s13, .row (.slice (some ⟨b8, 0, none⟩) 1 1) 98 3 1 [.int .i64 1, .int .i64 1, .int .i64 ((1 + ((x3 % (5#8)).toNat : Int)) + 1)], .box b5 27 [.int .i64 0, .slice none 0 0, .slice none 0 0, .slice none 0 0], .box b4 27 [.int .i64 0, .slice none 0 0, .slice none 0 0, .slice none 0 0]] := hM
 obtain ⟨H16, hM, hle17, hF18⟩ := hM.giveF (α := api_Span) 1 rfl (hd9.mono hle12) rfl
 replace hM : Mem w0 H w H16 [.row (.slice A13 n13 c13) 100 3 n13 s13, .box b5 27 [.int .i64 0, .slice none 0 0, .slice none 0 0, .slice none 0 0], .box b4 27 [.int .i64 0, .slice none 0 0, .slice none 0 0, .slice none 0 0]] := hM
 obtain ⟨H19, hM, hle20, hF21⟩ := hM.giveF (α := api_Write) 0 rfl (hd14.mono hle17) hn15
 replace hM : Mem w0 H w H19 [.box b5 27 [.int .i64 0, .slice none 0 0, .slice none 0 0, .slice none 0 0], .box b4 27 [.int .i64 0, .slice none 0 0, .slice none 0 0, .slice none 0 0]] := hM
 refine RW.callP hM (law47_point_lift 0 x0 ([(api_Span.mk 1 1 ((1 + ((x3 % (5#8)).toNat : Int)) + 1))] : List api_Span) v10 (hF1.mono ((hle12.trans hle17).trans hle20)) (hF18.mono hle20) hF21 hm) en38 rfl rfl rfl rfl ?_; rintro _ w H23 _ hle24 ⟨v22, hm, A25, n25, c25, s25, A26, n26, c26, s26, A27, n27, c27, s27, rfl, hF25, hd28, hn29, hF27, rfl⟩ hM
 replace hM : Mem w0 H w H23 [.row (.slice A26 n26 c26) 65 2 n26 s26, .box b5 27 [.int .i64 0, .slice none 0 0, .slice none 0 0, .slice none 0 0], .box b4 27 [.int .i64 0, .slice none 0 0, .slice none 0 0, .slice none 0 0]] := hM
 refine RW.alloc hM tz27 [.int .i64 0, .slice none 0 0, .slice none 0 0, .slice none 0 0] rfl rfl rfl ?_; intro b30 w hM
 replace hM : Mem w0 H w H23 [.box b30 27 [.int .i64 0, .slice none 0 0, .slice none 0 0, .slice none 0 0], .row (.slice A26 n26 c26) 65 2 n26 s26, .box b5 27 [.int .i64 0, .slice none 0 0, .slice none 0 0, .slice none 0 0], .box b4 27 [.int .i64 0, .slice none 0 0, .slice none 0 0, .slice none 0 0]] := hM
 refine RW.store hM 0 (.agg #[.int .i64 v22.Site, .slice A25 n25 c25, .slice A26 n26 c26, .slice A27 n27 c27]) [.int .i64 v22.Site, .slice A25 n25 c25, .slice A26 n26 c26, .slice A27 n27 c27] [.int .i64 v22.Site, .slice A25 n25 c25, .slice A26 n26 c26, .slice A27 n27 c27] sz27 rfl rfl rfl (oneAll ⟨rfl, rfl, rfl, rfl, trivial⟩) rfl (Nat.le_of_ble_eq_true rfl) rfl [.box b30 27 [.int .i64 v22.Site, .slice A25 n25 c25, .slice A26 n26 c26, .slice A27 n27 c27], .row (.slice A26 n26 c26) 65 2 n26 s26, .box b5 27 [.int .i64 0, .slice none 0 0, .slice none 0 0, .slice none 0 0], .box b4 27 [.int .i64 0, .slice none 0 0, .slice none 0 0, .slice none 0 0]] rfl rfl rfl ?_; intro w hM
 refine RW.nil <| CW.seq <| CW.region <| RW.st (Ex.move (.slice A1 n1 c1) rfl) rfl <| RW.st (Ex.move (.int .i64 (1 + ((x3 % (5#8)).toNat : Int))) rfl) rfl <| RW.st (Ex.build bs98 [(0, .int .i64 1), (1, .int .i64 1), (2, .int .i64 (1 + ((x3 % (5#8)).toNat : Int)))] [.int .i64 1, .int .i64 1, .int .i64 (1 + ((x3 % (5#8)).toNat : Int))] rfl rfl) rfl <| RW.st (Ex.move (.int .i64 (1 + ((x3 % (5#8)).toNat : Int))) rfl) rfl <| RW.st (Ex.add rfl rfl hg7.1 hg7.2) rfl <| RW.st (Ex.move (.int .i64 (1 + ((x3 % (5#8)).toNat : Int))) rfl) rfl ?_
 obtain ⟨hg31, hm⟩ := hm
 refine RW.st (Ex.add rfl rfl hg31.1 hg31.2) rfl <| RW.st (Ex.build bs98 [(0, .int .i64 3), (1, .int .i64 ((1 + ((x3 % (5#8)).toNat : Int)) + 1)), (2, .int .i64 ((1 + ((x3 % (5#8)).toNat : Int)) + 2))] [.int .i64 3, .int .i64 ((1 + ((x3 % (5#8)).toNat : Int)) + 1), .int .i64 ((1 + ((x3 % (5#8)).toNat : Int)) + 2)] rfl rfl) rfl ?_
 refine RW.buildSlice hM st22 tz98 [(0, .agg #[.int .i64 1, .int .i64 1, .int .i64 (1 + ((x3 % (5#8)).toNat : Int))]), (1, .agg #[.int .i64 3, .int .i64 ((1 + ((x3 % (5#8)).toNat : Int)) + 1), .int .i64 ((1 + ((x3 % (5#8)).toNat : Int)) + 2)])] [.int .i64 1, .int .i64 1, .int .i64 (1 + ((x3 % (5#8)).toNat : Int)), .int .i64 3, .int .i64 ((1 + ((x3 % (5#8)).toNat : Int)) + 1), .int .i64 ((1 + ((x3 % (5#8)).toNat : Int)) + 2)] (by decide) rfl rfl rfl (by decide) rfl rfl ?_; intro b32 w hM
 have hd33 : DtL H23 [.int .i64 1, .int .i64 1, .int .i64 (1 + ((x3 % (5#8)).toNat : Int)), .int .i64 3, .int .i64 ((1 + ((x3 % (5#8)).toNat : Int)) + 1), .int .i64 ((1 + ((x3 % (5#8)).toNat : Int)) + 2)] ([(api_Span.mk 1 1 (1 + ((x3 % (5#8)).toNat : Int))), (api_Span.mk 3 ((1 + ((x3 % (5#8)).toNat : Int)) + 1) ((1 + ((x3 % (5#8)).toNat : Int)) + 2))] : List api_Span) := (DtL.cons (c1 := [.int .i64 1, .int .i64 1, .int .i64 (1 + ((x3 % (5#8)).toNat : Int))]) rfl (DtL.cons (c1 := [.int .i64 3, .int .i64 ((1 + ((x3 % (5#8)).toNat : Int)) + 1), .int .i64 ((1 + ((x3 % (5#8)).toNat : Int)) + 2)]) rfl DtL.nil))
 replace hM : Mem w0 H w H23 [.row (.slice (some ⟨b32, 0, none⟩) 2 2) 98 3 2 [.int .i64 1, .int .i64 1, .int .i64 (1 + ((x3 % (5#8)).toNat : Int)), .int .i64 3, .int .i64 ((1 + ((x3 % (5#8)).toNat : Int)) + 1), .int .i64 ((1 + ((x3 % (5#8)).toNat : Int)) + 2)], .box b30 27 [.int .i64 v22.Site, .slice A25 n25 c25, .slice A26 n26 c26, .slice A27 n27 c27], .row (.slice A26 n26 c26) 65 2 n26 s26, .box b5 27 [.int .i64 0, .slice none 0 0, .slice none 0 0, .slice none 0 0], .box b4 27 [.int .i64 0, .slice none 0 0, .slice none 0 0, .slice none 0 0]] := hM
 refine RW.st (Ex.move (.slice A1 n1 c1) rfl) rfl <| RW.st (Ex.move (.slice A3 n3 c3) rfl) rfl ?_
 refine RW.callP hM (law47_fitting_lift x0 x2 (hF1.mono (((hle12.trans hle17).trans hle20).trans hle24)) (hF3.mono (((hle12.trans hle17).trans hle20).trans hle24)) hm) en60 rfl rfl rfl rfl ?_; rintro _ w H35 _ hle36 ⟨v34, hm, A37, n37, c37, s37, rfl, hd38, hn39, rfl⟩ hM
 replace hM : Mem w0 H w H35 [.row (.slice A37 n37 c37) 100 3 n37 s37, .row (.slice (some ⟨b32, 0, none⟩) 2 2) 98 3 2 [.int .i64 1, .int .i64 1, .int .i64 (1 + ((x3 % (5#8)).toNat : Int)), .int .i64 3, .int .i64 ((1 + ((x3 % (5#8)).toNat : Int)) + 1), .int .i64 ((1 + ((x3 % (5#8)).toNat : Int)) + 2)], .box b30 27 [.int .i64 v22.Site, .slice A25 n25 c25, .slice A26 n26 c26, .slice A27 n27 c27], .row (.slice A26 n26 c26) 65 2 n26 s26, .box b5 27 [.int .i64 0, .slice none 0 0, .slice none 0 0, .slice none 0 0], .box b4 27 [.int .i64 0, .slice none 0 0, .slice none 0 0, .slice none 0 0]] := hM
 obtain ⟨H40, hM, hle41, hF42⟩ := hM.giveF (α := api_Span) 1 rfl (hd33.mono hle36) rfl
 replace hM : Mem w0 H w H40 [.row (.slice A37 n37 c37) 100 3 n37 s37, .box b30 27 [.int .i64 v22.Site, .slice A25 n25 c25, .slice A26 n26 c26, .slice A27 n27 c27], .row (.slice A26 n26 c26) 65 2 n26 s26, .box b5 27 [.int .i64 0, .slice none 0 0, .slice none 0 0, .slice none 0 0], .box b4 27 [.int .i64 0, .slice none 0 0, .slice none 0 0, .slice none 0 0]] := hM
 obtain ⟨H43, hM, hle44, hF45⟩ := hM.giveF (α := api_Write) 0 rfl (hd38.mono hle41) hn39
 replace hM : Mem w0 H w H43 [.box b30 27 [.int .i64 v22.Site, .slice A25 n25 c25, .slice A26 n26 c26, .slice A27 n27 c27], .row (.slice A26 n26 c26) 65 2 n26 s26, .box b5 27 [.int .i64 0, .slice none 0 0, .slice none 0 0, .slice none 0 0], .box b4 27 [.int .i64 0, .slice none 0 0, .slice none 0 0, .slice none 0 0]] := hM
 refine RW.callP hM (law47_point_lift 1 x0 ([(api_Span.mk 1 1 (1 + ((x3 % (5#8)).toNat : Int))), (api_Span.mk 3 ((1 + ((x3 % (5#8)).toNat : Int)) + 1) ((1 + ((x3 % (5#8)).toNat : Int)) + 2))] : List api_Span) v34 (hF1.mono ((((((hle12.trans hle17).trans hle20).trans hle24).trans hle36).trans hle41).trans hle44)) (hF42.mono hle44) hF45 hm) en38 rfl rfl rfl rfl ?_; rintro _ w H47 _ hle48 ⟨v46, hm, A49, n49, c49, s49, A50, n50, c50, s50, A51, n51, c51, s51, rfl, hF49, hd52, hn53, hF51, rfl⟩ hM
 replace hM : Mem w0 H w H47 [.row (.slice A50 n50 c50) 65 2 n50 s50, .box b30 27 [.int .i64 v22.Site, .slice A25 n25 c25, .slice A26 n26 c26, .slice A27 n27 c27], .row (.slice A26 n26 c26) 65 2 n26 s26, .box b5 27 [.int .i64 0, .slice none 0 0, .slice none 0 0, .slice none 0 0], .box b4 27 [.int .i64 0, .slice none 0 0, .slice none 0 0, .slice none 0 0]] := hM
 refine RW.alloc hM tz27 [.int .i64 0, .slice none 0 0, .slice none 0 0, .slice none 0 0] rfl rfl rfl ?_; intro b54 w hM
 replace hM : Mem w0 H w H47 [.box b54 27 [.int .i64 0, .slice none 0 0, .slice none 0 0, .slice none 0 0], .row (.slice A50 n50 c50) 65 2 n50 s50, .box b30 27 [.int .i64 v22.Site, .slice A25 n25 c25, .slice A26 n26 c26, .slice A27 n27 c27], .row (.slice A26 n26 c26) 65 2 n26 s26, .box b5 27 [.int .i64 0, .slice none 0 0, .slice none 0 0, .slice none 0 0], .box b4 27 [.int .i64 0, .slice none 0 0, .slice none 0 0, .slice none 0 0]] := hM
 refine RW.store hM 0 (.agg #[.int .i64 v46.Site, .slice A49 n49 c49, .slice A50 n50 c50, .slice A51 n51 c51]) [.int .i64 v46.Site, .slice A49 n49 c49, .slice A50 n50 c50, .slice A51 n51 c51] [.int .i64 v46.Site, .slice A49 n49 c49, .slice A50 n50 c50, .slice A51 n51 c51] sz27 rfl rfl rfl (oneAll ⟨rfl, rfl, rfl, rfl, trivial⟩) rfl (Nat.le_of_ble_eq_true rfl) rfl [.box b54 27 [.int .i64 v46.Site, .slice A49 n49 c49, .slice A50 n50 c50, .slice A51 n51 c51], .row (.slice A50 n50 c50) 65 2 n50 s50, .box b30 27 [.int .i64 v22.Site, .slice A25 n25 c25, .slice A26 n26 c26, .slice A27 n27 c27], .row (.slice A26 n26 c26) 65 2 n26 s26, .box b5 27 [.int .i64 0, .slice none 0 0, .slice none 0 0, .slice none 0 0], .box b4 27 [.int .i64 0, .slice none 0 0, .slice none 0 0, .slice none 0 0]] rfl rfl rfl ?_; intro w hM
 refine RW.nil <| CW.seq ?_
 refine CW.drawL 2 [1] [(fun Hq us E => us = [.agg #[.int .i64 v22.Site, .slice A25 n25 c25, .slice A26 n26 c26, .slice A27 n27 c27]] ∧ E = [] ∧ True), (fun Hq us E => us = [.agg #[.int .i64 v46.Site, .slice A49 n49 c49, .slice A50 n50 c50, .slice A51 n51 c51]] ∧ E = [] ∧ True)]
  (fun k => [[0], [1]].getD k []) (fun _ => none) (by kernel_rfl) hM (by kernel_rfl) (by kernel_rfl) (by kernel_rfl) rfl (by simp only [List.forall_mem_cons]; exact ⟨fun _ _ _ _ hle ⟨e1, e2, _⟩ => ⟨e1, e2, trivial⟩, fun _ _ _ _ hle ⟨e1, e2, _⟩ => ⟨e1, e2, trivial⟩, by simp⟩) ⟨?_, ?_, trivial⟩ ?_
 ·
  intro H' σ' w R E hle hMR hE0 hE hp hf
  obtain rfl := hE0 rfl
  obtain ⟨τ, rfl⟩ := sl_canon (σ := σ') (l := [(11, .pointer (some ⟨b30, 0, none⟩))]) ⟨(hf 11 (by kernel_rfl)).trans rfl, trivial⟩
  have hM := Mem.subR (R := R) hMR
  exact RW.step (Ex.loadA hM 2 [.int .i64 v22.Site, .slice A25 n25 c25, .slice A26 n26 c26, .slice A27 n27 c27] ta27 rfl rfl rfl rfl) rfl rfl rfl (RW.nil ⟨rfl, rfl, _, rfl, H', [], Hp.le.refl _, hMR, rfl, rfl, trivial⟩)
 ·
  intro H' σ' w R E hle hMR hE0 hE hp hf
  obtain rfl := hE0 rfl
  obtain ⟨τ, rfl⟩ := sl_canon (σ := σ') (l := [(12, .pointer (some ⟨b54, 0, none⟩))]) ⟨(hf 12 (by kernel_rfl)).trans rfl, trivial⟩
  have hM := Mem.subR (R := R) hMR
  exact RW.step (Ex.loadA hM 0 [.int .i64 v46.Site, .slice A49 n49 c49, .slice A50 n50 c50, .slice A51 n51 c51] ta27 rfl rfl rfl rfl) rfl rfl rfl (RW.nil ⟨rfl, rfl, _, rfl, H', [], Hp.le.refl _, hMR, rfl, rfl, trivial⟩)
 ·
  intro H8 σ' w X miss hms hle8 hM hX hX0 hf
  simp [subs] at hms
  rcases hms with rfl | rfl
  ·
   obtain ⟨H57, hH8⟩ : ∃ x, x = H8 := ⟨_, rfl⟩
   subst hH8
   have hle58 := hle8
   obtain ⟨_, g0, y0⟩ := hX 0 (by decide) (by kernel_rfl)
   obtain ⟨e59, rfl, _⟩ := g0.get rfl
   have e60 : σ' 39 = .agg #[.int .i64 v22.Site, .slice A25 n25 c25, .slice A26 n26 c26, .slice A27 n27 c27] := (List.cons.inj e59).1
   replace y0 : X 0 = [] := y0
   obtain ⟨_, g0, y1⟩ := hX 1 (by decide) (by kernel_rfl)
   obtain ⟨e61, rfl, _⟩ := g0.get rfl
   have e62 : σ' 40 = .agg #[.int .i64 v46.Site, .slice A49 n49 c49, .slice A50 n50 c50, .slice A51 n51 c51] := (List.cons.inj e61).1
   replace y1 : X 1 = [] := y1
   have hfl : flatX X 2 = [] := by
    show X 0 ++ (X 1 ++ []) = _
    rw [y0, y1]; rfl
   rw [hfl] at hM
   obtain ⟨τ, rfl⟩ := sl_canon (σ := σ') (l := [(8, .pointer (some ⟨b4, 0, none⟩)), (9, .pointer (some ⟨b5, 0, none⟩)), (39, .agg #[.int .i64 v22.Site, .slice A25 n25 c25, .slice A26 n26 c26, .slice A27 n27 c27]), (40, .agg #[.int .i64 v46.Site, .slice A49 n49 c49, .slice A50 n50 c50, .slice A51 n51 c51])]) ⟨(hf 8 (by kernel_rfl)).trans rfl, (hf 9 (by kernel_rfl)).trans rfl, e60, e62, trivial⟩
   replace hM : Mem w0 H w H57 [.box b54 27 [.int .i64 v46.Site, .slice A49 n49 c49, .slice A50 n50 c50, .slice A51 n51 c51], .row (.slice A50 n50 c50) 65 2 n50 s50, .box b30 27 [.int .i64 v22.Site, .slice A25 n25 c25, .slice A26 n26 c26, .slice A27 n27 c27], .row (.slice A26 n26 c26) 65 2 n26 s26, .box b5 27 [.int .i64 0, .slice none 0 0, .slice none 0 0, .slice none 0 0], .box b4 27 [.int .i64 0, .slice none 0 0, .slice none 0 0, .slice none 0 0]] := hM
   change RA _ _ _ _ _ _ _ (sl [(8, .pointer (some ⟨b4, 0, none⟩)), (9, .pointer (some ⟨b5, 0, none⟩)), (39, .agg #[.int .i64 v22.Site, .slice A25 n25 c25, .slice A26 n26 c26, .slice A27 n27 c27]), (40, .agg #[.int .i64 v46.Site, .slice A49 n49 c49, .slice A50 n50 c50, .slice A51 n51 c51])] τ) _ 4 _
   refine RA.step [2] (by kernel_rfl) rfl ⟨⟨_, rfl, ?_⟩, trivial⟩
   refine RW.store hM 5 (.agg #[.int .i64 v22.Site, .slice A25 n25 c25, .slice A26 n26 c26, .slice A27 n27 c27]) [.int .i64 v22.Site, .slice A25 n25 c25, .slice A26 n26 c26, .slice A27 n27 c27] [.int .i64 v22.Site, .slice A25 n25 c25, .slice A26 n26 c26, .slice A27 n27 c27] sz27 rfl rfl rfl (oneAll ⟨rfl, rfl, rfl, rfl, trivial⟩) rfl (Nat.le_of_ble_eq_true rfl) rfl [.box b54 27 [.int .i64 v46.Site, .slice A49 n49 c49, .slice A50 n50 c50, .slice A51 n51 c51], .row (.slice A50 n50 c50) 65 2 n50 s50, .box b30 27 [.int .i64 v22.Site, .slice A25 n25 c25, .slice A26 n26 c26, .slice A27 n27 c27], .row (.slice A26 n26 c26) 65 2 n26 s26, .box b5 27 [.int .i64 0, .slice none 0 0, .slice none 0 0, .slice none 0 0], .box b4 27 [.int .i64 v22.Site, .slice A25 n25 c25, .slice A26 n26 c26, .slice A27 n27 c27]] rfl rfl rfl ?_; intro w hM
   refine RW.nil ?_
   refine And.intro rfl ?_
   refine RA.step [3] (by kernel_rfl) rfl ⟨⟨_, rfl, ?_⟩, trivial⟩
   refine RW.store hM 4 (.agg #[.int .i64 v46.Site, .slice A49 n49 c49, .slice A50 n50 c50, .slice A51 n51 c51]) [.int .i64 v46.Site, .slice A49 n49 c49, .slice A50 n50 c50, .slice A51 n51 c51] [.int .i64 v46.Site, .slice A49 n49 c49, .slice A50 n50 c50, .slice A51 n51 c51] sz27 rfl rfl rfl (oneAll ⟨rfl, rfl, rfl, rfl, trivial⟩) rfl (Nat.le_of_ble_eq_true rfl) rfl [.box b54 27 [.int .i64 v46.Site, .slice A49 n49 c49, .slice A50 n50 c50, .slice A51 n51 c51], .row (.slice A50 n50 c50) 65 2 n50 s50, .box b30 27 [.int .i64 v22.Site, .slice A25 n25 c25, .slice A26 n26 c26, .slice A27 n27 c27], .row (.slice A26 n26 c26) 65 2 n26 s26, .box b5 27 [.int .i64 v46.Site, .slice A49 n49 c49, .slice A50 n50 c50, .slice A51 n51 c51], .box b4 27 [.int .i64 v22.Site, .slice A25 n25 c25, .slice A26 n26 c26, .slice A27 n27 c27]] rfl rfl rfl ?_; intro w hM
   refine RW.nil ?_
   refine And.intro rfl ?_
   refine RA.done (by kernel_rfl) ?_
   refine CW.ret ?_
   refine end_cell2 (k := 5) (k2 := 4) (.inl rfl) rfl hM rfl rfl ta27 ta27 [.int .i64 v22.Site, .slice A25 n25 c25, .slice A26 n26 c26, .slice A27 n27 c27] [.int .i64 v46.Site, .slice A49 n49 c49, .slice A50 n50 c50, .slice A51 n51 c51] rfl rfl rfl rfl ?_
   exact ⟨_, _, (hM.pick [3, 1] rfl rfl), (v22, v46), hm, A25, n25, c25, s25, A26, n26, c26, s26, A27, n27, c27, s27, A49, n49, c49, s49, A50, n50, c50, s50, A51, n51, c51, s51, rfl, (hF25.mono ((((hle36.trans hle41).trans hle44).trans hle48).trans hle58)), (hd28.mono ((((hle36.trans hle41).trans hle44).trans hle48).trans hle58)), hn29, (hF27.mono ((((hle36.trans hle41).trans hle44).trans hle48).trans hle58)), (hF49.mono hle58), (hd52.mono hle58), hn53, (hF51.mono hle58), rfl⟩
  ·
   obtain ⟨H57, hH8⟩ : ∃ x, x = H8 := ⟨_, rfl⟩
   subst hH8
   have hle58 := hle8
   obtain ⟨_, g0, y0⟩ := hX 0 (by decide) (by kernel_rfl)
   obtain ⟨e59, rfl, _⟩ := g0.get rfl
   have e60 : σ' 39 = .agg #[.int .i64 v22.Site, .slice A25 n25 c25, .slice A26 n26 c26, .slice A27 n27 c27] := (List.cons.inj e59).1
   replace y0 : X 0 = [] := y0
   have y1 : X 1 = [] := hX0 1 (by decide) (by kernel_rfl)
   have hfl : flatX X 2 = [] := by
    show X 0 ++ (X 1 ++ []) = _
    rw [y0, y1]; rfl
   rw [hfl] at hM
   obtain ⟨τ, rfl⟩ := sl_canon (σ := σ') (l := [(8, .pointer (some ⟨b4, 0, none⟩)), (9, .pointer (some ⟨b5, 0, none⟩)), (12, .pointer (some ⟨b54, 0, none⟩)), (39, .agg #[.int .i64 v22.Site, .slice A25 n25 c25, .slice A26 n26 c26, .slice A27 n27 c27])]) ⟨(hf 8 (by kernel_rfl)).trans rfl, (hf 9 (by kernel_rfl)).trans rfl, (hf 12 (by kernel_rfl)).trans rfl, e60, trivial⟩
   replace hM : Mem w0 H w H57 [.box b54 27 [.int .i64 v46.Site, .slice A49 n49 c49, .slice A50 n50 c50, .slice A51 n51 c51], .row (.slice A50 n50 c50) 65 2 n50 s50, .box b30 27 [.int .i64 v22.Site, .slice A25 n25 c25, .slice A26 n26 c26, .slice A27 n27 c27], .row (.slice A26 n26 c26) 65 2 n26 s26, .box b5 27 [.int .i64 0, .slice none 0 0, .slice none 0 0, .slice none 0 0], .box b4 27 [.int .i64 0, .slice none 0 0, .slice none 0 0, .slice none 0 0]] := hM
   change RA _ _ _ _ _ _ _ (sl [(8, .pointer (some ⟨b4, 0, none⟩)), (9, .pointer (some ⟨b5, 0, none⟩)), (12, .pointer (some ⟨b54, 0, none⟩)), (39, .agg #[.int .i64 v22.Site, .slice A25 n25 c25, .slice A26 n26 c26, .slice A27 n27 c27])] τ) _ 4 _
   refine RA.step [1, 2] (by kernel_rfl) rfl ⟨⟨_, rfl, ?_⟩, ⟨_, rfl, ?_⟩, trivial⟩
   ·
    refine RW.st (Ex.loadA hM 0 [.int .i64 v46.Site, .slice A49 n49 c49, .slice A50 n50 c50, .slice A51 n51 c51] ta27 rfl rfl rfl rfl) rfl <| RW.nil ?_
    refine And.intro rfl ?_
    refine RA.step [2] (by kernel_rfl) rfl ⟨⟨_, rfl, ?_⟩, trivial⟩
    refine RW.store hM 5 (.agg #[.int .i64 v22.Site, .slice A25 n25 c25, .slice A26 n26 c26, .slice A27 n27 c27]) [.int .i64 v22.Site, .slice A25 n25 c25, .slice A26 n26 c26, .slice A27 n27 c27] [.int .i64 v22.Site, .slice A25 n25 c25, .slice A26 n26 c26, .slice A27 n27 c27] sz27 rfl rfl rfl (oneAll ⟨rfl, rfl, rfl, rfl, trivial⟩) rfl (Nat.le_of_ble_eq_true rfl) rfl [.box b54 27 [.int .i64 v46.Site, .slice A49 n49 c49, .slice A50 n50 c50, .slice A51 n51 c51], .row (.slice A50 n50 c50) 65 2 n50 s50, .box b30 27 [.int .i64 v22.Site, .slice A25 n25 c25, .slice A26 n26 c26, .slice A27 n27 c27], .row (.slice A26 n26 c26) 65 2 n26 s26, .box b5 27 [.int .i64 0, .slice none 0 0, .slice none 0 0, .slice none 0 0], .box b4 27 [.int .i64 v22.Site, .slice A25 n25 c25, .slice A26 n26 c26, .slice A27 n27 c27]] rfl rfl rfl ?_; intro w hM
    refine RW.nil ?_
    refine And.intro rfl ?_
    refine RA.step [3] (by kernel_rfl) rfl ⟨⟨_, rfl, ?_⟩, trivial⟩
    refine RW.store hM 4 (.agg #[.int .i64 v46.Site, .slice A49 n49 c49, .slice A50 n50 c50, .slice A51 n51 c51]) [.int .i64 v46.Site, .slice A49 n49 c49, .slice A50 n50 c50, .slice A51 n51 c51] [.int .i64 v46.Site, .slice A49 n49 c49, .slice A50 n50 c50, .slice A51 n51 c51] sz27 rfl rfl rfl (oneAll ⟨rfl, rfl, rfl, rfl, trivial⟩) rfl (Nat.le_of_ble_eq_true rfl) rfl [.box b54 27 [.int .i64 v46.Site, .slice A49 n49 c49, .slice A50 n50 c50, .slice A51 n51 c51], .row (.slice A50 n50 c50) 65 2 n50 s50, .box b30 27 [.int .i64 v22.Site, .slice A25 n25 c25, .slice A26 n26 c26, .slice A27 n27 c27], .row (.slice A26 n26 c26) 65 2 n26 s26, .box b5 27 [.int .i64 v46.Site, .slice A49 n49 c49, .slice A50 n50 c50, .slice A51 n51 c51], .box b4 27 [.int .i64 v22.Site, .slice A25 n25 c25, .slice A26 n26 c26, .slice A27 n27 c27]] rfl rfl rfl ?_; intro w hM
    refine RW.nil ?_
    refine And.intro rfl ?_
    refine RA.done (by kernel_rfl) ?_
    refine CW.ret ?_
    refine end_cell2 (k := 5) (k2 := 4) (.inl rfl) rfl hM rfl rfl ta27 ta27 [.int .i64 v22.Site, .slice A25 n25 c25, .slice A26 n26 c26, .slice A27 n27 c27] [.int .i64 v46.Site, .slice A49 n49 c49, .slice A50 n50 c50, .slice A51 n51 c51] rfl rfl rfl rfl ?_
    exact ⟨_, _, (hM.pick [3, 1] rfl rfl), (v22, v46), hm, A25, n25, c25, s25, A26, n26, c26, s26, A27, n27, c27, s27, A49, n49, c49, s49, A50, n50, c50, s50, A51, n51, c51, s51, rfl, (hF25.mono ((((hle36.trans hle41).trans hle44).trans hle48).trans hle58)), (hd28.mono ((((hle36.trans hle41).trans hle44).trans hle48).trans hle58)), hn29, (hF27.mono ((((hle36.trans hle41).trans hle44).trans hle48).trans hle58)), (hF49.mono hle58), (hd52.mono hle58), hn53, (hF51.mono hle58), rfl⟩
   ·
    refine RW.store hM 5 (.agg #[.int .i64 v22.Site, .slice A25 n25 c25, .slice A26 n26 c26, .slice A27 n27 c27]) [.int .i64 v22.Site, .slice A25 n25 c25, .slice A26 n26 c26, .slice A27 n27 c27] [.int .i64 v22.Site, .slice A25 n25 c25, .slice A26 n26 c26, .slice A27 n27 c27] sz27 rfl rfl rfl (oneAll ⟨rfl, rfl, rfl, rfl, trivial⟩) rfl (Nat.le_of_ble_eq_true rfl) rfl [.box b54 27 [.int .i64 v46.Site, .slice A49 n49 c49, .slice A50 n50 c50, .slice A51 n51 c51], .row (.slice A50 n50 c50) 65 2 n50 s50, .box b30 27 [.int .i64 v22.Site, .slice A25 n25 c25, .slice A26 n26 c26, .slice A27 n27 c27], .row (.slice A26 n26 c26) 65 2 n26 s26, .box b5 27 [.int .i64 0, .slice none 0 0, .slice none 0 0, .slice none 0 0], .box b4 27 [.int .i64 v22.Site, .slice A25 n25 c25, .slice A26 n26 c26, .slice A27 n27 c27]] rfl rfl rfl ?_; intro w hM
    refine RW.nil ?_
    refine And.intro rfl ?_
    refine RA.step [1] (by kernel_rfl) rfl ⟨⟨_, rfl, ?_⟩, trivial⟩
    refine RW.st (Ex.loadA hM 0 [.int .i64 v46.Site, .slice A49 n49 c49, .slice A50 n50 c50, .slice A51 n51 c51] ta27 rfl rfl rfl rfl) rfl <| RW.nil ?_
    refine And.intro rfl ?_
    refine RA.step [3] (by kernel_rfl) rfl ⟨⟨_, rfl, ?_⟩, trivial⟩
    refine RW.store hM 4 (.agg #[.int .i64 v46.Site, .slice A49 n49 c49, .slice A50 n50 c50, .slice A51 n51 c51]) [.int .i64 v46.Site, .slice A49 n49 c49, .slice A50 n50 c50, .slice A51 n51 c51] [.int .i64 v46.Site, .slice A49 n49 c49, .slice A50 n50 c50, .slice A51 n51 c51] sz27 rfl rfl rfl (oneAll ⟨rfl, rfl, rfl, rfl, trivial⟩) rfl (Nat.le_of_ble_eq_true rfl) rfl [.box b54 27 [.int .i64 v46.Site, .slice A49 n49 c49, .slice A50 n50 c50, .slice A51 n51 c51], .row (.slice A50 n50 c50) 65 2 n50 s50, .box b30 27 [.int .i64 v22.Site, .slice A25 n25 c25, .slice A26 n26 c26, .slice A27 n27 c27], .row (.slice A26 n26 c26) 65 2 n26 s26, .box b5 27 [.int .i64 v46.Site, .slice A49 n49 c49, .slice A50 n50 c50, .slice A51 n51 c51], .box b4 27 [.int .i64 v22.Site, .slice A25 n25 c25, .slice A26 n26 c26, .slice A27 n27 c27]] rfl rfl rfl ?_; intro w hM
    refine RW.nil ?_
    refine And.intro rfl ?_
    refine RA.done (by kernel_rfl) ?_
    refine CW.ret ?_
    refine end_cell2 (k := 5) (k2 := 4) (.inl rfl) rfl hM rfl rfl ta27 ta27 [.int .i64 v22.Site, .slice A25 n25 c25, .slice A26 n26 c26, .slice A27 n27 c27] [.int .i64 v46.Site, .slice A49 n49 c49, .slice A50 n50 c50, .slice A51 n51 c51] rfl rfl rfl rfl ?_
    exact ⟨_, _, (hM.pick [3, 1] rfl rfl), (v22, v46), hm, A25, n25, c25, s25, A26, n26, c26, s26, A27, n27, c27, s27, A49, n49, c49, s49, A50, n50, c50, s50, A51, n51, c51, s51, rfl, (hF25.mono ((((hle36.trans hle41).trans hle44).trans hle48).trans hle58)), (hd28.mono ((((hle36.trans hle41).trans hle44).trans hle48).trans hle58)), hn29, (hF27.mono ((((hle36.trans hle41).trans hle44).trans hle48).trans hle58)), (hF49.mono hle58), (hd52.mono hle58), hn53, (hF51.mono hle58), rfl⟩
end Go.Proofs.YtahlanamngfkcaaDoor

namespace Go.Proofs.YtahlanamngfkcaaDoor
open Go.RowKit
theorem reverse_Undo_lift {H : Hp} (hT : TabH H 0) (x0 : api_Point) (x1 : Int) {A1 : Option Addr} {n1 c1 : Nat} {s1 : List Value} (hF1 : Fz (α := api_Span) H A1 n1 c1 x0.Lineage s1) {A2 : Option Addr} {n2 c2 : Nat} {s2 : List Value} (hF2 : Fz (α := api_Bitmap) H A2 n2 c2 x0.Dirty s2) {A3 : Option Addr} {n3 c3 : Nat} {s3 : List Value} (hF3 : Fz (α := List Sec) H A3 n3 c3 x0.Image s3) {Φ : List (List api_Extent) × Int → Prop} (hm : reverse_Undo_W x0 x1 Φ) : RetP Tryd.prog 12 #[.agg #[.int .i64 x0.Site, .slice A1 n1 c1, .slice A2 n2 c2, .slice A3 n3 c3], .int .i64 x1] H (fun H' v L => ∃ y, Φ y ∧ ∃ A38, ∃ n38, ∃ c38, ∃ s38, v = .tuple #[.slice A38 n38 c38, .int .i64 (y.2)] ∧ DtL (α := List api_Extent) H' s38 y.1 ∧ n38 = y.1.length ∧ L = [.row (.slice A38 n38 c38) 68 1 n38 s38]) := by
 refine RetP.of_code Tryd.func12 rfl (Nat.le_of_ble_eq_true rfl) fun w0 hM => ?_
 refine CW.seq <| CW.region ?_
 refine RW.box hM (.agg #[.int .i64 x0.Site, .slice A1 n1 c1, .slice A2 n2 c2, .slice A3 n3 c3]) [.int .i64 x0.Site, .slice A1 n1 c1, .slice A2 n2 c2, .slice A3 n3 c3] rfl rfl rfl rfl ?_; intro b4 w hM
 replace hM : Mem w0 H w H [.box b4 27 [.int .i64 x0.Site, .slice A1 n1 c1, .slice A2 n2 c2, .slice A3 n3 c3]] := hM
 refine RW.st (Ex.assign (.slice none 0 0) rfl) rfl <| RW.st (Ex.assign (.int .i64 0) rfl) rfl <| RW.nil <| CW.seq <| CW.seq <| CW.region <| RW.st (Ex.loadA hM 0 [.int .i64 x0.Site, .slice A1 n1 c1, .slice A2 n2 c2, .slice A3 n3 c3] ta27 rfl rfl rfl rfl) rfl ?_
 refine RW.callP hM (delta_Check_lift x0 hF1 hF2 hF3 hm) en40 rfl rfl rfl rfl ?_; rintro _ w H6 _ hle7 ⟨v5, hm, rfl, rfl⟩ hM
 replace hM : Mem w0 H w H6 [.box b4 27 [.int .i64 x0.Site, .slice A1 n1 c1, .slice A2 n2 c2, .slice A3 n3 c3]] := hM
 refine RW.st (Ex.assign (.int .i64 v5) rfl) rfl <| RW.nil <| CW.seq <| CW.region <| RW.st (Ex.move (.int .i64 v5) rfl) rfl <| RW.st (Ex.neq rfl rfl) rfl <| RW.nil ?_
 refine CW.cond_dec (p := v5 ≠ 0) rfl (fun hc8 => ?_) (fun hc8 => ?_)
 ·
  replace hm := And.left hm hc8
  refine CW.seq <| CW.region <| RW.st (Ex.move (.int .i64 v5) rfl) rfl <| RW.st (Ex.assign (.slice none 0 0) rfl) rfl <| RW.st (Ex.assign (.int .i64 v5) rfl) rfl <| RW.nil <| CW.ret ?_
  refine thenQ_ret ?_
  refine end_tmp2 (.inl rfl) rfl (.slice none 0 0) (.int .i64 v5) rfl rfl ?_
  replace hM := hM.nilRow 68 1
  exact ⟨_, _, (hM.pick [0] rfl rfl), (([] : List (List api_Extent)), v5), hm, none, 0, 0, [], rfl, (DtL.nil : DtL _ [] ([] : List (List api_Extent))), rfl, rfl⟩
 ·
  replace hm := And.right hm hc8
  refine CW.skip <| CW.seq <| CW.seq <| CW.region <| RW.st (Ex.move (.int .i64 x1) rfl) rfl <| RW.st (Ex.lss rfl rfl) rfl <| RW.st (Ex.move (.bool (decide (x1 < 0))) rfl) rfl ?_
  refine RW.split 14 (p := x1 < 0) rfl (fun hc27 => ?_) (fun hc27 => ?_)
  ·
   replace hm := And.left hm hc27
   refine RW.pass rfl rfl <| RW.pass rfl rfl <| RW.pass rfl rfl <| RW.pass rfl rfl <| RW.pass rfl rfl <| RW.st (Ex.pickT (.bool true) rfl rfl) rfl <| RW.nil <| CW.cond_true rfl <| CW.seq <| CW.region <| RW.st (Ex.assign (.slice none 0 0) rfl) rfl <| RW.st (Ex.assign (.int .i64 2) rfl) rfl <| RW.nil <| CW.ret ?_
   refine thenQ_ret ?_
   refine end_tmp2 (.inl rfl) rfl (.slice none 0 0) (.int .i64 2) rfl rfl ?_
   replace hM := hM.nilRow 68 1
   exact ⟨_, _, (hM.pick [0] rfl rfl), (([] : List (List api_Extent)), 2), hm, none, 0, 0, [], rfl, (DtL.nil : DtL _ [] ([] : List (List api_Extent))), rfl, rfl⟩
  ·
   replace hm := And.right hm hc27
   refine RW.st (Ex.move (.int .i64 x1) rfl) rfl <| RW.st (Ex.fieldAddr fa27_1 rfl) rfl <| RW.st (Ex.load1 hM 0 to22 rfl rfl rfl) rfl ?_
   refine RW.callP hM (reverse_last_lift x0.Lineage (hF1.mono hle7) hm) en41 rfl rfl rfl rfl ?_; rintro _ w H29 _ hle30 ⟨v28, hm, rfl, rfl⟩ hM
   replace hM : Mem w0 H w H29 [.box b4 27 [.int .i64 x0.Site, .slice A1 n1 c1, .slice A2 n2 c2, .slice A3 n3 c3]] := hM
   refine RW.st (Ex.gtr rfl rfl) rfl <| RW.st (Ex.pickF (.bool (decide (v28 < x1))) rfl rfl) rfl <| RW.nil ?_
   refine CW.cond_dec (p := v28 < x1) rfl (fun hc31 => ?_) (fun hc31 => ?_)
   ·
    replace hm := And.left hm hc31
    refine CW.seq <| CW.region <| RW.st (Ex.assign (.slice none 0 0) rfl) rfl <| RW.st (Ex.assign (.int .i64 2) rfl) rfl <| RW.nil <| CW.ret ?_
    refine thenQ_ret ?_
    refine end_tmp2 (.inl rfl) rfl (.slice none 0 0) (.int .i64 2) rfl rfl ?_
    replace hM := hM.nilRow 68 1
    exact ⟨_, _, (hM.pick [0] rfl rfl), (([] : List (List api_Extent)), 2), hm, none, 0, 0, [], rfl, (DtL.nil : DtL _ [] ([] : List (List api_Extent))), rfl, rfl⟩
   ·
    replace hm := And.right hm hc31
    refine CW.skip <| CW.seq <| CW.region <| RW.st (Ex.fieldAddr fa27_2 rfl) rfl <| RW.st (Ex.load1 hM 0 to23 rfl rfl rfl) rfl ?_
    refine RW.callP hM (reverse_volumes_api_Extent__reverse_Undo_1_lift (hT.mono (hle7.trans hle30)) x0.Dirty (hF2.mono (hle7.trans hle30)) hm) en42 rfl rfl rfl rfl ?_; rintro _ w H33 _ hle34 ⟨v32, hm, A35, n35, c35, s35, rfl, hd36, hn37, rfl⟩ hM
    replace hM : Mem w0 H w H33 [.row (.slice A35 n35 c35) 68 1 n35 s35, .box b4 27 [.int .i64 x0.Site, .slice A1 n1 c1, .slice A2 n2 c2, .slice A3 n3 c3]] := hM
    refine RW.st (Ex.assign (.slice A35 n35 c35) rfl) rfl <| RW.st (Ex.assign (.int .i64 0) rfl) rfl <| RW.nil <| CW.ret ?_
    refine end_tmp2 (.inl rfl) rfl (.slice A35 n35 c35) (.int .i64 0) rfl rfl ?_
    exact ⟨_, _, (hM.pick [0] rfl rfl), (v32, 0), hm, A35, n35, c35, s35, rfl, hd36, hn37, rfl⟩
theorem delta_Between_lift {H : Hp} (hT : TabH H 0) (x0 : api_Point) (x1 : api_Point) {A1 : Option Addr} {n1 c1 : Nat} {s1 : List Value} (hF1 : Fz (α := api_Span) H A1 n1 c1 x0.Lineage s1) {A2 : Option Addr} {n2 c2 : Nat} {s2 : List Value} (hF2 : Fz (α := api_Bitmap) H A2 n2 c2 x0.Dirty s2) {A3 : Option Addr} {n3 c3 : Nat} {s3 : List Value} (hF3 : Fz (α := List Sec) H A3 n3 c3 x0.Image s3) {A4 : Option Addr} {n4 c4 : Nat} {s4 : List Value} (hF4 : Fz (α := api_Span) H A4 n4 c4 x1.Lineage s4) {A5 : Option Addr} {n5 c5 : Nat} {s5 : List Value} (hF5 : Fz (α := api_Bitmap) H A5 n5 c5 x1.Dirty s5) {A6 : Option Addr} {n6 c6 : Nat} {s6 : List Value} (hF6 : Fz (α := List Sec) H A6 n6 c6 x1.Image s6) {Φ : List (List api_Extent) × Int → Prop} (hm : delta_Between_W x0 x1 Φ) : RetP Tryd.prog 47 #[.agg #[.int .i64 x0.Site, .slice A1 n1 c1, .slice A2 n2 c2, .slice A3 n3 c3], .agg #[.int .i64 x1.Site, .slice A4 n4 c4, .slice A5 n5 c5, .slice A6 n6 c6]] H (fun H' v L => ∃ y, Φ y ∧ ∃ A39, ∃ n39, ∃ c39, ∃ s39, v = .tuple #[.slice A39 n39 c39, .int .i64 (y.2)] ∧ DtL (α := List api_Extent) H' s39 y.1 ∧ n39 = y.1.length ∧ L = [.row (.slice A39 n39 c39) 68 1 n39 s39]) := by
 refine RetP.of_code Tryd.func47 rfl (Nat.le_of_ble_eq_true rfl) fun w0 hM => ?_
 refine CW.seq <| CW.region ?_
 refine RW.box hM (.agg #[.int .i64 x0.Site, .slice A1 n1 c1, .slice A2 n2 c2, .slice A3 n3 c3]) [.int .i64 x0.Site, .slice A1 n1 c1, .slice A2 n2 c2, .slice A3 n3 c3] rfl rfl rfl rfl ?_; intro b7 w hM
 replace hM : Mem w0 H w H [.box b7 27 [.int .i64 x0.Site, .slice A1 n1 c1, .slice A2 n2 c2, .slice A3 n3 c3]] := hM
 refine RW.box hM (.agg #[.int .i64 x1.Site, .slice A4 n4 c4, .slice A5 n5 c5, .slice A6 n6 c6]) [.int .i64 x1.Site, .slice A4 n4 c4, .slice A5 n5 c5, .slice A6 n6 c6] rfl rfl rfl rfl ?_; intro b8 w hM
 replace hM : Mem w0 H w H [.box b8 27 [.int .i64 x1.Site, .slice A4 n4 c4, .slice A5 n5 c5, .slice A6 n6 c6], .box b7 27 [.int .i64 x0.Site, .slice A1 n1 c1, .slice A2 n2 c2, .slice A3 n3 c3]] := hM
 refine RW.st (Ex.assign (.slice none 0 0) rfl) rfl <| RW.st (Ex.assign (.int .i64 0) rfl) rfl <| RW.nil <| CW.seq <| CW.seq <| CW.region <| RW.st (Ex.loadA hM 1 [.int .i64 x0.Site, .slice A1 n1 c1, .slice A2 n2 c2, .slice A3 n3 c3] ta27 rfl rfl rfl rfl) rfl <| RW.st (Ex.loadA hM 0 [.int .i64 x1.Site, .slice A4 n4 c4, .slice A5 n5 c5, .slice A6 n6 c6] ta27 rfl rfl rfl rfl) rfl ?_
 refine RW.buildSlice hM st166 tz27 [(0, .agg #[.int .i64 x0.Site, .slice A1 n1 c1, .slice A2 n2 c2, .slice A3 n3 c3]), (1, .agg #[.int .i64 x1.Site, .slice A4 n4 c4, .slice A5 n5 c5, .slice A6 n6 c6])] [.int .i64 x0.Site, .slice A1 n1 c1, .slice A2 n2 c2, .slice A3 n3 c3, .int .i64 x1.Site, .slice A4 n4 c4, .slice A5 n5 c5, .slice A6 n6 c6] (by decide) rfl rfl rfl (by decide) rfl rfl ?_; intro b9 w hM
 have hd10 : DtL H [.int .i64 x0.Site, .slice A1 n1 c1, .slice A2 n2 c2, .slice A3 n3 c3, .int .i64 x1.Site, .slice A4 n4 c4, .slice A5 n5 c5, .slice A6 n6 c6] ([x0, x1] : List api_Point) := (DtL.cons (c1 := [.int .i64 x0.Site, .slice A1 n1 c1, .slice A2 n2 c2, .slice A3 n3 c3]) ⟨_, _, _, _, _, _, _, _, _, _, _, _, rfl, hF1, hF2, hF3⟩ (DtL.cons (c1 := [.int .i64 x1.Site, .slice A4 n4 c4, .slice A5 n5 c5, .slice A6 n6 c6]) ⟨_, _, _, _, _, _, _, _, _, _, _, _, rfl, hF4, hF5, hF6⟩ DtL.nil))
 replace hM : Mem w0 H w H [.row (.slice (some ⟨b9, 0, none⟩) 2 2) 27 4 2 [.int .i64 x0.Site, .slice A1 n1 c1, .slice A2 n2 c2, .slice A3 n3 c3, .int .i64 x1.Site, .slice A4 n4 c4, .slice A5 n5 c5, .slice A6 n6 c6], .box b8 27 [.int .i64 x1.Site, .slice A4 n4 c4, .slice A5 n5 c5, .slice A6 n6 c6], .box b7 27 [.int .i64 x0.Site, .slice A1 n1 c1, .slice A2 n2 c2, .slice A3 n3 c3]] := hM
 refine RW.st (Ex.lenN st166.1 rfl rfl) rfl <| RW.st (Ex.move (.int .i64 0) rfl) rfl <| RW.nil <| CW.block ?_
 obtain ⟨m38, hm⟩ := hm
 skip
 refine CW.loop (β := Nat) (fun n σ w => ∃ (v13 : Int), ∃ Hk11, H.le Hk11 ∧ (∃ τ, σ = sl [(2, .pointer (some ⟨b7, 0, none⟩)), (3, .pointer (some ⟨b8, 0, none⟩)), (11, .slice (some ⟨b9, 0, none⟩) 2 2), (12, .int .i64 ((([x0, x1] : List api_Point).length : Int))), (13, .int .i64 v13)] τ) ∧ Mem w0 H w Hk11 [.box b7 27 [.int .i64 x0.Site, .slice A1 n1 c1, .slice A2 n2 c2, .slice A3 n3 c3], .box b8 27 [.int .i64 x1.Site, .slice A4 n4 c4, .slice A5 n5 c5, .slice A6 n6 c6], .row (.slice (some ⟨b9, 0, none⟩) 2 2) 27 4 2 [.int .i64 x0.Site, .slice A1 n1 c1, .slice A2 n2 c2, .slice A3 n3 c3, .int .i64 x1.Site, .slice A4 n4 c4, .slice A5 n5 c5, .slice A6 n6 c6]] ∧ LoopN (delta_Between_L1 x0 x1 Φ) n (v13)) (fun n => n) m38 ⟨0, H, (Hp.le.refl _), sl_canon ⟨rfl, rfl, rfl, rfl, rfl, trivial⟩, (hM.pick [2, 1, 0] rfl rfl), hm⟩ ?_
 rintro k14 _ w ⟨v13, Hk11, hle12, ⟨τ, rfl⟩, hM, hm⟩
 obtain _ | k14 := k14
 · exact hm.elim
 replace hm : (delta_Between_L1 x0 x1 Φ) (v13) (LoopN (delta_Between_L1 x0 x1 Φ) k14) := hm
 generalize hrec15 : LoopN (delta_Between_L1 x0 x1 Φ) k14 = rec1 at hm
 refine CW.seq <| CW.region <| RW.st (Ex.lss rfl rfl) rfl <| RW.nil <| CW.seq ?_
 refine CW.cond_dec (p := v13 < (([x0, x1] : List api_Point).length : Int)) rfl (fun hc16 => ?_) (fun hc16 => ?_)
 ·
  replace hm := And.left hm hc16
  refine CW.skip <| CW.seq <| CW.block <| CW.seq <| CW.region ?_
  obtain ⟨hg17, hm⟩ := hm
  refine RW.st (Ex.index st166 rfl rfl v13.toNat (hM.rowNeD (α := api_Point) (p := 2) rfl rfl hg17) hg17.nat (Nat.lt_of_lt_of_eq hg17.lt (rfl).symm)) rfl ?_
  obtain ⟨_, ⟨A18, n18, c18, s18, A19, n19, c19, s19, A20, n20, c20, s20, rfl, hF18, hF19, hF20⟩, hx21⟩ := DtL.getI (α := api_Point) (hd10.mono hle12) hg17
  refine RW.st (Ex.loadRA hM 2 rfl [.int .i64 ((ix ([x0, x1] : List api_Point) v13).Site), .slice A18 n18 c18, .slice A19 n19 c19, .slice A20 n20 c20] ta27 (hM.rowNeD (α := api_Point) (p := 2) rfl rfl hg17) rfl rfl (chunk_sub (off := 0) (n := 4) hx21 rfl)) rfl ?_
  refine RW.alloc hM tz27 [.int .i64 0, .slice none 0 0, .slice none 0 0, .slice none 0 0] rfl rfl rfl ?_; intro b22 w hM
  replace hM : Mem w0 H w Hk11 [.box b22 27 [.int .i64 0, .slice none 0 0, .slice none 0 0, .slice none 0 0], .box b7 27 [.int .i64 x0.Site, .slice A1 n1 c1, .slice A2 n2 c2, .slice A3 n3 c3], .box b8 27 [.int .i64 x1.Site, .slice A4 n4 c4, .slice A5 n5 c5, .slice A6 n6 c6], .row (.slice (some ⟨b9, 0, none⟩) 2 2) 27 4 2 [.int .i64 x0.Site, .slice A1 n1 c1, .slice A2 n2 c2, .slice A3 n3 c3, .int .i64 x1.Site, .slice A4 n4 c4, .slice A5 n5 c5, .slice A6 n6 c6]] := hM
  refine RW.store hM 0 (.agg #[.int .i64 ((ix ([x0, x1] : List api_Point) v13).Site), .slice A18 n18 c18, .slice A19 n19 c19, .slice A20 n20 c20]) [.int .i64 ((ix ([x0, x1] : List api_Point) v13).Site), .slice A18 n18 c18, .slice A19 n19 c19, .slice A20 n20 c20] [.int .i64 ((ix ([x0, x1] : List api_Point) v13).Site), .slice A18 n18 c18, .slice A19 n19 c19, .slice A20 n20 c20] sz27 rfl rfl rfl (oneAll ⟨rfl, rfl, rfl, rfl, trivial⟩) rfl (Nat.le_of_ble_eq_true rfl) rfl [.box b22 27 [.int .i64 ((ix ([x0, x1] : List api_Point) v13).Site), .slice A18 n18 c18, .slice A19 n19 c19, .slice A20 n20 c20], .box b7 27 [.int .i64 x0.Site, .slice A1 n1 c1, .slice A2 n2 c2, .slice A3 n3 c3], .box b8 27 [.int .i64 x1.Site, .slice A4 n4 c4, .slice A5 n5 c5, .slice A6 n6 c6], .row (.slice (some ⟨b9, 0, none⟩) 2 2) 27 4 2 [.int .i64 x0.Site, .slice A1 n1 c1, .slice A2 n2 c2, .slice A3 n3 c3, .int .i64 x1.Site, .slice A4 n4 c4, .slice A5 n5 c5, .slice A6 n6 c6]] rfl rfl rfl ?_; intro w hM
  refine RW.nil <| CW.seq <| CW.region <| RW.st (Ex.loadA hM 0 [.int .i64 ((ix ([x0, x1] : List api_Point) v13).Site), .slice A18 n18 c18, .slice A19 n19 c19, .slice A20 n20 c20] ta27 rfl rfl rfl rfl) rfl ?_
  refine RW.callP hM (delta_Check_lift (ix ([x0, x1] : List api_Point) v13) hF18 hF19 hF20 hm) en40 rfl rfl rfl rfl ?_; rintro _ w H24 _ hle25 ⟨v23, hm, rfl, rfl⟩ hM
  replace hM : Mem w0 H w H24 [.box b22 27 [.int .i64 ((ix ([x0, x1] : List api_Point) v13).Site), .slice A18 n18 c18, .slice A19 n19 c19, .slice A20 n20 c20], .box b7 27 [.int .i64 x0.Site, .slice A1 n1 c1, .slice A2 n2 c2, .slice A3 n3 c3], .box b8 27 [.int .i64 x1.Site, .slice A4 n4 c4, .slice A5 n5 c5, .slice A6 n6 c6], .row (.slice (some ⟨b9, 0, none⟩) 2 2) 27 4 2 [.int .i64 x0.Site, .slice A1 n1 c1, .slice A2 n2 c2, .slice A3 n3 c3, .int .i64 x1.Site, .slice A4 n4 c4, .slice A5 n5 c5, .slice A6 n6 c6]] := hM
  refine RW.st (Ex.assign (.int .i64 v23) rfl) rfl <| RW.nil <| CW.seq <| CW.region <| RW.st (Ex.move (.int .i64 v23) rfl) rfl <| RW.st (Ex.neq rfl rfl) rfl <| RW.nil ?_
  refine CW.cond_dec (p := v23 ≠ 0) rfl (fun hc26 => ?_) (fun hc26 => ?_)
  ·
   replace hm := And.left hm hc26
   refine CW.seq <| CW.region <| RW.st (Ex.move (.int .i64 v23) rfl) rfl <| RW.st (Ex.assign (.slice none 0 0) rfl) rfl <| RW.st (Ex.assign (.int .i64 v23) rfl) rfl <| RW.nil <| CW.ret ?_
   refine blockQ_ret (thenQ_ret (thenQ_ret (blockQ_ret (thenQ_ret ?_))))
   refine end_tmp2 (.inl rfl) rfl (.slice none 0 0) (.int .i64 v23) rfl rfl ?_
   replace hM := hM.nilRow 68 1
   exact ⟨_, _, (hM.pick [0] rfl rfl), (([] : List (List api_Extent)), v23), hm, none, 0, 0, [], rfl, (DtL.nil : DtL _ [] ([] : List (List api_Extent))), rfl, rfl⟩
  ·
   replace hm := And.right hm hc26
   refine CW.skip <| CW.region ?_
   obtain ⟨hg27, hm⟩ := hm
   refine RW.st (Ex.add rfl rfl hg27.1 hg27.2) rfl <| RW.st (Ex.move (.int .i64 (v13 + 1)) rfl) rfl <| RW.nil ?_
   exact And.intro rfl ⟨k14, ⟨v13 + 1, H24, hle12.trans hle25, sl_canon ⟨rfl, rfl, rfl, rfl, rfl, trivial⟩, (hM.pick [1, 2, 3] rfl rfl), (by rw [hrec15]; exact hm)⟩, Nat.lt_succ_self _⟩
 ·
  replace hm := And.right hm hc16
  refine CW.exit ?_
  refine CW.seq <| CW.seq <| CW.region <| RW.st (Ex.fieldAddr fa27_3 rfl) rfl <| RW.st (Ex.load1 hM 0 to25 rfl rfl rfl) rfl <| RW.st (Ex.fieldAddr fa27_3 rfl) rfl <| RW.st (Ex.load1 hM 1 to25 rfl rfl rfl) rfl ?_
  refine RW.callP hM (delta_alike_lift x0.Image x1.Image (hF3.mono hle12) (hF6.mono hle12) hm) en98 rfl rfl rfl rfl ?_; rintro _ w H29 _ hle30 ⟨v28, hm, rfl, rfl⟩ hM
  replace hM : Mem w0 H w H29 [.box b7 27 [.int .i64 x0.Site, .slice A1 n1 c1, .slice A2 n2 c2, .slice A3 n3 c3], .box b8 27 [.int .i64 x1.Site, .slice A4 n4 c4, .slice A5 n5 c5, .slice A6 n6 c6], .row (.slice (some ⟨b9, 0, none⟩) 2 2) 27 4 2 [.int .i64 x0.Site, .slice A1 n1 c1, .slice A2 n2 c2, .slice A3 n3 c3, .int .i64 x1.Site, .slice A4 n4 c4, .slice A5 n5 c5, .slice A6 n6 c6]] := hM
  refine RW.st (Ex.not (p := v28 = true) (bvar _)) rfl <| RW.nil ?_
  refine CW.cond_dec (p := ¬ (v28 = true)) rfl (fun hc31 => ?_) (fun hc31 => ?_)
  ·
   replace hm := And.left hm hc31
   refine CW.seq <| CW.region <| RW.st (Ex.assign (.slice none 0 0) rfl) rfl <| RW.st (Ex.assign (.int .i64 22) rfl) rfl <| RW.nil <| CW.ret ?_
   refine thenQ_ret ?_
   refine end_tmp2 (.inl rfl) rfl (.slice none 0 0) (.int .i64 22) rfl rfl ?_
   replace hM := hM.nilRow 68 1
   exact ⟨_, _, (hM.pick [0] rfl rfl), (([] : List (List api_Extent)), 22), hm, none, 0, 0, [], rfl, (DtL.nil : DtL _ [] ([] : List (List api_Extent))), rfl, rfl⟩
  ·
   replace hm := And.right hm hc31
   refine CW.skip <| CW.seq <| CW.region <| RW.st (Ex.loadA hM 0 [.int .i64 x0.Site, .slice A1 n1 c1, .slice A2 n2 c2, .slice A3 n3 c3] ta27 rfl rfl rfl rfl) rfl <| RW.st (Ex.loadA hM 1 [.int .i64 x1.Site, .slice A4 n4 c4, .slice A5 n5 c5, .slice A6 n6 c6] ta27 rfl rfl rfl rfl) rfl ?_
   refine RW.callP hM (delta_marked_lift (hT.mono (hle12.trans hle30)) x0 x1 (hF1.mono (hle12.trans hle30)) (hF2.mono (hle12.trans hle30)) (hF3.mono (hle12.trans hle30)) (hF4.mono (hle12.trans hle30)) (hF5.mono (hle12.trans hle30)) (hF6.mono (hle12.trans hle30)) hm) en99 rfl rfl rfl rfl ?_; rintro _ w H33 _ hle34 ⟨v32, hm, A35, n35, c35, s35, rfl, hd36, hn37, rfl⟩ hM
   replace hM : Mem w0 H w H33 [.row (.slice A35 n35 c35) 68 1 n35 s35, .box b7 27 [.int .i64 x0.Site, .slice A1 n1 c1, .slice A2 n2 c2, .slice A3 n3 c3], .box b8 27 [.int .i64 x1.Site, .slice A4 n4 c4, .slice A5 n5 c5, .slice A6 n6 c6], .row (.slice (some ⟨b9, 0, none⟩) 2 2) 27 4 2 [.int .i64 x0.Site, .slice A1 n1 c1, .slice A2 n2 c2, .slice A3 n3 c3, .int .i64 x1.Site, .slice A4 n4 c4, .slice A5 n5 c5, .slice A6 n6 c6]] := hM
   refine RW.st (Ex.assign (.slice A35 n35 c35) rfl) rfl <| RW.st (Ex.assign (.int .i64 0) rfl) rfl <| RW.nil <| CW.ret ?_
   refine end_tmp2 (.inl rfl) rfl (.slice A35 n35 c35) (.int .i64 0) rfl rfl ?_
   exact ⟨_, _, (hM.pick [0] rfl rfl), (v32, 0), hm, A35, n35, c35, s35, rfl, hd36, hn37, rfl⟩
theorem coalesce_Check_1_lift {H : Hp} (x0 : api_Write) (y800 : List (List Sec)) {A1 : Option Addr} {n1 c1 : Nat} {s1 : List Value} (hF1 : Fz (α := Sec) H A1 n1 c1 x0.Data s1) {A2 : Option Addr} {n2 c2 : Nat} {s2 : List Value} (hF2 : Fz (α := List Sec) H A2 n2 c2 y800 s2) {b800 : Nat} (hb800 : H b800 = some (.cells [.slice A2 n2 c2].toArray 25 (0, 0))) {Φ : Int → Prop} (hm : coalesce_Check_1_W x0 y800 Φ) : RetP Tryd.prog 143 #[.agg #[.int .i64 x0.Volume, .int .i64 x0.Start, .slice A1 n1 c1], .pointer (some ⟨b800, 0, none⟩)] H (fun _ v L => ∃ y, Φ y ∧ v = .int .i64 (y) ∧ L = []) := by
 refine RetP.of_code Tryd.func143 rfl (Nat.le_of_ble_eq_true rfl) fun w0 hM => ?_
 refine CW.seq <| CW.region ?_
 refine RW.box hM (.agg #[.int .i64 x0.Volume, .int .i64 x0.Start, .slice A1 n1 c1]) [.int .i64 x0.Volume, .int .i64 x0.Start, .slice A1 n1 c1] rfl rfl rfl rfl ?_; intro b3 w hM
 replace hM : Mem w0 H w H [.box b3 100 [.int .i64 x0.Volume, .int .i64 x0.Start, .slice A1 n1 c1]] := hM
 refine RW.st (Ex.assign (.int .i64 0) rfl) rfl <| RW.nil <| CW.seq <| CW.region <| RW.st (Ex.loadH hM (Hp.le.refl _) hb800 to25 rfl rfl) rfl <| RW.st (Ex.loadA hM 0 [.int .i64 x0.Volume, .int .i64 x0.Start, .slice A1 n1 c1] ta100 rfl rfl rfl rfl) rfl ?_
 refine RW.callP hM (image_Fits_lift y800 x0 hF2 hF1 hm) en144 rfl rfl rfl rfl ?_; rintro _ w H5 _ hle6 ⟨v4, hm, rfl, rfl⟩ hM
 replace hM : Mem w0 H w H5 [.box b3 100 [.int .i64 x0.Volume, .int .i64 x0.Start, .slice A1 n1 c1]] := hM
 refine RW.st (Ex.assign (.int .i64 v4) rfl) rfl <| RW.nil <| CW.ret ?_
 refine end_tmp (.inl rfl) rfl (.int .i64 v4) rfl ?_
 exact ⟨_, _, (hM.pick [] rfl rfl), v4, hm, rfl, rfl⟩
end Go.Proofs.YtahlanamngfkcaaDoor

namespace Go.Proofs.YtahlanamngfkcaaDoor
open Go.RowKit
theorem reverse_Extents_lift {H : Hp} (hT : TabH H 0) (x0 : api_Point) (x1 : api_Point) {A1 : Option Addr} {n1 c1 : Nat} {s1 : List Value} (hF1 : Fz (α := api_Span) H A1 n1 c1 x0.Lineage s1) {A2 : Option Addr} {n2 c2 : Nat} {s2 : List Value} (hF2 : Fz (α := api_Bitmap) H A2 n2 c2 x0.Dirty s2) {A3 : Option Addr} {n3 c3 : Nat} {s3 : List Value} (hF3 : Fz (α := List Sec) H A3 n3 c3 x0.Image s3) {A4 : Option Addr} {n4 c4 : Nat} {s4 : List Value} (hF4 : Fz (α := api_Span) H A4 n4 c4 x1.Lineage s4) {A5 : Option Addr} {n5 c5 : Nat} {s5 : List Value} (hF5 : Fz (α := api_Bitmap) H A5 n5 c5 x1.Dirty s5) {A6 : Option Addr} {n6 c6 : Nat} {s6 : List Value} (hF6 : Fz (α := List Sec) H A6 n6 c6 x1.Image s6) {Φ : List (List api_Extent) × Int → Prop} (hm : reverse_Extents_W x0 x1 Φ) : RetP Tryd.prog 14 #[.agg #[.int .i64 x0.Site, .slice A1 n1 c1, .slice A2 n2 c2, .slice A3 n3 c3], .agg #[.int .i64 x1.Site, .slice A4 n4 c4, .slice A5 n5 c5, .slice A6 n6 c6]] H (fun H' v L => ∃ y, Φ y ∧ ∃ A15, ∃ n15, ∃ c15, ∃ s15, v = .tuple #[.slice A15 n15 c15, .int .i64 (y.2)] ∧ DtL (α := List api_Extent) H' s15 y.1 ∧ n15 = y.1.length ∧ L = [.row (.slice A15 n15 c15) 68 1 n15 s15]) := by
 refine RetP.of_code Tryd.func14 rfl (Nat.le_of_ble_eq_true rfl) fun w0 hM => ?_
 refine CW.seq <| CW.region ?_
 refine RW.box hM (.agg #[.int .i64 x0.Site, .slice A1 n1 c1, .slice A2 n2 c2, .slice A3 n3 c3]) [.int .i64 x0.Site, .slice A1 n1 c1, .slice A2 n2 c2, .slice A3 n3 c3] rfl rfl rfl rfl ?_; intro b7 w hM
 replace hM : Mem w0 H w H [.box b7 27 [.int .i64 x0.Site, .slice A1 n1 c1, .slice A2 n2 c2, .slice A3 n3 c3]] := hM
 refine RW.box hM (.agg #[.int .i64 x1.Site, .slice A4 n4 c4, .slice A5 n5 c5, .slice A6 n6 c6]) [.int .i64 x1.Site, .slice A4 n4 c4, .slice A5 n5 c5, .slice A6 n6 c6] rfl rfl rfl rfl ?_; intro b8 w hM
 replace hM : Mem w0 H w H [.box b8 27 [.int .i64 x1.Site, .slice A4 n4 c4, .slice A5 n5 c5, .slice A6 n6 c6], .box b7 27 [.int .i64 x0.Site, .slice A1 n1 c1, .slice A2 n2 c2, .slice A3 n3 c3]] := hM
 refine RW.st (Ex.assign (.slice none 0 0) rfl) rfl <| RW.st (Ex.assign (.int .i64 0) rfl) rfl <| RW.nil <| CW.seq <| CW.region <| RW.st (Ex.loadA hM 1 [.int .i64 x0.Site, .slice A1 n1 c1, .slice A2 n2 c2, .slice A3 n3 c3] ta27 rfl rfl rfl rfl) rfl <| RW.st (Ex.loadA hM 0 [.int .i64 x1.Site, .slice A4 n4 c4, .slice A5 n5 c5, .slice A6 n6 c6] ta27 rfl rfl rfl rfl) rfl ?_
 refine RW.callP hM (delta_Between_lift hT x0 x1 hF1 hF2 hF3 hF4 hF5 hF6 hm) en47 rfl rfl rfl rfl ?_; rintro _ w H10 _ hle11 ⟨v9, hm, A12, n12, c12, s12, rfl, hd13, hn14, rfl⟩ hM
 replace hM : Mem w0 H w H10 [.row (.slice A12 n12 c12) 68 1 n12 s12, .box b8 27 [.int .i64 x1.Site, .slice A4 n4 c4, .slice A5 n5 c5, .slice A6 n6 c6], .box b7 27 [.int .i64 x0.Site, .slice A1 n1 c1, .slice A2 n2 c2, .slice A3 n3 c3]] := hM
 refine RW.st (Ex.extract rfl rfl) rfl <| RW.st (Ex.extract rfl rfl) rfl <| RW.st (Ex.assign (.slice A12 n12 c12) rfl) rfl <| RW.st (Ex.assign (.int .i64 v9.2) rfl) rfl <| RW.nil <| CW.ret ?_
 refine end_tmp2 (.inl rfl) rfl (.slice A12 n12 c12) (.int .i64 v9.2) rfl rfl ?_
 exact ⟨_, _, (hM.pick [0] rfl rfl), (v9.1, v9.2), hm, A12, n12, c12, s12, rfl, hd13, hn14, rfl⟩
theorem coalesce_check__coalesce_Check_1_lift {H : Hp} (x0 : List api_Write) (y910 : List (List Sec)) {A1 : Option Addr} {n1 c1 : Nat} {s1 : List Value} (hF1 : Fz (α := api_Write) H A1 n1 c1 x0 s1) {A2 : Option Addr} {n2 c2 : Nat} {s2 : List Value} (hF2 : Fz (α := List Sec) H A2 n2 c2 y910 s2) {b910 : Nat} (hb910 : H b910 = some (.cells [.slice A2 n2 c2].toArray 25 (0, 0))) {Φ : Int → Prop} (hm : coalesce_check__coalesce_Check_1_W x0 y910 Φ) : RetP Tryd.prog 142 #[.slice A1 n1 c1, .func (.func 143) #[] #[.pointer (some ⟨b910, 0, none⟩)]] H (fun _ v L => ∃ y, Φ y ∧ v = .int .i64 (y) ∧ L = []) := by
 refine RetP.of_code Tryd.func142 rfl (Nat.le_of_ble_eq_true rfl) fun w0 hM => ?_
 refine CW.seq <| CW.region <| RW.st (Ex.assign (.int .i64 0) rfl) rfl <| RW.nil <| CW.seq <| CW.seq <| CW.region <| RW.st (Ex.move (.slice A1 n1 c1) rfl) rfl <| RW.st (Ex.lenN st43.1 rfl hF1.hn) rfl <| RW.st (Ex.move (.int .i64 0) rfl) rfl <| RW.nil <| CW.block ?_
 obtain ⟨m33, hm⟩ := hm
 skip
 refine CW.loop (β := Nat) (fun n σ w => ∃ (v5 : Int), ∃ Hk3, H.le Hk3 ∧ (∃ τ, σ = sl [(0, .slice A1 n1 c1), (1, .func (.func 143) #[] #[.pointer (some ⟨b910, 0, none⟩)]), (9, .slice A1 n1 c1), (10, .int .i64 ((x0.length : Int))), (11, .int .i64 v5)] τ) ∧ Mem w0 H w Hk3 [] ∧ LoopN (coalesce_check__coalesce_Check_1_L1 x0 y910 Φ) n (v5)) (fun n => n) m33 ⟨0, H, (Hp.le.refl _), sl_canon ⟨rfl, rfl, rfl, rfl, rfl, trivial⟩, hM, hm⟩ ?_
 rintro k6 _ w ⟨v5, Hk3, hle4, ⟨τ, rfl⟩, hM, hm⟩
 obtain _ | k6 := k6
 · exact hm.elim
 replace hm : (coalesce_check__coalesce_Check_1_L1 x0 y910 Φ) (v5) (LoopN (coalesce_check__coalesce_Check_1_L1 x0 y910 Φ) k6) := hm
 generalize hrec7 : LoopN (coalesce_check__coalesce_Check_1_L1 x0 y910 Φ) k6 = rec1 at hm
 refine CW.seq <| CW.region <| RW.st (Ex.lss rfl rfl) rfl <| RW.nil <| CW.seq ?_
 refine CW.cond_dec (p := v5 < (x0.length : Int)) rfl (fun hc8 => ?_) (fun hc8 => ?_)
 ·
  replace hm := And.left hm hc8
  refine CW.skip <| CW.seq <| CW.block <| CW.seq <| CW.region <| RW.st (Ex.move (.int .i64 v5) rfl) rfl ?_
  obtain ⟨hg12, hm⟩ := hm
  refine RW.st (Ex.index st43 rfl rfl v5.toNat (hF1.ne hg12) hg12.nat (hF1.lt hg12)) rfl ?_
  obtain ⟨_, ⟨A13, n13, c13, s13, rfl, hF13⟩, hx14⟩ := DtL.getI (α := api_Write) (hF1.mono hle4).dat hg12
  refine RW.st (Ex.loadEA hM hle4 hF1.rdc [.int .i64 ((ix x0 v5).Volume), .int .i64 ((ix x0 v5).Start), .slice A13 n13 c13] ta100 rfl (hF1.ne hg12) rfl (chunk_sub (off := 0) (n := 3) hx14 rfl)) rfl ?_
  refine RW.alloc hM tz100 [.int .i64 0, .int .i64 0, .slice none 0 0] rfl rfl rfl ?_; intro b15 w hM
  replace hM : Mem w0 H w Hk3 [.box b15 100 [.int .i64 0, .int .i64 0, .slice none 0 0]] := hM
  refine RW.st (Ex.assign (.int .i64 v5) rfl) rfl ?_
  refine RW.store hM 0 (.agg #[.int .i64 ((ix x0 v5).Volume), .int .i64 ((ix x0 v5).Start), .slice A13 n13 c13]) [.int .i64 ((ix x0 v5).Volume), .int .i64 ((ix x0 v5).Start), .slice A13 n13 c13] [.int .i64 ((ix x0 v5).Volume), .int .i64 ((ix x0 v5).Start), .slice A13 n13 c13] sz100 rfl rfl rfl (oneAll ⟨rfl, rfl, rfl, trivial⟩) rfl (Nat.le_of_ble_eq_true rfl) rfl [.box b15 100 [.int .i64 ((ix x0 v5).Volume), .int .i64 ((ix x0 v5).Start), .slice A13 n13 c13]] rfl rfl rfl ?_; intro w hM
  refine RW.nil <| CW.seq <| CW.seq <| CW.region <| RW.st (Ex.move (.func (.func 143) #[] #[.pointer (some ⟨b910, 0, none⟩)]) rfl) rfl <| RW.st (Ex.loadA hM 0 [.int .i64 ((ix x0 v5).Volume), .int .i64 ((ix x0 v5).Start), .slice A13 n13 c13] ta100 rfl rfl rfl rfl) rfl ?_
  refine RW.callP hM (coalesce_Check_1_lift (ix x0 v5) y910 hF13 (hF2.mono hle4) (hle4 _ _ hb910) hm) en143 rfl rfl rfl rfl ?_; rintro _ w H17 _ hle18 ⟨v16, hm, rfl, rfl⟩ hM
  replace hM : Mem w0 H w H17 [.box b15 100 [.int .i64 ((ix x0 v5).Volume), .int .i64 ((ix x0 v5).Start), .slice A13 n13 c13]] := hM
  refine RW.st (Ex.assign (.int .i64 v16) rfl) rfl <| RW.nil <| CW.seq <| CW.region <| RW.st (Ex.move (.int .i64 v16) rfl) rfl <| RW.st (Ex.neq rfl rfl) rfl <| RW.nil ?_
  refine CW.cond_dec (p := v16 ≠ 0) rfl (fun hc19 => ?_) (fun hc19 => ?_)
  ·
   replace hm := And.left hm hc19
   refine CW.seq <| CW.region <| RW.st (Ex.move (.int .i64 v16) rfl) rfl <| RW.st (Ex.assign (.int .i64 v16) rfl) rfl <| RW.nil <| CW.ret ?_
   refine thenQ_ret (blockQ_ret (thenQ_ret (thenQ_ret (blockQ_ret (thenQ_ret ?_)))))
   refine end_tmp (.inl rfl) rfl (.int .i64 v16) rfl ?_
   exact ⟨_, _, (hM.pick [] rfl rfl), v16, hm, rfl, rfl⟩
  ·
   replace hm := And.right hm hc19
   refine CW.skip <| CW.seq <| CW.seq <| CW.region <| RW.st (Ex.move (.int .i64 v5) rfl) rfl <| RW.st (Ex.eql rfl rfl) rfl <| RW.nil ?_
   refine CW.cond_dec (p := v5 = 0) rfl (fun hc20 => ?_) (fun hc20 => ?_)
   ·
    replace hm := And.left hm hc20
    refine CW.exit ?_
    refine CW.region ?_
    obtain ⟨hg21, hm⟩ := hm
    refine RW.st (Ex.add rfl rfl hg21.1 hg21.2) rfl <| RW.st (Ex.move (.int .i64 (v5 + 1)) rfl) rfl <| RW.nil ?_
    exact And.intro rfl ⟨k6, ⟨v5 + 1, H17, hle4.trans hle18, sl_canon ⟨rfl, rfl, rfl, rfl, rfl, trivial⟩, (hM.pick [] rfl rfl), (by rw [hrec7]; exact hm)⟩, Nat.lt_succ_self _⟩
   ·
    replace hm := And.right hm hc20
    refine CW.skip <| CW.seq <| CW.region <| RW.st (Ex.move (.slice A1 n1 c1) rfl) rfl <| RW.st (Ex.move (.int .i64 v5) rfl) rfl ?_
    obtain ⟨hg22, hm⟩ := hm
    refine RW.st (Ex.sub rfl rfl hg22.1 hg22.2) rfl ?_
    obtain ⟨hg23, hm⟩ := hm
    refine RW.st (Ex.index st43 rfl rfl ((v5 - 1).toNat) (hF1.ne hg23) hg23.nat (hF1.lt hg23)) rfl ?_
    obtain ⟨_, ⟨A24, n24, c24, s24, rfl, hF24⟩, hx25⟩ := DtL.getI (α := api_Write) (hF1.mono (hle4.trans hle18)).dat hg23
    refine RW.st (Ex.loadEA hM (hle4.trans hle18) hF1.rdc [.int .i64 ((ix x0 (v5 - 1)).Volume), .int .i64 ((ix x0 (v5 - 1)).Start), .slice A24 n24 c24] ta100 rfl (hF1.ne hg23) rfl (chunk_sub (off := 0) (n := 3) hx25 rfl)) rfl ?_
    refine RW.alloc hM tz100 [.int .i64 0, .int .i64 0, .slice none 0 0] rfl rfl rfl ?_; intro b26 w hM
    replace hM : Mem w0 H w H17 [.box b26 100 [.int .i64 0, .int .i64 0, .slice none 0 0], .box b15 100 [.int .i64 ((ix x0 v5).Volume), .int .i64 ((ix x0 v5).Start), .slice A13 n13 c13]] := hM
    refine RW.store hM 0 (.agg #[.int .i64 ((ix x0 (v5 - 1)).Volume), .int .i64 ((ix x0 (v5 - 1)).Start), .slice A24 n24 c24]) [.int .i64 ((ix x0 (v5 - 1)).Volume), .int .i64 ((ix x0 (v5 - 1)).Start), .slice A24 n24 c24] [.int .i64 ((ix x0 (v5 - 1)).Volume), .int .i64 ((ix x0 (v5 - 1)).Start), .slice A24 n24 c24] sz100 rfl rfl rfl (oneAll ⟨rfl, rfl, rfl, trivial⟩) rfl (Nat.le_of_ble_eq_true rfl) rfl [.box b26 100 [.int .i64 ((ix x0 (v5 - 1)).Volume), .int .i64 ((ix x0 (v5 - 1)).Start), .slice A24 n24 c24], .box b15 100 [.int .i64 ((ix x0 v5).Volume), .int .i64 ((ix x0 v5).Start), .slice A13 n13 c13]] rfl rfl rfl ?_; intro w hM
    refine RW.nil ?_
    obtain ⟨hG32, hm⟩ := hm
    refine CW.cut (fun D σ w => D = [] ∧ (∃ τ, σ = sl [(0, .slice A1 n1 c1), (1, .func (.func 143) #[] #[.pointer (some ⟨b910, 0, none⟩)]), (9, .slice A1 n1 c1), (10, .int .i64 ((x0.length : Int))), (11, .int .i64 v5), (51, .bool (decide ((((ix x0 v5).Volume) < ((ix x0 (v5 - 1)).Volume)) ∨ ((((ix x0 v5).Volume) = ((ix x0 (v5 - 1)).Volume)) ∧ (((ix x0 v5).Start) ≤ (((ix x0 (v5 - 1)).Start) + (((ix x0 (v5 - 1)).Data).length : Int)))))))] τ) ∧ Mem w0 H w H17 [.box b26 100 [.int .i64 ((ix x0 (v5 - 1)).Volume), .int .i64 ((ix x0 (v5 - 1)).Start), .slice A24 n24 c24], .box b15 100 [.int .i64 ((ix x0 v5).Volume), .int .i64 ((ix x0 v5).Start), .slice A13 n13 c13]]) ?_ ?_
    ·
     replace hm := hG32
     refine CW.region <| RW.st (Ex.fieldAddr fa100_0 rfl) rfl <| RW.st (Ex.load1 hM 1 to3 rfl rfl rfl) rfl <| RW.st (Ex.fieldAddr fa100_0 rfl) rfl <| RW.st (Ex.load1 hM 0 to3 rfl rfl rfl) rfl <| RW.st (Ex.lss rfl rfl) rfl <| RW.st (Ex.move (.bool (decide (((ix x0 v5).Volume) < ((ix x0 (v5 - 1)).Volume)))) rfl) rfl ?_
     refine RW.split 34 (p := ((ix x0 v5).Volume) < ((ix x0 (v5 - 1)).Volume)) rfl (fun hc27 => ?_) (fun hc27 => ?_)
     ·
      skip
      refine RW.pass rfl rfl <| RW.pass rfl rfl <| RW.pass rfl rfl <| RW.pass rfl rfl <| RW.pass rfl rfl <| RW.pass rfl rfl <| RW.pass rfl rfl <| RW.pass rfl rfl <| RW.pass rfl rfl <| RW.pass rfl rfl <| RW.pass rfl rfl <| RW.pass rfl rfl <| RW.pass rfl rfl <| RW.pass rfl rfl ?_
      refine RW.pass rfl rfl <| RW.pass rfl rfl <| RW.st (Ex.pickT (.bool true) rfl rfl) rfl <| RW.nil ?_
      exact And.intro rfl (And.intro (sl_canon ⟨rfl, rfl, rfl, rfl, rfl, (congrArg Value.bool (decide_eq_true (.inl hc27)).symm), trivial⟩) hM)
     ·
      replace hm := hm hc27
      refine RW.st (Ex.fieldAddr fa100_0 rfl) rfl <| RW.st (Ex.load1 hM 1 to3 rfl rfl rfl) rfl <| RW.st (Ex.fieldAddr fa100_0 rfl) rfl <| RW.st (Ex.load1 hM 0 to3 rfl rfl rfl) rfl <| RW.st (Ex.eql rfl rfl) rfl <| RW.st (Ex.move (.bool (decide (((ix x0 v5).Volume) = ((ix x0 (v5 - 1)).Volume)))) rfl) rfl ?_
      refine RW.split 40 (p := ((ix x0 v5).Volume) = ((ix x0 (v5 - 1)).Volume)) rfl (fun hc28 => ?_) (fun hc28 => ?_)
      ·
       replace hm := hm hc28
       refine RW.st (Ex.fieldAddr fa100_1 rfl) rfl <| RW.st (Ex.load1 hM 1 to3 rfl rfl rfl) rfl <| RW.st (Ex.fieldAddr fa100_1 rfl) rfl <| RW.st (Ex.load1 hM 0 to3 rfl rfl rfl) rfl <| RW.st (Ex.fieldAddr fa100_2 rfl) rfl <| RW.st (Ex.load1 hM 0 to61 rfl rfl rfl) rfl <| RW.st (Ex.lenN st61.1 rfl hF24.hn) rfl ?_
       have hg29 := hm
       refine RW.st (Ex.add rfl rfl hg29.1 hg29.2) rfl <| RW.st (Ex.leq rfl rfl) rfl <| RW.st (Ex.pickT (.bool (decide (((ix x0 v5).Start) ≤ (((ix x0 (v5 - 1)).Start) + (((ix x0 (v5 - 1)).Data).length : Int))))) rfl rfl) rfl <| RW.st (Ex.pickF (.bool (decide (((ix x0 v5).Start) ≤ (((ix x0 (v5 - 1)).Start) + (((ix x0 (v5 - 1)).Data).length : Int))))) rfl rfl) rfl <| RW.nil ?_
       exact And.intro rfl (And.intro (sl_canon ⟨rfl, rfl, rfl, rfl, rfl, (congrArg Value.bool (decide_eq_decide.2 (imOr hc27 (imAnd hc28 Iff.rfl)))), trivial⟩) hM)
      ·
       skip
       refine RW.pass rfl rfl <| RW.pass rfl rfl <| RW.pass rfl rfl <| RW.pass rfl rfl <| RW.pass rfl rfl <| RW.pass rfl rfl <| RW.pass rfl rfl <| RW.pass rfl rfl <| RW.pass rfl rfl <| RW.st (Ex.pickF (.bool false) rfl rfl) rfl <| RW.st (Ex.pickF (.bool false) rfl rfl) rfl <| RW.nil ?_
       exact And.intro rfl (And.intro (sl_canon ⟨rfl, rfl, rfl, rfl, rfl, (congrArg Value.bool (decide_eq_false (fun q => q.elim hc27 (fun q => hc28 q.1))).symm), trivial⟩) hM)
    rintro _ _ w ⟨rfl, ⟨τ, rfl⟩, hM⟩
    refine CW.cond_dec (p := (((ix x0 v5).Volume) < ((ix x0 (v5 - 1)).Volume)) ∨ ((((ix x0 v5).Volume) = ((ix x0 (v5 - 1)).Volume)) ∧ (((ix x0 v5).Start) ≤ (((ix x0 (v5 - 1)).Start) + (((ix x0 (v5 - 1)).Data).length : Int))))) rfl (fun hc30 => ?_) (fun hc30 => ?_)
    ·
     replace hm := And.left hm hc30
     refine CW.seq <| CW.region <| RW.st (Ex.assign (.int .i64 3) rfl) rfl <| RW.nil <| CW.ret ?_
     refine blockQ_ret (thenQ_ret (thenQ_ret (blockQ_ret (thenQ_ret ?_))))
     refine end_tmp (.inl rfl) rfl (.int .i64 3) rfl ?_
     exact ⟨_, _, (hM.pick [] rfl rfl), 3, hm, rfl, rfl⟩
    ·
     replace hm := And.right hm hc30
     refine CW.skip <| CW.region ?_
     obtain ⟨hg31, hm⟩ := hm
     refine RW.st (Ex.add rfl rfl hg31.1 hg31.2) rfl <| RW.st (Ex.move (.int .i64 (v5 + 1)) rfl) rfl <| RW.nil ?_
     exact And.intro rfl ⟨k6, ⟨v5 + 1, H17, hle4.trans hle18, sl_canon ⟨rfl, rfl, rfl, rfl, rfl, trivial⟩, (hM.pick [] rfl rfl), (by rw [hrec7]; exact hm)⟩, Nat.lt_succ_self _⟩
 ·
  replace hm := And.right hm hc8
  refine CW.exit ?_
  refine CW.seq <| CW.region <| RW.st (Ex.assign (.int .i64 0) rfl) rfl <| RW.nil <| CW.ret ?_
  refine end_tmp (.inl rfl) rfl (.int .i64 0) rfl ?_
  exact ⟨_, _, hM, 0, hm, rfl, rfl⟩
end Go.Proofs.YtahlanamngfkcaaDoor

namespace Go.Proofs.YtahlanamngfkcaaDoor
open Go.RowKit
theorem coalesce_Check_lift {H : Hp} (x0 : List api_Write) (x1 : List Int) {A1 : Option Addr} {n1 c1 : Nat} {s1 : List Value} (hF1 : Fz (α := api_Write) H A1 n1 c1 x0 s1) {A2 : Option Addr} {n2 c2 : Nat} {s2 : List Value} (hF2 : Fz (α := Int) H A2 n2 c2 x1 s2) {Φ : Int → Prop} (hm : coalesce_Check_W x0 x1 Φ) : RetP Tryd.prog 105 #[.slice A1 n1 c1, .slice A2 n2 c2] H (fun _ v L => ∃ y, Φ y ∧ v = .int .i64 (y) ∧ L = []) := by
 refine RetP.of_code Tryd.func105 rfl (Nat.le_of_ble_eq_true rfl) fun w0 hM => ?_
 refine CW.seq <| CW.region <| RW.st (Ex.assign (.int .i64 0) rfl) rfl <| RW.nil <| CW.seq <| CW.region <| RW.st (Ex.move (.slice A2 n2 c2) rfl) rfl ?_
 refine RW.callP hM (image_New_lift x1 hF2 hm) en102 rfl rfl rfl rfl ?_; rintro _ w H4 _ hle5 ⟨v3, hm, A6, n6, c6, s6, rfl, hF6, rfl⟩ hM
 replace hM : Mem w0 H w H4 [] := hM
 refine RW.st (Ex.move (.tuple #[.slice A6 n6 c6, .int .i64 v3.2]) rfl) rfl <| RW.st (Ex.extract rfl rfl) rfl <| RW.st (Ex.extract rfl rfl) rfl ?_
 refine RW.alloc hM tz25 [.slice none 0 0] rfl rfl rfl ?_; intro b7 w hM
 replace hM : Mem w0 H w H4 [.box b7 25 [.slice none 0 0]] := hM
 refine RW.store hM 0 (.slice A6 n6 c6) [.slice A6 n6 c6] [.slice A6 n6 c6] sz25 rfl rfl rfl (oneAll ⟨rfl, trivial⟩) rfl (Nat.le_of_ble_eq_true rfl) rfl [.box b7 25 [.slice A6 n6 c6]] rfl rfl rfl ?_; intro w hM
 refine RW.st (Ex.assign (.int .i64 v3.2) rfl) rfl <| RW.nil <| CW.seq <| CW.seq <| CW.region <| RW.st (Ex.move (.int .i64 v3.2) rfl) rfl <| RW.st (Ex.neq rfl rfl) rfl <| RW.nil ?_
 refine CW.cond_dec (p := v3.2 ≠ 0) rfl (fun hc8 => ?_) (fun hc8 => ?_)
 ·
  replace hm := And.left hm hc8
  refine CW.seq <| CW.region <| RW.st (Ex.move (.int .i64 v3.2) rfl) rfl <| RW.st (Ex.assign (.int .i64 v3.2) rfl) rfl <| RW.nil <| CW.ret ?_
  refine thenQ_ret ?_
  refine end_tmp (.inl rfl) rfl (.int .i64 v3.2) rfl ?_
  exact ⟨_, _, (hM.pick [] rfl rfl), v3.2, hm, rfl, rfl⟩
 ·
  replace hm := And.right hm hc8
  refine CW.skip <| CW.seq <| CW.region <| RW.st (Ex.move (.slice A1 n1 c1) rfl) rfl <| RW.st (Ex.makeFunc (fs := []) (cs := [.pointer (some ⟨b7, 0, none⟩)]) rfl rfl) rfl ?_
  have hM1 := hM
  obtain ⟨H9, hM, hle10, hb11⟩ := hM.giveBox 0 rfl
  replace hM : Mem w0 H w H9 [] := hM
  refine RW.callB hM1 hM (coalesce_check__coalesce_Check_1_lift x0 v3.1 (hF1.mono (hle5.trans hle10)) (hF6.mono hle10) hb11 hm) en142 rfl rfl rfl rfl ?_; clear hM hM1; intro v12 w hm hM
  replace hM : Mem w0 H w H4 [.box b7 25 [.slice A6 n6 c6]] := hM
  refine RW.st (Ex.assign (.int .i64 v12) rfl) rfl <| RW.nil <| CW.ret ?_
  refine end_tmp (.inl rfl) rfl (.int .i64 v12) rfl ?_
  exact ⟨_, _, (hM.pick [] rfl rfl), v12, hm, rfl, rfl⟩
end Go.Proofs.YtahlanamngfkcaaDoor

namespace Go.Proofs.YtahlanamngfkcaaDoor
open Go.RowKit
theorem cycle_Check_lift {H : Hp} (x0 : api_Cycle) (x1 : List Int) {A1 : Option Addr} {n1 c1 : Nat} {s1 : List Value} (hF1 : Fz (α := Int) H A1 n1 c1 x0.Positions s1) {A2 : Option Addr} {n2 c2 : Nat} {s2 : List Value} (hF2 : Fz (α := api_Write) H A2 n2 c2 x0.Writes s2) {A3 : Option Addr} {n3 c3 : Nat} {s3 : List Value} (hF3 : Fz (α := Int) H A3 n3 c3 x1 s3) {Φ : Int → Prop} (hm : cycle_Check_W x0 x1 Φ) : RetP Tryd.prog 53 #[.agg #[.int .i64 x0.Base, .int .i64 x0.Number, .int .i64 x0.Time, .slice A1 n1 c1, .slice A2 n2 c2], .slice A3 n3 c3] H (fun _ v L => ∃ y, Φ y ∧ v = .int .i64 (y) ∧ L = []) := by
 refine RetP.of_code Tryd.func53 rfl (Nat.le_of_ble_eq_true rfl) fun w0 hM => ?_
 refine CW.seq <| CW.region ?_
 refine RW.box hM (.agg #[.int .i64 x0.Base, .int .i64 x0.Number, .int .i64 x0.Time, .slice A1 n1 c1, .slice A2 n2 c2]) [.int .i64 x0.Base, .int .i64 x0.Number, .int .i64 x0.Time, .slice A1 n1 c1, .slice A2 n2 c2] rfl rfl rfl rfl ?_; intro b4 w hM
 replace hM : Mem w0 H w H [.box b4 45 [.int .i64 x0.Base, .int .i64 x0.Number, .int .i64 x0.Time, .slice A1 n1 c1, .slice A2 n2 c2]] := hM
 refine RW.st (Ex.assign (.int .i64 0) rfl) rfl <| RW.nil <| CW.seq <| CW.seq <| CW.region <| RW.st (Ex.move (.slice A3 n3 c3) rfl) rfl ?_
 refine RW.callP hM (image_New_lift x1 hF3 hm) en102 rfl rfl rfl rfl ?_; rintro _ w H6 _ hle7 ⟨v5, hm, A8, n8, c8, s8, rfl, hF8, rfl⟩ hM
 replace hM : Mem w0 H w H6 [.box b4 45 [.int .i64 x0.Base, .int .i64 x0.Number, .int .i64 x0.Time, .slice A1 n1 c1, .slice A2 n2 c2]] := hM
 refine RW.st (Ex.move (.tuple #[.slice A8 n8 c8, .int .i64 v5.2]) rfl) rfl <| RW.st (Ex.extract rfl rfl) rfl <| RW.st (Ex.extract rfl rfl) rfl <| RW.st (Ex.assign (.slice A8 n8 c8) rfl) rfl <| RW.st (Ex.assign (.int .i64 v5.2) rfl) rfl <| RW.nil <| CW.seq <| CW.region <| RW.st (Ex.move (.int .i64 v5.2) rfl) rfl <| RW.st (Ex.neq rfl rfl) rfl <| RW.nil ?_
 refine CW.cond_dec (p := v5.2 ≠ 0) rfl (fun hc9 => ?_) (fun hc9 => ?_)
 ·
  replace hm := And.left hm hc9
  refine CW.seq <| CW.region <| RW.st (Ex.move (.int .i64 v5.2) rfl) rfl <| RW.st (Ex.assign (.int .i64 v5.2) rfl) rfl <| RW.nil <| CW.ret ?_
  refine thenQ_ret ?_
  refine end_tmp (.inl rfl) rfl (.int .i64 v5.2) rfl ?_
  exact ⟨_, _, (hM.pick [] rfl rfl), v5.2, hm, rfl, rfl⟩
 ·
  replace hm := And.right hm hc9
  refine CW.skip <| CW.seq <| CW.block ?_
  skip
  refine CW.cut (fun D σ w => D = [] ∧ (∃ τ, σ = sl [(1, .slice A3 n3 c3), (2, .pointer (some ⟨b4, 0, none⟩)), (16, .bool (decide ((x0.Base < 0) ∨ ((x0.Number ≤ x0.Base) ∨ (1073741824 < x0.Number)))))] τ) ∧ Mem w0 H w H6 [.box b4 45 [.int .i64 x0.Base, .int .i64 x0.Number, .int .i64 x0.Time, .slice A1 n1 c1, .slice A2 n2 c2]]) ?_ ?_
  ·
   skip
   refine CW.region <| RW.st (Ex.fieldAddr fa45_0 rfl) rfl <| RW.st (Ex.load1 hM 0 to3 rfl rfl rfl) rfl <| RW.st (Ex.lss rfl rfl) rfl <| RW.st (Ex.move (.bool (decide (x0.Base < 0))) rfl) rfl ?_
   refine RW.split 20 (p := x0.Base < 0) rfl (fun hc10 => ?_) (fun hc10 => ?_)
   ·
    skip
    refine RW.pass rfl rfl <| RW.pass rfl rfl <| RW.pass rfl rfl <| RW.pass rfl rfl <| RW.pass rfl rfl <| RW.st (Ex.pickT (.bool true) rfl rfl) rfl <| RW.st (Ex.move (.bool true) rfl) rfl <| RW.pass rfl rfl <| RW.pass rfl rfl <| RW.pass rfl rfl <| RW.st (Ex.pickT (.bool true) rfl rfl) rfl <| RW.st (Ex.assign (.bool true) rfl) rfl <| RW.nil ?_
    exact And.intro rfl (And.intro (sl_canon ⟨rfl, rfl, (congrArg Value.bool (decide_eq_true (.inl hc10)).symm), trivial⟩) hM)
   ·
    skip
    refine RW.st (Ex.fieldAddr fa45_1 rfl) rfl <| RW.st (Ex.load1 hM 0 to3 rfl rfl rfl) rfl <| RW.st (Ex.fieldAddr fa45_0 rfl) rfl <| RW.st (Ex.load1 hM 0 to3 rfl rfl rfl) rfl <| RW.st (Ex.leq rfl rfl) rfl <| RW.st (Ex.pickF (.bool (decide (x0.Number ≤ x0.Base))) rfl rfl) rfl <| RW.st (Ex.move (.bool (decide (x0.Number ≤ x0.Base))) rfl) rfl ?_
    refine RW.split 27 (p := x0.Number ≤ x0.Base) rfl (fun hc11 => ?_) (fun hc11 => ?_)
    ·
     skip
     refine RW.pass rfl rfl <| RW.pass rfl rfl <| RW.pass rfl rfl <| RW.st (Ex.pickT (.bool true) rfl rfl) rfl <| RW.st (Ex.assign (.bool true) rfl) rfl <| RW.nil ?_
     exact And.intro rfl (And.intro (sl_canon ⟨rfl, rfl, (congrArg Value.bool (decide_eq_true (.inr (.inl hc11))).symm), trivial⟩) hM)
    ·
     skip
     refine RW.st (Ex.fieldAddr fa45_1 rfl) rfl <| RW.st (Ex.load1 hM 0 to3 rfl rfl rfl) rfl <| RW.st (Ex.gtr rfl rfl) rfl <| RW.st (Ex.pickF (.bool (decide (1073741824 < x0.Number))) rfl rfl) rfl <| RW.st (Ex.assign (.bool (decide (1073741824 < x0.Number))) rfl) rfl <| RW.nil ?_
     exact And.intro rfl (And.intro (sl_canon ⟨rfl, rfl, (congrArg Value.bool (decide_eq_decide.2 (imOr hc10 (imOr hc11 Iff.rfl)))), trivial⟩) hM)
  rintro _ _ w ⟨rfl, ⟨τ, rfl⟩, hM⟩
  refine CW.cond_dec (p := (x0.Base < 0) ∨ ((x0.Number ≤ x0.Base) ∨ (1073741824 < x0.Number))) rfl (fun hc12 => ?_) (fun hc12 => ?_)
  ·
   replace hm := And.left hm hc12
   refine CW.seq <| CW.region <| RW.st (Ex.assign (.int .i64 2) rfl) rfl <| RW.nil <| CW.ret ?_
   refine blockQ_ret (thenQ_ret ?_)
   refine end_tmp (.inl rfl) rfl (.int .i64 2) rfl ?_
   exact ⟨_, _, (hM.pick [] rfl rfl), 2, hm, rfl, rfl⟩
  ·
   replace hm := And.right hm hc12
   refine CW.seq <| CW.region <| RW.st (Ex.fieldAddr fa45_2 rfl) rfl <| RW.st (Ex.load1 hM 0 to3 rfl rfl rfl) rfl ?_
   refine RW.callP hM (cycle_in_lift x0.Time 0 1073741824 hm) en103 rfl rfl rfl rfl ?_; rintro _ w H14 _ hle15 ⟨v13, hm, rfl, rfl⟩ hM
   replace hM : Mem w0 H w H14 [.box b4 45 [.int .i64 x0.Base, .int .i64 x0.Number, .int .i64 x0.Time, .slice A1 n1 c1, .slice A2 n2 c2]] := hM
   refine RW.st (Ex.not (p := v13 = true) (bvar _)) rfl <| RW.st (Ex.assign (.bool (decide (¬ (v13 = true)))) rfl) rfl <| RW.nil ?_
   refine CW.cond_dec (p := ¬ (v13 = true)) rfl (fun hc16 => ?_) (fun hc16 => ?_)
   ·
    replace hm := And.left hm hc16
    refine CW.seq <| CW.region <| RW.st (Ex.assign (.int .i64 24) rfl) rfl <| RW.nil <| CW.ret ?_
    refine blockQ_ret (thenQ_ret ?_)
    refine end_tmp (.inl rfl) rfl (.int .i64 24) rfl ?_
    exact ⟨_, _, (hM.pick [] rfl rfl), 24, hm, rfl, rfl⟩
   ·
    replace hm := And.right hm hc16
    refine CW.skip <| CW.seq <| CW.seq <| CW.region <| RW.st (Ex.fieldAddr fa45_3 rfl) rfl <| RW.st (Ex.load1 hM 0 to40 rfl rfl rfl) rfl ?_
    refine RW.callP hM (cycle_positions_lift x0.Positions 0 (hF1.mono (hle7.trans hle15)) hm) en104 rfl rfl rfl rfl ?_; rintro _ w H18 _ hle19 ⟨v17, hm, rfl, rfl⟩ hM
    replace hM : Mem w0 H w H18 [.box b4 45 [.int .i64 x0.Base, .int .i64 x0.Number, .int .i64 x0.Time, .slice A1 n1 c1, .slice A2 n2 c2]] := hM
    refine RW.st (Ex.assign (.int .i64 v17) rfl) rfl <| RW.nil <| CW.seq <| CW.region <| RW.st (Ex.move (.int .i64 v17) rfl) rfl <| RW.st (Ex.neq rfl rfl) rfl <| RW.nil ?_
    refine CW.cond_dec (p := v17 ≠ 0) rfl (fun hc20 => ?_) (fun hc20 => ?_)
    ·
     replace hm := And.left hm hc20
     refine CW.seq <| CW.region <| RW.st (Ex.move (.int .i64 v17) rfl) rfl <| RW.st (Ex.assign (.int .i64 v17) rfl) rfl <| RW.nil <| CW.ret ?_
     refine thenQ_ret ?_
     refine end_tmp (.inl rfl) rfl (.int .i64 v17) rfl ?_
     exact ⟨_, _, (hM.pick [] rfl rfl), v17, hm, rfl, rfl⟩
    ·
     replace hm := And.right hm hc20
     refine CW.skip <| CW.seq <| CW.region <| RW.st (Ex.fieldAddr fa45_4 rfl) rfl <| RW.st (Ex.load1 hM 0 to43 rfl rfl rfl) rfl <| RW.st (Ex.move (.slice A3 n3 c3) rfl) rfl ?_
     refine RW.callP hM (coalesce_Check_lift x0.Writes x1 (hF2.mono ((hle7.trans hle15).trans hle19)) (hF3.mono ((hle7.trans hle15).trans hle19)) hm) en105 rfl rfl rfl rfl ?_; rintro _ w H22 _ hle23 ⟨v21, hm, rfl, rfl⟩ hM
     replace hM : Mem w0 H w H22 [.box b4 45 [.int .i64 x0.Base, .int .i64 x0.Number, .int .i64 x0.Time, .slice A1 n1 c1, .slice A2 n2 c2]] := hM
     refine RW.st (Ex.assign (.int .i64 v21) rfl) rfl <| RW.nil <| CW.ret ?_
     refine end_tmp (.inl rfl) rfl (.int .i64 v21) rfl ?_
     exact ⟨_, _, (hM.pick [] rfl rfl), v21, hm, rfl, rfl⟩
end Go.Proofs.YtahlanamngfkcaaDoor

namespace Go.Proofs.YtahlanamngfkcaaDoor
open Go.RowKit
theorem reverse_Cycle_lift {H : Hp} (hT : TabH H 0) (x0 : api_Point) (x1 : api_Point) (x2 : Int) (x3 : Int) (x4 : List Int) {A1 : Option Addr} {n1 c1 : Nat} {s1 : List Value} (hF1 : Fz (α := api_Span) H A1 n1 c1 x0.Lineage s1) {A2 : Option Addr} {n2 c2 : Nat} {s2 : List Value} (hF2 : Fz (α := api_Bitmap) H A2 n2 c2 x0.Dirty s2) {A3 : Option Addr} {n3 c3 : Nat} {s3 : List Value} (hF3 : Fz (α := List Sec) H A3 n3 c3 x0.Image s3) {A4 : Option Addr} {n4 c4 : Nat} {s4 : List Value} (hF4 : Fz (α := api_Span) H A4 n4 c4 x1.Lineage s4) {A5 : Option Addr} {n5 c5 : Nat} {s5 : List Value} (hF5 : Fz (α := api_Bitmap) H A5 n5 c5 x1.Dirty s5) {A6 : Option Addr} {n6 c6 : Nat} {s6 : List Value} (hF6 : Fz (α := List Sec) H A6 n6 c6 x1.Image s6) {A7 : Option Addr} {n7 c7 : Nat} {s7 : List Value} (hF7 : Fz (α := Int) H A7 n7 c7 x4 s7) {Φ : api_Cycle × Int → Prop} (hm : reverse_Cycle_W x0 x1 x2 x3 x4 Φ) : RetP Tryd.prog 17 #[.agg #[.int .i64 x0.Site, .slice A1 n1 c1, .slice A2 n2 c2, .slice A3 n3 c3], .agg #[.int .i64 x1.Site, .slice A4 n4 c4, .slice A5 n5 c5, .slice A6 n6 c6], .int .i64 x2, .int .i64 x3, .slice A7 n7 c7] H (fun H' v L => ∃ y, Φ y ∧ ∃ A190, ∃ n190, ∃ c190, ∃ s190, ∃ A191, ∃ n191, ∃ c191, ∃ s191, v = .tuple #[.agg #[.int .i64 (y.1.Base), .int .i64 (y.1.Number), .int .i64 (y.1.Time), .slice A190 n190 c190, .slice A191 n191 c191], .int .i64 (y.2)] ∧ DtL (α := Int) H' s190 y.1.Positions ∧ n190 = y.1.Positions.length ∧ DtL (α := api_Write) H' s191 y.1.Writes ∧ n191 = y.1.Writes.length ∧ L = [.row (.slice A190 n190 c190) 3 1 n190 s190, .row (.slice A191 n191 c191) 100 3 n191 s191]) := by
 refine RetP.of_code Tryd.func17 rfl (Nat.le_of_ble_eq_true rfl) fun w0 hM => ?_
 refine CW.seq <| CW.region ?_
 refine RW.box hM (.agg #[.int .i64 x0.Site, .slice A1 n1 c1, .slice A2 n2 c2, .slice A3 n3 c3]) [.int .i64 x0.Site, .slice A1 n1 c1, .slice A2 n2 c2, .slice A3 n3 c3] rfl rfl rfl rfl ?_; intro b8 w hM
 replace hM : Mem w0 H w H [.box b8 27 [.int .i64 x0.Site, .slice A1 n1 c1, .slice A2 n2 c2, .slice A3 n3 c3]] := hM
 refine RW.box hM (.agg #[.int .i64 x1.Site, .slice A4 n4 c4, .slice A5 n5 c5, .slice A6 n6 c6]) [.int .i64 x1.Site, .slice A4 n4 c4, .slice A5 n5 c5, .slice A6 n6 c6] rfl rfl rfl rfl ?_; intro b9 w hM
 replace hM : Mem w0 H w H [.box b9 27 [.int .i64 x1.Site, .slice A4 n4 c4, .slice A5 n5 c5, .slice A6 n6 c6], .box b8 27 [.int .i64 x0.Site, .slice A1 n1 c1, .slice A2 n2 c2, .slice A3 n3 c3]] := hM
 refine RW.alloc hM tz45 [.int .i64 0, .int .i64 0, .int .i64 0, .slice none 0 0, .slice none 0 0] rfl rfl rfl ?_; intro b10 w hM
 replace hM : Mem w0 H w H [.box b10 45 [.int .i64 0, .int .i64 0, .int .i64 0, .slice none 0 0, .slice none 0 0], .box b9 27 [.int .i64 x1.Site, .slice A4 n4 c4, .slice A5 n5 c5, .slice A6 n6 c6], .box b8 27 [.int .i64 x0.Site, .slice A1 n1 c1, .slice A2 n2 c2, .slice A3 n3 c3]] := hM
 refine RW.st (Ex.assign (.int .i64 0) rfl) rfl <| RW.nil <| CW.seq <| CW.region <| RW.st (Ex.loadA hM 2 [.int .i64 x0.Site, .slice A1 n1 c1, .slice A2 n2 c2, .slice A3 n3 c3] ta27 rfl rfl rfl rfl) rfl <| RW.st (Ex.loadA hM 1 [.int .i64 x1.Site, .slice A4 n4 c4, .slice A5 n5 c5, .slice A6 n6 c6] ta27 rfl rfl rfl rfl) rfl ?_
 refine RW.callP hM (delta_Between_lift hT x0 x1 hF1 hF2 hF3 hF4 hF5 hF6 hm) en47 rfl rfl rfl rfl ?_; rintro _ w H12 _ hle13 ⟨v11, hm, A14, n14, c14, s14, rfl, hd15, hn16, rfl⟩ hM
 replace hM : Mem w0 H w H12 [.row (.slice A14 n14 c14) 68 1 n14 s14, .box b10 45 [.int .i64 0, .int .i64 0, .int .i64 0, .slice none 0 0, .slice none 0 0], .box b9 27 [.int .i64 x1.Site, .slice A4 n4 c4, .slice A5 n5 c5, .slice A6 n6 c6], .box b8 27 [.int .i64 x0.Site, .slice A1 n1 c1, .slice A2 n2 c2, .slice A3 n3 c3]] := hM
 refine RW.st (Ex.move (.tuple #[.slice A14 n14 c14, .int .i64 v11.2]) rfl) rfl <| RW.st (Ex.extract rfl rfl) rfl <| RW.st (Ex.extract rfl rfl) rfl <| RW.st (Ex.assign (.slice A14 n14 c14) rfl) rfl <| RW.st (Ex.assign (.int .i64 v11.2) rfl) rfl <| RW.nil <| CW.seq <| CW.seq <| CW.region <| RW.st (Ex.move (.int .i64 v11.2) rfl) rfl <| RW.st (Ex.neq rfl rfl) rfl <| RW.nil ?_
 refine CW.cond_dec (p := v11.2 ≠ 0) rfl (fun hc17 => ?_) (fun hc17 => ?_)
 ·
  replace hm := And.left hm hc17
  refine CW.seq <| CW.region <| RW.st (Ex.build bs45 [] [.int .i64 0, .int .i64 0, .int .i64 0, .slice none 0 0, .slice none 0 0] rfl rfl) rfl <| RW.st (Ex.move (.int .i64 v11.2) rfl) rfl ?_
  refine RW.store hM 1 (.agg #[.int .i64 0, .int .i64 0, .int .i64 0, .slice none 0 0, .slice none 0 0]) [.int .i64 0, .int .i64 0, .int .i64 0, .slice none 0 0, .slice none 0 0] [.int .i64 0, .int .i64 0, .int .i64 0, .slice none 0 0, .slice none 0 0] sz45 rfl rfl rfl (oneAll ⟨rfl, rfl, rfl, rfl, rfl, trivial⟩) rfl (Nat.le_of_ble_eq_true rfl) rfl [.row (.slice A14 n14 c14) 68 1 n14 s14, .box b10 45 [.int .i64 0, .int .i64 0, .int .i64 0, .slice none 0 0, .slice none 0 0], .box b9 27 [.int .i64 x1.Site, .slice A4 n4 c4, .slice A5 n5 c5, .slice A6 n6 c6], .box b8 27 [.int .i64 x0.Site, .slice A1 n1 c1, .slice A2 n2 c2, .slice A3 n3 c3]] rfl rfl rfl ?_; intro w hM
  refine RW.st (Ex.assign (.int .i64 v11.2) rfl) rfl <| RW.nil <| CW.ret ?_
  refine thenQ_ret ?_
  refine end_cell_tmp (k := 1) (.inl rfl) rfl hM rfl (.int .i64 v11.2) rfl ta45 [.int .i64 0, .int .i64 0, .int .i64 0, .slice none 0 0, .slice none 0 0] rfl rfl ?_
  replace hM := hM.nilRow 3 1
  replace hM := hM.nilRow 100 3
  exact ⟨_, _, (hM.pick [1, 0] rfl rfl), ((api_Cycle.mk 0 0 0 ([] : List Int) ([] : List api_Write)), v11.2), hm, none, 0, 0, [], none, 0, 0, [], rfl, (DtL.nil : DtL _ [] ([] : List Int)), rfl, (DtL.nil : DtL _ [] ([] : List api_Write)), rfl, rfl⟩
 ·
  replace hm := And.right hm hc17
  refine CW.skip <| CW.seq <| CW.region <| RW.st (Ex.fieldAddr fa27_1 rfl) rfl <| RW.st (Ex.load1 hM 3 to22 rfl rfl rfl) rfl <| RW.st (Ex.fieldAddr fa27_1 rfl) rfl <| RW.st (Ex.load1 hM 2 to22 rfl rfl rfl) rfl ?_
  refine RW.callP hM (delta_Ancestor_lift x0.Lineage x1.Lineage (hF1.mono hle13) (hF4.mono hle13) hm) en50 rfl rfl rfl rfl ?_; rintro _ w H19 _ hle20 ⟨v18, hm, rfl, rfl⟩ hM
  replace hM : Mem w0 H w H19 [.row (.slice A14 n14 c14) 68 1 n14 s14, .box b10 45 [.int .i64 0, .int .i64 0, .int .i64 0, .slice none 0 0, .slice none 0 0], .box b9 27 [.int .i64 x1.Site, .slice A4 n4 c4, .slice A5 n5 c5, .slice A6 n6 c6], .box b8 27 [.int .i64 x0.Site, .slice A1 n1 c1, .slice A2 n2 c2, .slice A3 n3 c3]] := hM
  refine RW.st (Ex.move (.tuple #[.int .i64 v18.1, .int .i64 v18.2]) rfl) rfl <| RW.st (Ex.extract rfl rfl) rfl <| RW.st (Ex.extract rfl rfl) rfl <| RW.st (Ex.assign (.int .i64 v18.1) rfl) rfl <| RW.st (Ex.assign (.int .i64 v18.2) rfl) rfl <| RW.nil ?_
  refine CW.cut (fun D σ w => D = [] ∧ ∃ Hk21, H19.le Hk21 ∧ (∃ τ, σ = sl [(2, .int .i64 x2), (3, .int .i64 x3), (4, .slice A7 n7 c7), (6, .pointer (some ⟨b9, 0, none⟩)), (10, .pointer (some ⟨b10, 0, none⟩)), (12, .slice A14 n14 c14), (14, .int .i64 v18.1)] τ) ∧ Mem w0 H w Hk21 [.box b9 27 [.int .i64 x1.Site, .slice A4 n4 c4, .slice A5 n5 c5, .slice A6 n6 c6], .box b10 45 [.int .i64 0, .int .i64 0, .int .i64 0, .slice none 0 0, .slice none 0 0], .row (.slice A14 n14 c14) 68 1 n14 s14] ∧ reverse_Cycle_J1 x1 x2 x3 x4 v11 v18 Φ) ?_ ?_
  ·
   refine CW.seq <| CW.region <| RW.st (Ex.move (.int .i64 x2) rfl) rfl <| RW.st (Ex.move (.int .i64 v18.1) rfl) rfl <| RW.st (Ex.leq rfl rfl) rfl <| RW.st (Ex.move (.bool (decide (x2 ≤ v18.1))) rfl) rfl ?_
   refine RW.split 44 (p := x2 ≤ v18.1) rfl (fun hc185 => ?_) (fun hc185 => ?_)
   ·
    replace hm := And.left hm hc185
    refine RW.pass rfl rfl <| RW.pass rfl rfl <| RW.pass rfl rfl <| RW.pass rfl rfl <| RW.pass rfl rfl <| RW.st (Ex.pickT (.bool true) rfl rfl) rfl <| RW.nil <| CW.cond_true rfl <| CW.seq <| CW.region <| RW.st (Ex.build bs45 [] [.int .i64 0, .int .i64 0, .int .i64 0, .slice none 0 0, .slice none 0 0] rfl rfl) rfl ?_
    refine RW.store hM 1 (.agg #[.int .i64 0, .int .i64 0, .int .i64 0, .slice none 0 0, .slice none 0 0]) [.int .i64 0, .int .i64 0, .int .i64 0, .slice none 0 0, .slice none 0 0] [.int .i64 0, .int .i64 0, .int .i64 0, .slice none 0 0, .slice none 0 0] sz45 rfl rfl rfl (oneAll ⟨rfl, rfl, rfl, rfl, rfl, trivial⟩) rfl (Nat.le_of_ble_eq_true rfl) rfl [.row (.slice A14 n14 c14) 68 1 n14 s14, .box b10 45 [.int .i64 0, .int .i64 0, .int .i64 0, .slice none 0 0, .slice none 0 0], .box b9 27 [.int .i64 x1.Site, .slice A4 n4 c4, .slice A5 n5 c5, .slice A6 n6 c6], .box b8 27 [.int .i64 x0.Site, .slice A1 n1 c1, .slice A2 n2 c2, .slice A3 n3 c3]] rfl rfl rfl ?_; intro w hM
    refine RW.st (Ex.assign (.int .i64 2) rfl) rfl <| RW.nil <| CW.ret ?_
    refine thenQ_ret ?_
    refine end_cell_tmp (k := 1) (.inl rfl) rfl hM rfl (.int .i64 2) rfl ta45 [.int .i64 0, .int .i64 0, .int .i64 0, .slice none 0 0, .slice none 0 0] rfl rfl ?_
    replace hM := hM.nilRow 3 1
    replace hM := hM.nilRow 100 3
    exact ⟨_, _, (hM.pick [1, 0] rfl rfl), ((api_Cycle.mk 0 0 0 ([] : List Int) ([] : List api_Write)), 2), hm, none, 0, 0, [], none, 0, 0, [], rfl, (DtL.nil : DtL _ [] ([] : List Int)), rfl, (DtL.nil : DtL _ [] ([] : List api_Write)), rfl, rfl⟩
   ·
    replace hm := And.right hm hc185
    refine RW.st (Ex.move (.int .i64 x2) rfl) rfl <| RW.st (Ex.fieldAddr fa27_1 rfl) rfl <| RW.st (Ex.load1 hM 2 to22 rfl rfl rfl) rfl ?_
    refine RW.callP hM (reverse_last_lift x1.Lineage (hF4.mono (hle13.trans hle20)) hm) en41 rfl rfl rfl rfl ?_; rintro _ w H187 _ hle188 ⟨v186, hm, rfl, rfl⟩ hM
    replace hM : Mem w0 H w H187 [.row (.slice A14 n14 c14) 68 1 n14 s14, .box b10 45 [.int .i64 0, .int .i64 0, .int .i64 0, .slice none 0 0, .slice none 0 0], .box b9 27 [.int .i64 x1.Site, .slice A4 n4 c4, .slice A5 n5 c5, .slice A6 n6 c6], .box b8 27 [.int .i64 x0.Site, .slice A1 n1 c1, .slice A2 n2 c2, .slice A3 n3 c3]] := hM
    refine RW.st (Ex.lss rfl rfl) rfl <| RW.st (Ex.pickF (.bool (decide (x2 < v186))) rfl rfl) rfl <| RW.nil ?_
    refine CW.cond_dec (p := x2 < v186) rfl (fun hc189 => ?_) (fun hc189 => ?_)
    ·
     replace hm := And.left hm hc189
     refine CW.seq <| CW.region <| RW.st (Ex.build bs45 [] [.int .i64 0, .int .i64 0, .int .i64 0, .slice none 0 0, .slice none 0 0] rfl rfl) rfl ?_
     refine RW.store hM 1 (.agg #[.int .i64 0, .int .i64 0, .int .i64 0, .slice none 0 0, .slice none 0 0]) [.int .i64 0, .int .i64 0, .int .i64 0, .slice none 0 0, .slice none 0 0] [.int .i64 0, .int .i64 0, .int .i64 0, .slice none 0 0, .slice none 0 0] sz45 rfl rfl rfl (oneAll ⟨rfl, rfl, rfl, rfl, rfl, trivial⟩) rfl (Nat.le_of_ble_eq_true rfl) rfl [.row (.slice A14 n14 c14) 68 1 n14 s14, .box b10 45 [.int .i64 0, .int .i64 0, .int .i64 0, .slice none 0 0, .slice none 0 0], .box b9 27 [.int .i64 x1.Site, .slice A4 n4 c4, .slice A5 n5 c5, .slice A6 n6 c6], .box b8 27 [.int .i64 x0.Site, .slice A1 n1 c1, .slice A2 n2 c2, .slice A3 n3 c3]] rfl rfl rfl ?_; intro w hM
     refine RW.st (Ex.assign (.int .i64 2) rfl) rfl <| RW.nil <| CW.ret ?_
     refine thenQ_ret ?_
     refine end_cell_tmp (k := 1) (.inl rfl) rfl hM rfl (.int .i64 2) rfl ta45 [.int .i64 0, .int .i64 0, .int .i64 0, .slice none 0 0, .slice none 0 0] rfl rfl ?_
     replace hM := hM.nilRow 3 1
     replace hM := hM.nilRow 100 3
     exact ⟨_, _, (hM.pick [1, 0] rfl rfl), ((api_Cycle.mk 0 0 0 ([] : List Int) ([] : List api_Write)), 2), hm, none, 0, 0, [], none, 0, 0, [], rfl, (DtL.nil : DtL _ [] ([] : List Int)), rfl, (DtL.nil : DtL _ [] ([] : List api_Write)), rfl, rfl⟩
    ·
     replace hm := And.right hm hc189
     refine CW.skip ?_
     exact And.intro rfl ⟨H187, hle188, sl_canon ⟨rfl, rfl, rfl, rfl, rfl, rfl, rfl, trivial⟩, (hM.pick [2, 1, 0] rfl rfl), hm⟩
  rintro _ _ w ⟨rfl, Hk21, hle22, ⟨τ, rfl⟩, hM, hm⟩
  refine CW.seq <| CW.region <| RW.st (Ex.move (.int .i64 v18.1) rfl) rfl <| RW.st (Ex.move (.int .i64 x2) rfl) rfl <| RW.st (Ex.move (.int .i64 x3) rfl) rfl <| RW.st (Ex.move (.slice A7 n7 c7) rfl) rfl ?_
  refine RW.callP hM (slices_Clone_int_int_lift x4 (hF7.mono ((hle13.trans hle20).trans hle22)) hm) en51 rfl rfl rfl rfl ?_; rintro _ w H24 _ hle25 ⟨v23, hm, A26, n26, c26, s26, rfl, hd27, hn28, rfl⟩ hM
  replace hM : Mem w0 H w H24 [.row (.slice A26 n26 c26) 3 1 n26 s26, .box b9 27 [.int .i64 x1.Site, .slice A4 n4 c4, .slice A5 n5 c5, .slice A6 n6 c6], .box b10 45 [.int .i64 0, .int .i64 0, .int .i64 0, .slice none 0 0, .slice none 0 0], .row (.slice A14 n14 c14) 68 1 n14 s14] := hM
  refine RW.st (Ex.build bs45 [(0, .int .i64 v18.1), (1, .int .i64 x2), (2, .int .i64 x3), (3, .slice A26 n26 c26)] [.int .i64 v18.1, .int .i64 x2, .int .i64 x3, .slice A26 n26 c26, .slice none 0 0] rfl rfl) rfl ?_
  refine RW.alloc hM tz45 [.int .i64 0, .int .i64 0, .int .i64 0, .slice none 0 0, .slice none 0 0] rfl rfl rfl ?_; intro b29 w hM
  replace hM : Mem w0 H w H24 [.box b29 45 [.int .i64 0, .int .i64 0, .int .i64 0, .slice none 0 0, .slice none 0 0], .row (.slice A26 n26 c26) 3 1 n26 s26, .box b9 27 [.int .i64 x1.Site, .slice A4 n4 c4, .slice A5 n5 c5, .slice A6 n6 c6], .box b10 45 [.int .i64 0, .int .i64 0, .int .i64 0, .slice none 0 0, .slice none 0 0], .row (.slice A14 n14 c14) 68 1 n14 s14] := hM
  refine RW.store hM 0 (.agg #[.int .i64 v18.1, .int .i64 x2, .int .i64 x3, .slice A26 n26 c26, .slice none 0 0]) [.int .i64 v18.1, .int .i64 x2, .int .i64 x3, .slice A26 n26 c26, .slice none 0 0] [.int .i64 v18.1, .int .i64 x2, .int .i64 x3, .slice A26 n26 c26, .slice none 0 0] sz45 rfl rfl rfl (oneAll ⟨rfl, rfl, rfl, rfl, rfl, trivial⟩) rfl (Nat.le_of_ble_eq_true rfl) rfl [.box b29 45 [.int .i64 v18.1, .int .i64 x2, .int .i64 x3, .slice A26 n26 c26, .slice none 0 0], .row (.slice A26 n26 c26) 3 1 n26 s26, .box b9 27 [.int .i64 x1.Site, .slice A4 n4 c4, .slice A5 n5 c5, .slice A6 n6 c6], .box b10 45 [.int .i64 0, .int .i64 0, .int .i64 0, .slice none 0 0, .slice none 0 0], .row (.slice A14 n14 c14) 68 1 n14 s14] rfl rfl rfl ?_; intro w hM
  refine RW.nil <| CW.seq <| CW.region <| RW.st (Ex.assign (.slice none 0 0) rfl) rfl <| RW.nil <| CW.seq <| CW.seq <| CW.region <| RW.st (Ex.fieldAddr fa27_3 rfl) rfl <| RW.st (Ex.load1 hM 2 to25 rfl rfl rfl) rfl <| RW.st (Ex.lenN st25.1 rfl hF6.hn) rfl <| RW.st (Ex.move (.int .i64 0) rfl) rfl <| RW.nil <| CW.block ?_
  obtain ⟨m180, hm⟩ := hm
  skip
  replace hM := hM.nilRow 100 3
  replace hM := hM.nilRow 3 1
  refine CW.loop (β := Nat) (fun n σ w => ∃ (v32 : List api_Write), ∃ (A33 : Option Addr), ∃ (n34 : Nat), ∃ (c35 : Nat), ∃ (s36 : List Value), ∃ (v39 : List Int), ∃ (A40 : Option Addr), ∃ (n41 : Nat), ∃ (c42 : Nat), ∃ (s43 : List Value), ∃ (v46 : Int), ∃ Hk30, H24.le Hk30 ∧ (∃ τ, σ = sl [(10, .pointer (some ⟨b10, 0, none⟩)), (12, .slice A14 n14 c14), (16, .pointer (some ⟨b29, 0, none⟩)), (17, .slice A40 n41 c42), (59, .slice A6 n6 c6), (60, .int .i64 ((x1.Image.length : Int))), (61, .int .i64 v46)] τ) ∧ Mem w0 H w Hk30 [.box b10 45 [.int .i64 0, .int .i64 0, .int .i64 0, .slice none 0 0, .slice none 0 0], .box b29 45 [.int .i64 v18.1, .int .i64 x2, .int .i64 x3, .slice A26 n26 c26, .slice A33 n34 c35], .row (.slice A14 n14 c14) 68 1 n14 s14, .row (.slice A26 n26 c26) 3 1 n26 s26, .row (.slice A33 n34 c35) 100 3 n34 s36, .row (.slice A40 n41 c42) 3 1 n41 s43] ∧ (DtL (α := api_Write) Hk30 s36 v32) ∧ (n34 = v32.length) ∧ (DtL (α := Int) Hk30 s43 v39) ∧ (n41 = v39.length) ∧ LoopN (reverse_Cycle_L2 x1 x2 x3 v11 v18 v23 Φ) n (v32, v39, v46)) (fun n => n) m180 ⟨([] : List api_Write), none, 0, 0, [], ([] : List Int), none, 0, 0, [], 0, H24, (Hp.le.refl _), sl_canon ⟨rfl, rfl, rfl, rfl, rfl, rfl, rfl, trivial⟩, (hM.pick [5, 2, 6, 3, 1, 0] rfl rfl), (DtL.nil : DtL _ [] ([] : List api_Write)), rfl, (DtL.nil : DtL _ [] ([] : List Int)), rfl, hm⟩ ?_
  rintro k47 _ w ⟨v32, A33, n34, c35, s36, v39, A40, n41, c42, s43, v46, Hk30, hle31, ⟨τ, rfl⟩, hM, hd37, hn38, hd44, hn45, hm⟩
  obtain _ | k47 := k47
  · exact hm.elim
  replace hm : (reverse_Cycle_L2 x1 x2 x3 v11 v18 v23 Φ) (v32, v39, v46) (LoopN (reverse_Cycle_L2 x1 x2 x3 v11 v18 v23 Φ) k47) := hm
  generalize hrec48 : LoopN (reverse_Cycle_L2 x1 x2 x3 v11 v18 v23 Φ) k47 = rec2 at hm
  refine CW.seq <| CW.region <| RW.st (Ex.lss rfl rfl) rfl <| RW.nil <| CW.seq ?_
  refine CW.cond_dec (p := v46 < (x1.Image.length : Int)) rfl (fun hc49 => ?_) (fun hc49 => ?_)
  ·
   replace hm := And.left hm hc49
   refine CW.skip <| CW.seq <| CW.block <| CW.seq <| CW.region <| RW.st (Ex.move (.int .i64 v46) rfl) rfl ?_
   obtain ⟨hg50, hm⟩ := hm
   refine RW.st (Ex.index st25 rfl rfl v46.toNat (hF6.ne hg50) hg50.nat (hF6.lt hg50)) rfl ?_
   obtain ⟨_, ⟨A51, n51, c51, s51, rfl, hF51⟩, hx52⟩ := DtL.getI (α := List Sec) (hF6.mono ((((hle13.trans hle20).trans hle22).trans hle25).trans hle31)).dat hg50
   refine RW.st (Ex.loadE hM ((((hle13.trans hle20).trans hle22).trans hle25).trans hle31) hF6.rdc to61 rfl (hx52 0 _ rfl)) rfl <| RW.st (Ex.assign (.int .i64 v46) rfl) rfl <| RW.st (Ex.assign (.slice A51 n51 c51) rfl) rfl <| RW.nil <| CW.seq <| CW.region <| RW.st (Ex.move (.slice A40 n41 c42) rfl) rfl <| RW.st (Ex.move (.slice A51 n51 c51) rfl) rfl <| RW.st (Ex.lenN st61.1 rfl hF51.hn) rfl ?_
   refine RW.buildSlice hM st40 tz3 [(0, .int .i64 (((ix x1.Image v46).length : Int)))] [.int .i64 (((ix x1.Image v46).length : Int))] (by decide) rfl rfl rfl (by decide) rfl rfl ?_; intro b53 w hM
   have hd54 : DtL Hk30 [.int .i64 (((ix x1.Image v46).length : Int))] ([((ix x1.Image v46).length : Int)] : List Int) := (DtL.cons (c1 := [.int .i64 (((ix x1.Image v46).length : Int))]) rfl DtL.nil)
   replace hM : Mem w0 H w Hk30 [.row (.slice (some ⟨b53, 0, none⟩) 1 1) 3 1 1 [.int .i64 (((ix x1.Image v46).length : Int))], .box b10 45 [.int .i64 0, .int .i64 0, .int .i64 0, .slice none 0 0, .slice none 0 0], .box b29 45 [.int .i64 v18.1, .int .i64 x2, .int .i64 x3, .slice A26 n26 c26, .slice A33 n34 c35], .row (.slice A14 n14 c14) 68 1 n14 s14, .row (.slice A26 n26 c26) 3 1 n26 s26, .row (.slice A33 n34 c35) 100 3 n34 s36, .row (.slice A40 n41 c42) 3 1 n41 s43] := hM
   obtain ⟨hg61, hm⟩ := hm
   refine RW.appendD (α := Int) (xs := v39) (ys := ([((ix x1.Image v46).length : Int)] : List Int)) hM 6 st40 rfl rfl hd44 hn45 rfl (fun j u hj => hM.rowCell (k := 0) rfl rfl hj) hd54 rfl hg61 rfl rfl ?_; intro A55 n56 c57 s58 w hd59 hn60 hM
   replace hM : Mem w0 H w Hk30 [.row (.slice (some ⟨b53, 0, none⟩) 1 1) 3 1 1 [.int .i64 (((ix x1.Image v46).length : Int))], .box b10 45 [.int .i64 0, .int .i64 0, .int .i64 0, .slice none 0 0, .slice none 0 0], .box b29 45 [.int .i64 v18.1, .int .i64 x2, .int .i64 x3, .slice A26 n26 c26, .slice A33 n34 c35], .row (.slice A14 n14 c14) 68 1 n14 s14, .row (.slice A26 n26 c26) 3 1 n26 s26, .row (.slice A33 n34 c35) 100 3 n34 s36, .row (.slice A55 n56 c57) 3 1 n56 s58] := hM
   refine RW.st (Ex.assign (.slice A55 n56 c57) rfl) rfl <| RW.nil <| CW.seq <| CW.region <| RW.st (Ex.move (.slice A14 n14 c14) rfl) rfl <| RW.st (Ex.move (.int .i64 v46) rfl) rfl ?_
   obtain ⟨hg62, hm⟩ := hm
   refine RW.st (Ex.index st30 rfl rfl v46.toNat (hM.rowNeD (α := List api_Extent) (p := 3) rfl hn16 hg62) hg62.nat (Nat.lt_of_lt_of_eq hg62.lt (hn16).symm)) rfl ?_
   obtain ⟨_, ⟨A63, n63, c63, s63, rfl, hF63⟩, hx64⟩ := DtL.getI (α := List api_Extent) (hd15.mono (((hle20.trans hle22).trans hle25).trans hle31)) hg62
   refine RW.st (Ex.loadR hM 3 rfl to68 (hM.rowNeD (α := List api_Extent) (p := 3) rfl hn16 hg62) rfl (hx64 0 _ rfl)) rfl <| RW.st (Ex.lenN st68.1 rfl hF63.hn) rfl <| RW.st (Ex.move (.int .i64 0) rfl) rfl <| RW.nil <| CW.block ?_
   obtain ⟨m166, hm⟩ := hm
   skip
   refine CW.loop (β := Nat) (fun n σ w => ∃ (v67 : List api_Write), ∃ (A68 : Option Addr), ∃ (n69 : Nat), ∃ (c70 : Nat), ∃ (s71 : List Value), ∃ (v74 : Int), ∃ Hk65, Hk30.le Hk65 ∧ (∃ τ, σ = sl [(10, .pointer (some ⟨b10, 0, none⟩)), (12, .slice A14 n14 c14), (16, .pointer (some ⟨b29, 0, none⟩)), (17, .slice A55 n56 c57), (18, .int .i64 v46), (19, .slice A51 n51 c51), (59, .slice A6 n6 c6), (60, .int .i64 ((x1.Image.length : Int))), (61, .int .i64 v46), (74, .slice A63 n63 c63), (75, .int .i64 (((ix v11.1 v46).length : Int))), (76, .int .i64 v74)] τ) ∧ Mem w0 H w Hk65 [.box b10 45 [.int .i64 0, .int .i64 0, .int .i64 0, .slice none 0 0, .slice none 0 0], .box b29 45 [.int .i64 v18.1, .int .i64 x2, .int .i64 x3, .slice A26 n26 c26, .slice A68 n69 c70], .row (.slice A14 n14 c14) 68 1 n14 s14, .row (.slice A26 n26 c26) 3 1 n26 s26, .row (.slice A68 n69 c70) 100 3 n69 s71, .row (.slice A55 n56 c57) 3 1 n56 s58] ∧ (DtL (α := api_Write) Hk65 s71 v67) ∧ (n69 = v67.length) ∧ LoopN (reverse_Cycle_L3 x1 v11 v39 v46 rec2 Φ) n (v67, v74)) (fun n => n) m166 ⟨v32, A33, n34, c35, s36, 0, Hk30, (Hp.le.refl _), sl_canon ⟨rfl, rfl, rfl, rfl, rfl, rfl, rfl, rfl, rfl, rfl, rfl, rfl, trivial⟩, (hM.pick [1, 2, 3, 4, 5, 6] rfl rfl), hd37, hn38, hm⟩ ?_
   rintro k75 _ w ⟨v67, A68, n69, c70, s71, v74, Hk65, hle66, ⟨τ, rfl⟩, hM, hd72, hn73, hm⟩
   obtain _ | k75 := k75
   · exact hm.elim
   replace hm : (reverse_Cycle_L3 x1 v11 v39 v46 rec2 Φ) (v67, v74) (LoopN (reverse_Cycle_L3 x1 v11 v39 v46 rec2 Φ) k75) := hm
   generalize hrec76 : LoopN (reverse_Cycle_L3 x1 v11 v39 v46 rec2 Φ) k75 = rec3 at hm
   refine CW.seq <| CW.region <| RW.st (Ex.lss rfl rfl) rfl <| RW.nil <| CW.seq ?_
   refine CW.cond_dec (p := v74 < ((ix v11.1 v46).length : Int)) rfl (fun hc77 => ?_) (fun hc77 => ?_)
   ·
    replace hm := And.left hm hc77
    refine CW.skip <| CW.seq <| CW.block <| CW.seq <| CW.region ?_
    obtain ⟨hg78, hm⟩ := hm
    refine RW.st (Ex.index st68 rfl rfl v74.toNat (hF63.ne hg78) hg78.nat (hF63.lt hg78)) rfl ?_
    obtain ⟨_, rfl, hx79⟩ := DtL.getI (α := api_Extent) (hF63.mono hle66).dat hg78
    refine RW.st (Ex.loadEA hM hle66 hF63.rdc [.int .i64 ((ix (ix v11.1 v46) v74).Start), .int .i64 ((ix (ix v11.1 v46) v74).Count)] ta103 rfl (hF63.ne hg78) rfl (chunk_sub (off := 0) (n := 2) hx79 rfl)) rfl ?_
    refine RW.alloc hM tz103 [.int .i64 0, .int .i64 0] rfl rfl rfl ?_; intro b80 w hM
    replace hM : Mem w0 H w Hk65 [.box b80 103 [.int .i64 0, .int .i64 0], .box b10 45 [.int .i64 0, .int .i64 0, .int .i64 0, .slice none 0 0, .slice none 0 0], .box b29 45 [.int .i64 v18.1, .int .i64 x2, .int .i64 x3, .slice A26 n26 c26, .slice A68 n69 c70], .row (.slice A14 n14 c14) 68 1 n14 s14, .row (.slice A26 n26 c26) 3 1 n26 s26, .row (.slice A68 n69 c70) 100 3 n69 s71, .row (.slice A55 n56 c57) 3 1 n56 s58] := hM
    refine RW.store hM 0 (.agg #[.int .i64 ((ix (ix v11.1 v46) v74).Start), .int .i64 ((ix (ix v11.1 v46) v74).Count)]) [.int .i64 ((ix (ix v11.1 v46) v74).Start), .int .i64 ((ix (ix v11.1 v46) v74).Count)] [.int .i64 ((ix (ix v11.1 v46) v74).Start), .int .i64 ((ix (ix v11.1 v46) v74).Count)] sz103 rfl rfl rfl (oneAll ⟨rfl, rfl, trivial⟩) rfl (Nat.le_of_ble_eq_true rfl) rfl [.box b80 103 [.int .i64 ((ix (ix v11.1 v46) v74).Start), .int .i64 ((ix (ix v11.1 v46) v74).Count)], .box b10 45 [.int .i64 0, .int .i64 0, .int .i64 0, .slice none 0 0, .slice none 0 0], .box b29 45 [.int .i64 v18.1, .int .i64 x2, .int .i64 x3, .slice A26 n26 c26, .slice A68 n69 c70], .row (.slice A14 n14 c14) 68 1 n14 s14, .row (.slice A26 n26 c26) 3 1 n26 s26, .row (.slice A68 n69 c70) 100 3 n69 s71, .row (.slice A55 n56 c57) 3 1 n56 s58] rfl rfl rfl ?_; intro w hM
    refine RW.nil ?_
    obtain ⟨hg81, hm⟩ := hm
    obtain ⟨hg96, hm⟩ := hm
    obtain ⟨v102, hW103, hm⟩ := hm
    refine CW.drawL 17 [] [(fun Hq us E => us = [.pointer (some ⟨b29, 4, none⟩)] ∧ E = [] ∧ True), (fun Hq us E => us = [.slice A68 n69 c70] ∧ E = [] ∧ True), (fun Hq us E => us = [.int .i64 v46] ∧ E = [] ∧ True), (fun Hq us E => us = [.pointer (some ⟨b80, 0, none⟩)] ∧ E = [] ∧ True), (fun Hq us E => us = [.int .i64 ((ix (ix v11.1 v46) v74).Start)] ∧ E = [] ∧ True), (fun Hq us E => us = [.slice A51 n51 c51] ∧ E = [] ∧ True), (fun Hq us E => us = [.pointer (some ⟨b80, 0, none⟩)] ∧ E = [] ∧ True), (fun Hq us E => us = [.int .i64 ((ix (ix v11.1 v46) v74).Start)] ∧ E = [] ∧ True), (fun Hq us E => us = [.pointer (some ⟨b80, 0, none⟩)] ∧ E = [] ∧ True), (fun Hq us E => us = [.int .i64 ((ix (ix v11.1 v46) v74).Start)] ∧ E = [] ∧ True), (fun Hq us E => us = [.pointer (some ⟨b80, 1, none⟩)] ∧ E = [] ∧ True), (fun Hq us E => us = [.int .i64 ((ix (ix v11.1 v46) v74).Count)] ∧ E = [] ∧ True), (fun Hq us E => us = [.int .i64 (((ix (ix v11.1 v46) v74).Start) + ((ix (ix v11.1 v46) v74).Count))] ∧ E = [] ∧ True), (fun Hq us E => ∃ (A97 : Option Addr), ∃ (n98 : Nat), ∃ (c99 : Nat), ∃ (s100 : List Value), us = [.slice A97 n98 c99] ∧ E = [] ∧ Fz (α := Sec) Hq A97 n98 c99 (sub (ix x1.Image v46) ((ix (ix v11.1 v46) v74).Start) (((ix (ix v11.1 v46) v74).Start) + ((ix (ix v11.1 v46) v74).Count))) s100 ∧ True), (fun Hq us E => ∃ (A104 : Option Addr), ∃ (n104 : Nat), ∃ (c104 : Nat), ∃ (s104 : List Value), us = [.slice A104 n104 c104] ∧ E = [] ∧ Fz (α := Sec) Hq A104 n104 c104 v102 s104 ∧ True), (fun Hq us E => ∃ (A104 : Option Addr), ∃ (n104 : Nat), ∃ (c104 : Nat), ∃ (s104 : List Value), us = [.slice A104 n104 c104, .agg #[.int .i64 v46, .int .i64 ((ix (ix v11.1 v46) v74).Start), .slice A104 n104 c104]] ∧ E = [] ∧ Fz (α := Sec) Hq A104 n104 c104 v102 s104 ∧ True), (fun Hq us E => ∃ (A104 : Option Addr), ∃ (n104 : Nat), ∃ (c104 : Nat), ∃ (b108 : Nat), us = [.slice (some ⟨b108, 0, none⟩) 1 1] ∧ E = [] ∧ Fz Hq (some ⟨b108, 0, none⟩) 1 1 ([(api_Write.mk v46 ((ix (ix v11.1 v46) v74).Start) v102)] : List api_Write) [.int .i64 v46, .int .i64 ((ix (ix v11.1 v46) v74).Start), .slice A104 n104 c104] ∧ True)]
     (fun k => [[0], [1], [2], [3], [4], [5], [6], [7], [8], [9], [10], [11], [12], [13], [14], [14, 15], [16]].getD k []) (fun _ => none) (by kernel_rfl) hM (by kernel_rfl) (by kernel_rfl) (by kernel_rfl) rfl (by simp only [List.forall_mem_cons]; exact ⟨fun _ _ _ _ hle ⟨e1, e2, _⟩ => ⟨e1, e2, trivial⟩, fun _ _ _ _ hle ⟨e1, e2, _⟩ => ⟨e1, e2, trivial⟩, fun _ _ _ _ hle ⟨e1, e2, _⟩ => ⟨e1, e2, trivial⟩, fun _ _ _ _ hle ⟨e1, e2, _⟩ => ⟨e1, e2, trivial⟩, fun _ _ _ _ hle ⟨e1, e2, _⟩ => ⟨e1, e2, trivial⟩, fun _ _ _ _ hle ⟨e1, e2, _⟩ => ⟨e1, e2, trivial⟩, fun _ _ _ _ hle ⟨e1, e2, _⟩ => ⟨e1, e2, trivial⟩, fun _ _ _ _ hle ⟨e1, e2, _⟩ => ⟨e1, e2, trivial⟩, fun _ _ _ _ hle ⟨e1, e2, _⟩ => ⟨e1, e2, trivial⟩, fun _ _ _ _ hle ⟨e1, e2, _⟩ => ⟨e1, e2, trivial⟩, fun _ _ _ _ hle ⟨e1, e2, _⟩ => ⟨e1, e2, trivial⟩, fun _ _ _ _ hle ⟨e1, e2, _⟩ => ⟨e1, e2, trivial⟩, fun _ _ _ _ hle ⟨e1, e2, _⟩ => ⟨e1, e2, trivial⟩, fun _ _ _ _ hle ⟨A97, n98, c99, s100, e1, e2, hF101, _⟩ => ⟨A97, n98, c99, s100, e1, e2, hF101.mono hle, trivial⟩, fun _ _ _ _ hle ⟨A104, n104, c104, s104, e1, e2, hF107, _⟩ => ⟨A104, n104, c104, s104, e1, e2, hF107.mono hle, trivial⟩, fun _ _ _ _ hle ⟨A104, n104, c104, s104, e1, e2, hF107, _⟩ => ⟨A104, n104, c104, s104, e1, e2, hF107.mono hle, trivial⟩, fun _ _ _ _ hle ⟨A104, n104, c104, b108, e1, e2, hF109, _⟩ => ⟨A104, n104, c104, b108, e1, e2, hF109.mono hle, trivial⟩, by simp⟩) ⟨?_, ?_, ?_, ?_, ?_, ?_, ?_, ?_, ?_, ?_, ?_, ?_, ?_, ?_, ?_, ?_, ?_, trivial⟩ ?_
    ·
     intro H' σ' w R E hle hMR hE0 hE hp hf
     obtain rfl := hE0 rfl
     obtain ⟨τ, rfl⟩ := sl_canon (σ := σ') (l := [(16, .pointer (some ⟨b29, 0, none⟩))]) ⟨(hf 16 (by kernel_rfl)).trans rfl, trivial⟩
     have hM := Mem.subR (R := R) hMR
     exact RW.step (Ex.fieldAddr fa45_4 rfl) rfl rfl rfl (RW.nil ⟨rfl, rfl, _, rfl, H', [], Hp.le.refl _, hMR, rfl, rfl, trivial⟩)
    ·
     intro H' σ' w R E hle hMR hE0 hE hp hf
     obtain rfl := hE0 rfl
     obtain ⟨_, hg⟩ := hp 0 (by decide) (by kernel_rfl)
     obtain ⟨e110, _, _⟩ := hg.get rfl
     have e111 : σ' 80 = .pointer (some ⟨b29, 4, none⟩) := (List.cons.inj e110).1
     obtain ⟨τ, rfl⟩ := sl_canon (σ := σ') (l := [(80, .pointer (some ⟨b29, 4, none⟩))]) ⟨e111, trivial⟩
     have hM := Mem.subR (R := R) hMR
     exact RW.step (Ex.load1 hM 2 to43 rfl rfl rfl) rfl rfl rfl (RW.nil ⟨rfl, rfl, _, rfl, H', [], Hp.le.refl _, hMR, rfl, rfl, trivial⟩)
    ·
     intro H' σ' w R E hle hMR hE0 hE hp hf
     obtain rfl := hE0 rfl
     obtain ⟨τ, rfl⟩ := sl_canon (σ := σ') (l := [(18, .int .i64 v46)]) ⟨(hf 18 (by kernel_rfl)).trans rfl, trivial⟩
     have hM := Mem.subR (R := R) hMR
     exact RW.step (Ex.move (.int .i64 v46) rfl) rfl rfl rfl (RW.nil ⟨rfl, rfl, _, rfl, H', [], Hp.le.refl _, hMR, rfl, rfl, trivial⟩)
    ·
     intro H' σ' w R E hle hMR hE0 hE hp hf
     obtain rfl := hE0 rfl
     obtain ⟨τ, rfl⟩ := sl_canon (σ := σ') (l := [(21, .pointer (some ⟨b80, 0, none⟩))]) ⟨(hf 21 (by kernel_rfl)).trans rfl, trivial⟩
     have hM := Mem.subR (R := R) hMR
     exact RW.step (Ex.fieldAddr fa103_0 rfl) rfl rfl rfl (RW.nil ⟨rfl, rfl, _, rfl, H', [], Hp.le.refl _, hMR, rfl, rfl, trivial⟩)
    ·
     intro H' σ' w R E hle hMR hE0 hE hp hf
     obtain rfl := hE0 rfl
     obtain ⟨_, hg⟩ := hp 3 (by decide) (by kernel_rfl)
     obtain ⟨e112, _, _⟩ := hg.get rfl
     have e113 : σ' 83 = .pointer (some ⟨b80, 0, none⟩) := (List.cons.inj e112).1
     obtain ⟨τ, rfl⟩ := sl_canon (σ := σ') (l := [(83, .pointer (some ⟨b80, 0, none⟩))]) ⟨e113, trivial⟩
     have hM := Mem.subR (R := R) hMR
     exact RW.step (Ex.load1 hM 0 to3 rfl rfl rfl) rfl rfl rfl (RW.nil ⟨rfl, rfl, _, rfl, H', [], Hp.le.refl _, hMR, rfl, rfl, trivial⟩)
    ·
     intro H' σ' w R E hle hMR hE0 hE hp hf
     obtain rfl := hE0 rfl
     obtain ⟨τ, rfl⟩ := sl_canon (σ := σ') (l := [(19, .slice A51 n51 c51)]) ⟨(hf 19 (by kernel_rfl)).trans rfl, trivial⟩
     have hM := Mem.subR (R := R) hMR
     exact RW.step (Ex.move (.slice A51 n51 c51) rfl) rfl rfl rfl (RW.nil ⟨rfl, rfl, _, rfl, H', [], Hp.le.refl _, hMR, rfl, rfl, trivial⟩)
    ·
     intro H' σ' w R E hle hMR hE0 hE hp hf
     obtain rfl := hE0 rfl
     obtain ⟨τ, rfl⟩ := sl_canon (σ := σ') (l := [(21, .pointer (some ⟨b80, 0, none⟩))]) ⟨(hf 21 (by kernel_rfl)).trans rfl, trivial⟩
     have hM := Mem.subR (R := R) hMR
     exact RW.step (Ex.fieldAddr fa103_0 rfl) rfl rfl rfl (RW.nil ⟨rfl, rfl, _, rfl, H', [], Hp.le.refl _, hMR, rfl, rfl, trivial⟩)
    ·
     intro H' σ' w R E hle hMR hE0 hE hp hf
     obtain rfl := hE0 rfl
     obtain ⟨_, hg⟩ := hp 6 (by decide) (by kernel_rfl)
     obtain ⟨e114, _, _⟩ := hg.get rfl
     have e115 : σ' 86 = .pointer (some ⟨b80, 0, none⟩) := (List.cons.inj e114).1
     obtain ⟨τ, rfl⟩ := sl_canon (σ := σ') (l := [(86, .pointer (some ⟨b80, 0, none⟩))]) ⟨e115, trivial⟩
     have hM := Mem.subR (R := R) hMR
     exact RW.step (Ex.load1 hM 0 to3 rfl rfl rfl) rfl rfl rfl (RW.nil ⟨rfl, rfl, _, rfl, H', [], Hp.le.refl _, hMR, rfl, rfl, trivial⟩)
    ·
     intro H' σ' w R E hle hMR hE0 hE hp hf
     obtain rfl := hE0 rfl
     obtain ⟨τ, rfl⟩ := sl_canon (σ := σ') (l := [(21, .pointer (some ⟨b80, 0, none⟩))]) ⟨(hf 21 (by kernel_rfl)).trans rfl, trivial⟩
     have hM := Mem.subR (R := R) hMR
     exact RW.step (Ex.fieldAddr fa103_0 rfl) rfl rfl rfl (RW.nil ⟨rfl, rfl, _, rfl, H', [], Hp.le.refl _, hMR, rfl, rfl, trivial⟩)
    ·
     intro H' σ' w R E hle hMR hE0 hE hp hf
     obtain rfl := hE0 rfl
     obtain ⟨_, hg⟩ := hp 8 (by decide) (by kernel_rfl)
     obtain ⟨e116, _, _⟩ := hg.get rfl
     have e117 : σ' 88 = .pointer (some ⟨b80, 0, none⟩) := (List.cons.inj e116).1
     obtain ⟨τ, rfl⟩ := sl_canon (σ := σ') (l := [(88, .pointer (some ⟨b80, 0, none⟩))]) ⟨e117, trivial⟩
     have hM := Mem.subR (R := R) hMR
     exact RW.step (Ex.load1 hM 0 to3 rfl rfl rfl) rfl rfl rfl (RW.nil ⟨rfl, rfl, _, rfl, H', [], Hp.le.refl _, hMR, rfl, rfl, trivial⟩)
    ·
     intro H' σ' w R E hle hMR hE0 hE hp hf
     obtain rfl := hE0 rfl
     obtain ⟨τ, rfl⟩ := sl_canon (σ := σ') (l := [(21, .pointer (some ⟨b80, 0, none⟩))]) ⟨(hf 21 (by kernel_rfl)).trans rfl, trivial⟩
     have hM := Mem.subR (R := R) hMR
     exact RW.step (Ex.fieldAddr fa103_1 rfl) rfl rfl rfl (RW.nil ⟨rfl, rfl, _, rfl, H', [], Hp.le.refl _, hMR, rfl, rfl, trivial⟩)
    ·
     intro H' σ' w R E hle hMR hE0 hE hp hf
     obtain rfl := hE0 rfl
     obtain ⟨_, hg⟩ := hp 10 (by decide) (by kernel_rfl)
     obtain ⟨e118, _, _⟩ := hg.get rfl
     have e119 : σ' 90 = .pointer (some ⟨b80, 1, none⟩) := (List.cons.inj e118).1
     obtain ⟨τ, rfl⟩ := sl_canon (σ := σ') (l := [(90, .pointer (some ⟨b80, 1, none⟩))]) ⟨e119, trivial⟩
     have hM := Mem.subR (R := R) hMR
     exact RW.step (Ex.load1 hM 0 to3 rfl rfl rfl) rfl rfl rfl (RW.nil ⟨rfl, rfl, _, rfl, H', [], Hp.le.refl _, hMR, rfl, rfl, trivial⟩)
    ·
     intro H' σ' w R E hle hMR hE0 hE hp hf
     obtain rfl := hE0 rfl
     obtain ⟨_, hg⟩ := hp 9 (by decide) (by kernel_rfl)
     obtain ⟨e120, _, _⟩ := hg.get rfl
     have e121 : σ' 89 = .int .i64 ((ix (ix v11.1 v46) v74).Start) := (List.cons.inj e120).1
     obtain ⟨_, hg⟩ := hp 11 (by decide) (by kernel_rfl)
     obtain ⟨e122, _, _⟩ := hg.get rfl
     have e123 : σ' 91 = .int .i64 ((ix (ix v11.1 v46) v74).Count) := (List.cons.inj e122).1
     obtain ⟨τ, rfl⟩ := sl_canon (σ := σ') (l := [(89, .int .i64 ((ix (ix v11.1 v46) v74).Start)), (91, .int .i64 ((ix (ix v11.1 v46) v74).Count))]) ⟨e121, e123, trivial⟩
     have hM := Mem.subR (R := R) hMR
     exact RW.step (Ex.add rfl rfl hg81.1 hg81.2) rfl rfl rfl (RW.nil ⟨rfl, rfl, _, rfl, H', [], Hp.le.refl _, hMR, rfl, rfl, trivial⟩)
    ·
     intro H' σ' w R E hle hMR hE0 hE hp hf
     obtain rfl := hE0 rfl
     obtain ⟨_, hg⟩ := hp 5 (by decide) (by kernel_rfl)
     obtain ⟨e124, _, _⟩ := hg.get rfl
     have e125 : σ' 85 = .slice A51 n51 c51 := (List.cons.inj e124).1
     obtain ⟨_, hg⟩ := hp 7 (by decide) (by kernel_rfl)
     obtain ⟨e126, _, _⟩ := hg.get rfl
     have e127 : σ' 87 = .int .i64 ((ix (ix v11.1 v46) v74).Start) := (List.cons.inj e126).1
     obtain ⟨_, hg⟩ := hp 12 (by decide) (by kernel_rfl)
     obtain ⟨e128, _, _⟩ := hg.get rfl
     have e129 : σ' 92 = .int .i64 (((ix (ix v11.1 v46) v74).Start) + ((ix (ix v11.1 v46) v74).Count)) := (List.cons.inj e128).1
     obtain ⟨τ, rfl⟩ := sl_canon (σ := σ') (l := [(85, .slice A51 n51 c51), (87, .int .i64 ((ix (ix v11.1 v46) v74).Start)), (92, .int .i64 (((ix (ix v11.1 v46) v74).Start) + ((ix (ix v11.1 v46) v74).Count)))]) ⟨e125, e127, e129, trivial⟩
     have hM := Mem.subR (R := R) hMR
     refine RW.sliceF (α := Sec) st61 rfl (hle66.trans hle) hF51 rfl rfl hg96 rfl rfl ?_; intro A97 n98 c99 s100 hF101
     exact RW.nil ⟨rfl, rfl, _, rfl, H', [], Hp.le.refl _, hMR, A97, n98, c99, s100, rfl, rfl, hF101, trivial⟩
    ·
     intro H' σ' w R E hle hMR hE0 hE hp hf
     obtain rfl := hE0 rfl
     obtain ⟨_, hg⟩ := hp 13 (by decide) (by kernel_rfl)
     obtain ⟨A97, n98, c99, s100, e130, _, hF101, _⟩ := hg.get rfl
     have e131 : σ' 93 = .slice A97 n98 c99 := (List.cons.inj e130).1
     obtain ⟨τ, rfl⟩ := sl_canon (σ := σ') (l := [(93, .slice A97 n98 c99)]) ⟨e131, trivial⟩
     have hM := Mem.subR (R := R) hMR
     refine RW.callP hMR (slices_Clone_api_Sector_api_Sector_lift (sub (ix x1.Image v46) ((ix (ix v11.1 v46) v74).Start) (((ix (ix v11.1 v46) v74).Start) + ((ix (ix v11.1 v46) v74).Count))) hF101 hW103) en52 rfl rfl rfl rfl ?_; rintro _ w H9 _ hle9 ⟨_, rfl, A104, n104, c104, s104, rfl, hd105, hn106, rfl⟩ hMR
     obtain ⟨H90, hMR, hle90, hF107⟩ := hMR.giveF (α := Sec) 0 rfl hd105 hn106
     exact RW.nil ⟨rfl, rfl, _, rfl, H90, [], (hle9.trans hle90), hMR, A104, n104, c104, s104, rfl, rfl, hF107, trivial⟩
    ·
     intro H' σ' w R E hle hMR hE0 hE hp hf
     obtain rfl := hE0 rfl
     obtain ⟨_, hg⟩ := hp 2 (by decide) (by kernel_rfl)
     obtain ⟨e132, _, _⟩ := hg.get rfl
     have e133 : σ' 82 = .int .i64 v46 := (List.cons.inj e132).1
     obtain ⟨_, hg⟩ := hp 4 (by decide) (by kernel_rfl)
     obtain ⟨e134, _, _⟩ := hg.get rfl
     have e135 : σ' 84 = .int .i64 ((ix (ix v11.1 v46) v74).Start) := (List.cons.inj e134).1
     obtain ⟨_, hg⟩ := hp 14 (by decide) (by kernel_rfl)
     obtain ⟨A104, n104, c104, s104, e136, _, hF107, _⟩ := hg.get rfl
     have e137 : σ' 94 = .slice A104 n104 c104 := (List.cons.inj e136).1
     obtain ⟨τ, rfl⟩ := sl_canon (σ := σ') (l := [(82, .int .i64 v46), (84, .int .i64 ((ix (ix v11.1 v46) v74).Start)), (94, .slice A104 n104 c104)]) ⟨e133, e135, e137, trivial⟩
     have hM := Mem.subR (R := R) hMR
     exact RW.step (Ex.build bs100 [(0, .int .i64 v46), (1, .int .i64 ((ix (ix v11.1 v46) v74).Start)), (2, .slice A104 n104 c104)] [.int .i64 v46, .int .i64 ((ix (ix v11.1 v46) v74).Start), .slice A104 n104 c104] rfl rfl) rfl rfl rfl (RW.nil ⟨rfl, rfl, _, rfl, H', [], Hp.le.refl _, hMR, A104, n104, c104, s104, rfl, rfl, hF107, trivial⟩)
    ·
     intro H' σ' w R E hle hMR hE0 hE hp hf
     obtain rfl := hE0 rfl
     obtain ⟨_, hg⟩ := hp 15 (by decide) (by kernel_rfl)
     obtain ⟨A104, n104, c104, s104, e138, _, hF107, _⟩ := hg.get rfl
     have e139 : σ' 94 = .slice A104 n104 c104 := (List.cons.inj e138).1
     have e140 : σ' 95 = .agg #[.int .i64 v46, .int .i64 ((ix (ix v11.1 v46) v74).Start), .slice A104 n104 c104] := (List.cons.inj (List.cons.inj e138).2).1
     obtain ⟨τ, rfl⟩ := sl_canon (σ := σ') (l := [(95, .agg #[.int .i64 v46, .int .i64 ((ix (ix v11.1 v46) v74).Start), .slice A104 n104 c104])]) ⟨e140, trivial⟩
     have hM := Mem.subR (R := R) hMR
     refine RW.buildSlice hMR st43 tz100 [(0, .agg #[.int .i64 v46, .int .i64 ((ix (ix v11.1 v46) v74).Start), .slice A104 n104 c104])] [.int .i64 v46, .int .i64 ((ix (ix v11.1 v46) v74).Start), .slice A104 n104 c104] (by decide) rfl rfl rfl (by decide) rfl rfl ?_; intro b108 w hMR
     obtain ⟨H9, hMR, hle9, hF109⟩ := hMR.giveF (α := api_Write) (xs := ([(api_Write.mk v46 ((ix (ix v11.1 v46) v74).Start) v102)] : List api_Write)) 0 rfl (DtL.cons (c1 := [.int .i64 v46, .int .i64 ((ix (ix v11.1 v46) v74).Start), .slice A104 n104 c104]) ⟨_, _, _, _, rfl, hF107⟩ DtL.nil) rfl
     exact RW.nil ⟨rfl, rfl, _, rfl, H9, [], hle9, hMR, A104, n104, c104, b108, rfl, rfl, hF109, trivial⟩
    ·
     intro H8 σ' w X miss hms hle8 hM hX hX0 hf
     simp [subs] at hms
     rcases hms with rfl
     ·
      obtain ⟨H141, hH8⟩ : ∃ x, x = H8 := ⟨_, rfl⟩
      subst hH8
      have hle142 := hle8
      obtain ⟨_, g0, y0⟩ := hX 0 (by decide) (by kernel_rfl)
      obtain ⟨_, rfl, _⟩ := g0.get rfl
      replace y0 : X 0 = [] := y0
      obtain ⟨_, g0, y1⟩ := hX 1 (by decide) (by kernel_rfl)
      obtain ⟨e143, rfl, _⟩ := g0.get rfl
      have e144 : σ' 81 = .slice A68 n69 c70 := (List.cons.inj e143).1
      replace y1 : X 1 = [] := y1
      obtain ⟨_, g0, y2⟩ := hX 2 (by decide) (by kernel_rfl)
      obtain ⟨_, rfl, _⟩ := g0.get rfl
      replace y2 : X 2 = [] := y2
      obtain ⟨_, g0, y3⟩ := hX 3 (by decide) (by kernel_rfl)
      obtain ⟨_, rfl, _⟩ := g0.get rfl
      replace y3 : X 3 = [] := y3
      obtain ⟨_, g0, y4⟩ := hX 4 (by decide) (by kernel_rfl)
      obtain ⟨_, rfl, _⟩ := g0.get rfl
      replace y4 : X 4 = [] := y4
      obtain ⟨_, g0, y5⟩ := hX 5 (by decide) (by kernel_rfl)
      obtain ⟨_, rfl, _⟩ := g0.get rfl
      replace y5 : X 5 = [] := y5
      obtain ⟨_, g0, y6⟩ := hX 6 (by decide) (by kernel_rfl)
      obtain ⟨_, rfl, _⟩ := g0.get rfl
      replace y6 : X 6 = [] := y6
      obtain ⟨_, g0, y7⟩ := hX 7 (by decide) (by kernel_rfl)
      obtain ⟨_, rfl, _⟩ := g0.get rfl
      replace y7 : X 7 = [] := y7
      obtain ⟨_, g0, y8⟩ := hX 8 (by decide) (by kernel_rfl)
      obtain ⟨_, rfl, _⟩ := g0.get rfl
      replace y8 : X 8 = [] := y8
      obtain ⟨_, g0, y9⟩ := hX 9 (by decide) (by kernel_rfl)
      obtain ⟨_, rfl, _⟩ := g0.get rfl
      replace y9 : X 9 = [] := y9
      obtain ⟨_, g0, y10⟩ := hX 10 (by decide) (by kernel_rfl)
      obtain ⟨_, rfl, _⟩ := g0.get rfl
      replace y10 : X 10 = [] := y10
      obtain ⟨_, g0, y11⟩ := hX 11 (by decide) (by kernel_rfl)
      obtain ⟨_, rfl, _⟩ := g0.get rfl
      replace y11 : X 11 = [] := y11
      obtain ⟨_, g0, y12⟩ := hX 12 (by decide) (by kernel_rfl)
      obtain ⟨_, rfl, _⟩ := g0.get rfl
      replace y12 : X 12 = [] := y12
      obtain ⟨_, g0, y13⟩ := hX 13 (by decide) (by kernel_rfl)
      obtain ⟨A97, n98, c99, s100, e145, rfl, hF101, _⟩ := g0.get rfl
      have e146 : σ' 93 = .slice A97 n98 c99 := (List.cons.inj e145).1
      replace y13 : X 13 = [] := y13
      obtain ⟨_, g0, y14⟩ := hX 14 (by decide) (by kernel_rfl)
      obtain ⟨A104, n104, c104, s104, e147, rfl, hF107, _⟩ := g0.get rfl
      have e148 : σ' 94 = .slice A104 n104 c104 := (List.cons.inj e147).1
      replace y14 : X 14 = [] := y14
      obtain ⟨_, g0, y15⟩ := hX 15 (by decide) (by kernel_rfl)
      obtain ⟨A104q, n104q, c104q, s104q, e149, rfl, _, _⟩ := g0.get rfl
      have e150 : σ' 94 = .slice A104q n104q c104q := (List.cons.inj e149).1
      have he_ := e148.symm.trans e150
      have ⟨e151, e152, e153⟩ : A104 = A104q ∧ n104 = n104q ∧ c104 = c104q := by simp at he_; simp [he_]
      subst e151
      subst e152
      subst e153
      have e154 : σ' 95 = .agg #[.int .i64 v46, .int .i64 ((ix (ix v11.1 v46) v74).Start), .slice A104 n104 c104] := (List.cons.inj (List.cons.inj e149).2).1
      replace y15 : X 15 = [] := y15
      obtain ⟨_, g0, y16⟩ := hX 16 (by decide) (by kernel_rfl)
      obtain ⟨A104q, n104q, c104q, b108, e155, rfl, hF109, _⟩ := g0.get rfl
      have e156 : σ' 96 = .slice (some ⟨b108, 0, none⟩) 1 1 := (List.cons.inj e155).1
      replace y16 : X 16 = [] := y16
      have hfl : flatX X 17 = [] := by
       show X 0 ++ (X 1 ++ (X 2 ++ (X 3 ++ (X 4 ++ (X 5 ++ (X 6 ++ (X 7 ++ (X 8 ++ (X 9 ++ (X 10 ++ (X 11 ++ (X 12 ++ (X 13 ++ (X 14 ++ (X 15 ++ (X 16 ++ [])))))))))))))))) = _
       rw [y0, y1, y2, y3, y4, y5, y6, y7, y8, y9, y10, y11, y12, y13, y14, y15, y16]; rfl
      rw [hfl] at hM
      obtain ⟨τ, rfl⟩ := sl_canon (σ := σ') (l := [(10, .pointer (some ⟨b10, 0, none⟩)), (12, .slice A14 n14 c14), (16, .pointer (some ⟨b29, 0, none⟩)), (17, .slice A55 n56 c57), (18, .int .i64 v46), (19, .slice A51 n51 c51), (59, .slice A6 n6 c6), (60, .int .i64 ((x1.Image.length : Int))), (61, .int .i64 v46), (74, .slice A63 n63 c63), (75, .int .i64 (((ix v11.1 v46).length : Int))), (76, .int .i64 v74), (81, .slice A68 n69 c70), (96, .slice (some ⟨b108, 0, none⟩) 1 1)]) ⟨(hf 10 (by kernel_rfl)).trans rfl, (hf 12 (by kernel_rfl)).trans rfl, (hf 16 (by kernel_rfl)).trans rfl, (hf 17 (by kernel_rfl)).trans rfl, (hf 18 (by kernel_rfl)).trans rfl, (hf 19 (by kernel_rfl)).trans rfl, (hf 59 (by kernel_rfl)).trans rfl, (hf 60 (by kernel_rfl)).trans rfl, (hf 61 (by kernel_rfl)).trans rfl, (hf 74 (by kernel_rfl)).trans rfl, (hf 75 (by kernel_rfl)).trans rfl, (hf 76 (by kernel_rfl)).trans rfl, e144, e156, trivial⟩
      replace hM : Mem w0 H w H141 [.box b80 103 [.int .i64 ((ix (ix v11.1 v46) v74).Start), .int .i64 ((ix (ix v11.1 v46) v74).Count)], .box b10 45 [.int .i64 0, .int .i64 0, .int .i64 0, .slice none 0 0, .slice none 0 0], .box b29 45 [.int .i64 v18.1, .int .i64 x2, .int .i64 x3, .slice A26 n26 c26, .slice A68 n69 c70], .row (.slice A14 n14 c14) 68 1 n14 s14, .row (.slice A26 n26 c26) 3 1 n26 s26, .row (.slice A68 n69 c70) 100 3 n69 s71, .row (.slice A55 n56 c57) 3 1 n56 s58] := hM
      change RA _ _ _ _ _ _ _ (sl [(10, .pointer (some ⟨b10, 0, none⟩)), (12, .slice A14 n14 c14), (16, .pointer (some ⟨b29, 0, none⟩)), (17, .slice A55 n56 c57), (18, .int .i64 v46), (19, .slice A51 n51 c51), (59, .slice A6 n6 c6), (60, .int .i64 ((x1.Image.length : Int))), (61, .int .i64 v46), (74, .slice A63 n63 c63), (75, .int .i64 (((ix v11.1 v46).length : Int))), (76, .int .i64 v74), (81, .slice A68 n69 c70), (96, .slice (some ⟨b108, 0, none⟩) 1 1)] τ) _ 20 _
      refine RA.step [17] (by kernel_rfl) rfl ⟨⟨_, rfl, ?_⟩, trivial⟩
      obtain ⟨hg163, hm⟩ := hm
      refine RW.appendF (α := api_Write) (xs := v67) (ys := ([(api_Write.mk v46 ((ix (ix v11.1 v46) v74).Start) v102)] : List api_Write)) hM 5 st43 rfl rfl (hd72.mono hle142) hn73 rfl (Hp.le.refl _) hF109 hg163 rfl rfl ?_; intro A157 n158 c159 s160 w hd161 hn162 hM
      replace hM : Mem w0 H w H141 [.box b80 103 [.int .i64 ((ix (ix v11.1 v46) v74).Start), .int .i64 ((ix (ix v11.1 v46) v74).Count)], .box b10 45 [.int .i64 0, .int .i64 0, .int .i64 0, .slice none 0 0, .slice none 0 0], .box b29 45 [.int .i64 v18.1, .int .i64 x2, .int .i64 x3, .slice A26 n26 c26, .slice A68 n69 c70], .row (.slice A14 n14 c14) 68 1 n14 s14, .row (.slice A26 n26 c26) 3 1 n26 s26, .row (.slice A157 n158 c159) 100 3 n158 s160, .row (.slice A55 n56 c57) 3 1 n56 s58] := hM
      refine RW.nil ?_
      refine And.intro rfl ?_
      refine RA.step [18] (by kernel_rfl) rfl ⟨⟨_, rfl, ?_⟩, trivial⟩
      refine RW.st (Ex.fieldAddr fa45_4 rfl) rfl <| RW.nil ?_
      refine And.intro rfl ?_
      refine RA.step [19] (by kernel_rfl) rfl ⟨⟨_, rfl, ?_⟩, trivial⟩
      refine RW.store hM 2 (.slice A157 n158 c159) [.slice A157 n158 c159] [.int .i64 v18.1, .int .i64 x2, .int .i64 x3, .slice A26 n26 c26, .slice A157 n158 c159] sz43 rfl rfl rfl (oneAll ⟨rfl, trivial⟩) rfl (Nat.le_of_ble_eq_true rfl) rfl [.box b80 103 [.int .i64 ((ix (ix v11.1 v46) v74).Start), .int .i64 ((ix (ix v11.1 v46) v74).Count)], .box b10 45 [.int .i64 0, .int .i64 0, .int .i64 0, .slice none 0 0, .slice none 0 0], .box b29 45 [.int .i64 v18.1, .int .i64 x2, .int .i64 x3, .slice A26 n26 c26, .slice A157 n158 c159], .row (.slice A14 n14 c14) 68 1 n14 s14, .row (.slice A26 n26 c26) 3 1 n26 s26, .row (.slice A157 n158 c159) 100 3 n158 s160, .row (.slice A55 n56 c57) 3 1 n56 s58] rfl rfl rfl ?_; intro w hM
      refine RW.nil ?_
      refine And.intro rfl ?_
      refine RA.done (by kernel_rfl) ?_
      refine CW.region ?_
      obtain ⟨hg164, hm⟩ := hm
      refine RW.st (Ex.add rfl rfl hg164.1 hg164.2) rfl <| RW.st (Ex.move (.int .i64 (v74 + 1)) rfl) rfl <| RW.nil ?_
      exact And.intro rfl ⟨k75, ⟨(v67 ++ ([(api_Write.mk v46 ((ix (ix v11.1 v46) v74).Start) v102)] : List api_Write)), A157, n158, c159, s160, v74 + 1, H141, hle66.trans hle142, sl_canon ⟨rfl, rfl, rfl, rfl, rfl, rfl, rfl, rfl, rfl, rfl, rfl, rfl, trivial⟩, (hM.pick [1, 2, 3, 4, 5, 6] rfl rfl), hd161, hn162, (by rw [hrec76]; exact hm)⟩, Nat.lt_succ_self _⟩
   ·
    replace hm := And.right hm hc77
    refine CW.exit ?_
    refine CW.region ?_
    obtain ⟨hg165, hm⟩ := hm
    refine RW.st (Ex.add rfl rfl hg165.1 hg165.2) rfl <| RW.st (Ex.move (.int .i64 (v46 + 1)) rfl) rfl <| RW.nil ?_
    exact And.intro rfl ⟨k47, ⟨v67, A68, n69, c70, s71, (v39 ++ ([((ix x1.Image v46).length : Int)] : List Int)), A55, n56, c57, s58, v46 + 1, Hk65, hle31.trans hle66, sl_canon ⟨rfl, rfl, rfl, rfl, rfl, rfl, rfl, trivial⟩, hM, hd72, hn73, (hd59.mono hle66), hn60, (by rw [hrec48]; exact hm)⟩, Nat.lt_succ_self _⟩
  ·
   replace hm := And.right hm hc49
   refine CW.exit ?_
   refine CW.seq <| CW.seq <| CW.region <| RW.st (Ex.loadA hM 1 [.int .i64 v18.1, .int .i64 x2, .int .i64 x3, .slice A26 n26 c26, .slice A33 n34 c35] ta45 rfl rfl rfl rfl) rfl <| RW.st (Ex.move (.slice A40 n41 c42) rfl) rfl ?_
   have hM1 := hM
   obtain ⟨H167, hM, hle168, hF169⟩ := hM.giveF (α := Int) 3 rfl (hd27.mono hle31) hn28
   replace hM : Mem w0 H w H167 [.box b10 45 [.int .i64 0, .int .i64 0, .int .i64 0, .slice none 0 0, .slice none 0 0], .box b29 45 [.int .i64 v18.1, .int .i64 x2, .int .i64 x3, .slice A26 n26 c26, .slice A33 n34 c35], .row (.slice A14 n14 c14) 68 1 n14 s14, .row (.slice A33 n34 c35) 100 3 n34 s36, .row (.slice A40 n41 c42) 3 1 n41 s43] := hM
   obtain ⟨H170, hM, hle171, hF172⟩ := hM.giveF (α := api_Write) 3 rfl (hd37.mono hle168) hn38
   replace hM : Mem w0 H w H170 [.box b10 45 [.int .i64 0, .int .i64 0, .int .i64 0, .slice none 0 0, .slice none 0 0], .box b29 45 [.int .i64 v18.1, .int .i64 x2, .int .i64 x3, .slice A26 n26 c26, .slice A33 n34 c35], .row (.slice A14 n14 c14) 68 1 n14 s14, .row (.slice A40 n41 c42) 3 1 n41 s43] := hM
   obtain ⟨H173, hM, hle174, hF175⟩ := hM.giveF (α := Int) 3 rfl (hd44.mono (hle168.trans hle171)) hn45
   replace hM : Mem w0 H w H173 [.box b10 45 [.int .i64 0, .int .i64 0, .int .i64 0, .slice none 0 0, .slice none 0 0], .box b29 45 [.int .i64 v18.1, .int .i64 x2, .int .i64 x3, .slice A26 n26 c26, .slice A33 n34 c35], .row (.slice A14 n14 c14) 68 1 n14 s14] := hM
   refine RW.callB hM1 hM (cycle_Check_lift (api_Cycle.mk v18.1 x2 x3 v23 v32) v39 (hF169.mono (hle171.trans hle174)) (hF172.mono hle174) hF175 hm) en53 rfl rfl rfl rfl ?_; clear hM hM1; intro v176 w hm hM
   replace hM : Mem w0 H w Hk30 [.box b10 45 [.int .i64 0, .int .i64 0, .int .i64 0, .slice none 0 0, .slice none 0 0], .box b29 45 [.int .i64 v18.1, .int .i64 x2, .int .i64 x3, .slice A26 n26 c26, .slice A33 n34 c35], .row (.slice A14 n14 c14) 68 1 n14 s14, .row (.slice A26 n26 c26) 3 1 n26 s26, .row (.slice A33 n34 c35) 100 3 n34 s36, .row (.slice A40 n41 c42) 3 1 n41 s43] := hM
   refine RW.st (Ex.assign (.int .i64 v176) rfl) rfl <| RW.nil <| CW.seq <| CW.region <| RW.st (Ex.move (.int .i64 v176) rfl) rfl <| RW.st (Ex.neq rfl rfl) rfl <| RW.nil ?_
   refine CW.cond_dec (p := v176 ≠ 0) rfl (fun hc179 => ?_) (fun hc179 => ?_)
   ·
    replace hm := And.left hm hc179
    refine CW.seq <| CW.region <| RW.st (Ex.build bs45 [] [.int .i64 0, .int .i64 0, .int .i64 0, .slice none 0 0, .slice none 0 0] rfl rfl) rfl <| RW.st (Ex.move (.int .i64 v176) rfl) rfl ?_
    refine RW.store hM 0 (.agg #[.int .i64 0, .int .i64 0, .int .i64 0, .slice none 0 0, .slice none 0 0]) [.int .i64 0, .int .i64 0, .int .i64 0, .slice none 0 0, .slice none 0 0] [.int .i64 0, .int .i64 0, .int .i64 0, .slice none 0 0, .slice none 0 0] sz45 rfl rfl rfl (oneAll ⟨rfl, rfl, rfl, rfl, rfl, trivial⟩) rfl (Nat.le_of_ble_eq_true rfl) rfl [.box b10 45 [.int .i64 0, .int .i64 0, .int .i64 0, .slice none 0 0, .slice none 0 0], .box b29 45 [.int .i64 v18.1, .int .i64 x2, .int .i64 x3, .slice A26 n26 c26, .slice A33 n34 c35], .row (.slice A14 n14 c14) 68 1 n14 s14, .row (.slice A26 n26 c26) 3 1 n26 s26, .row (.slice A33 n34 c35) 100 3 n34 s36, .row (.slice A40 n41 c42) 3 1 n41 s43] rfl rfl rfl ?_; intro w hM
    refine RW.st (Ex.assign (.int .i64 v176) rfl) rfl <| RW.nil <| CW.ret ?_
    refine thenQ_ret ?_
    refine end_cell_tmp (k := 0) (.inl rfl) rfl hM rfl (.int .i64 v176) rfl ta45 [.int .i64 0, .int .i64 0, .int .i64 0, .slice none 0 0, .slice none 0 0] rfl rfl ?_
    replace hM := hM.nilRow 3 1
    replace hM := hM.nilRow 100 3
    exact ⟨_, _, (hM.pick [1, 0] rfl rfl), ((api_Cycle.mk 0 0 0 ([] : List Int) ([] : List api_Write)), v176), hm, none, 0, 0, [], none, 0, 0, [], rfl, (DtL.nil : DtL _ [] ([] : List Int)), rfl, (DtL.nil : DtL _ [] ([] : List api_Write)), rfl, rfl⟩
   ·
    replace hm := And.right hm hc179
    refine CW.skip <| CW.seq <| CW.region <| RW.st (Ex.loadA hM 1 [.int .i64 v18.1, .int .i64 x2, .int .i64 x3, .slice A26 n26 c26, .slice A33 n34 c35] ta45 rfl rfl rfl rfl) rfl ?_
    refine RW.store hM 0 (.agg #[.int .i64 v18.1, .int .i64 x2, .int .i64 x3, .slice A26 n26 c26, .slice A33 n34 c35]) [.int .i64 v18.1, .int .i64 x2, .int .i64 x3, .slice A26 n26 c26, .slice A33 n34 c35] [.int .i64 v18.1, .int .i64 x2, .int .i64 x3, .slice A26 n26 c26, .slice A33 n34 c35] sz45 rfl rfl rfl (oneAll ⟨rfl, rfl, rfl, rfl, rfl, trivial⟩) rfl (Nat.le_of_ble_eq_true rfl) rfl [.box b10 45 [.int .i64 v18.1, .int .i64 x2, .int .i64 x3, .slice A26 n26 c26, .slice A33 n34 c35], .box b29 45 [.int .i64 v18.1, .int .i64 x2, .int .i64 x3, .slice A26 n26 c26, .slice A33 n34 c35], .row (.slice A14 n14 c14) 68 1 n14 s14, .row (.slice A26 n26 c26) 3 1 n26 s26, .row (.slice A33 n34 c35) 100 3 n34 s36, .row (.slice A40 n41 c42) 3 1 n41 s43] rfl rfl rfl ?_; intro w hM
    refine RW.st (Ex.assign (.int .i64 0) rfl) rfl <| RW.nil <| CW.ret ?_
    refine end_cell_tmp (k := 0) (.inl rfl) rfl hM rfl (.int .i64 0) rfl ta45 [.int .i64 v18.1, .int .i64 x2, .int .i64 x3, .slice A26 n26 c26, .slice A33 n34 c35] rfl rfl ?_
    exact ⟨_, _, (hM.pick [3, 4] rfl rfl), ((api_Cycle.mk v18.1 x2 x3 v23 v32), 0), hm, A26, n26, c26, s26, A33, n34, c35, s36, rfl, (hd27.mono hle31), hn28, hd37, hn38, rfl⟩
theorem cycle_Apply_lift {H : Hp} (x0 : List (List Sec)) (x1 : api_Cycle) {A1 : Option Addr} {n1 c1 : Nat} {s1 : List Value} (hF1 : Fz (α := List Sec) H A1 n1 c1 x0 s1) {A2 : Option Addr} {n2 c2 : Nat} {s2 : List Value} (hF2 : Fz (α := Int) H A2 n2 c2 x1.Positions s2) {A3 : Option Addr} {n3 c3 : Nat} {s3 : List Value} (hF3 : Fz (α := api_Write) H A3 n3 c3 x1.Writes s3) {Φ : List (List Sec) × Int → Prop} (hm : cycle_Apply_W x0 x1 Φ) : RetP Tryd.prog 23 #[.slice A1 n1 c1, .agg #[.int .i64 x1.Base, .int .i64 x1.Number, .int .i64 x1.Time, .slice A2 n2 c2, .slice A3 n3 c3]] H (fun H' v L => ∃ y, Φ y ∧ ∃ A56, ∃ n56, ∃ c56, ∃ s56, v = .tuple #[.slice A56 n56 c56, .int .i64 (y.2)] ∧ Fz (α := List Sec) H' A56 n56 c56 y.1 s56 ∧ L = []) := by
 refine RetP.of_code Tryd.func23 rfl (Nat.le_of_ble_eq_true rfl) fun w0 hM => ?_
 refine CW.seq <| CW.region ?_
 refine RW.box hM (.agg #[.int .i64 x1.Base, .int .i64 x1.Number, .int .i64 x1.Time, .slice A2 n2 c2, .slice A3 n3 c3]) [.int .i64 x1.Base, .int .i64 x1.Number, .int .i64 x1.Time, .slice A2 n2 c2, .slice A3 n3 c3] rfl rfl rfl rfl ?_; intro b4 w hM
 replace hM : Mem w0 H w H [.box b4 45 [.int .i64 x1.Base, .int .i64 x1.Number, .int .i64 x1.Time, .slice A2 n2 c2, .slice A3 n3 c3]] := hM
 refine RW.st (Ex.assign (.slice none 0 0) rfl) rfl <| RW.st (Ex.assign (.int .i64 0) rfl) rfl <| RW.nil <| CW.seq <| CW.seq <| CW.region <| RW.st (Ex.move (.slice A1 n1 c1) rfl) rfl ?_
 refine RW.callP hM (image_Check_lift x0 hF1 hm) en62 rfl rfl rfl rfl ?_; rintro _ w H6 _ hle7 ⟨v5, hm, rfl, rfl⟩ hM
 replace hM : Mem w0 H w H6 [.box b4 45 [.int .i64 x1.Base, .int .i64 x1.Number, .int .i64 x1.Time, .slice A2 n2 c2, .slice A3 n3 c3]] := hM
 refine RW.st (Ex.assign (.int .i64 v5) rfl) rfl <| RW.nil <| CW.seq <| CW.region <| RW.st (Ex.move (.int .i64 v5) rfl) rfl <| RW.st (Ex.neq rfl rfl) rfl <| RW.nil ?_
 refine CW.cond_dec (p := v5 ≠ 0) rfl (fun hc8 => ?_) (fun hc8 => ?_)
 ·
  replace hm := And.left hm hc8
  refine CW.seq <| CW.region <| RW.st (Ex.move (.int .i64 v5) rfl) rfl <| RW.st (Ex.assign (.slice none 0 0) rfl) rfl <| RW.st (Ex.assign (.int .i64 v5) rfl) rfl <| RW.nil <| CW.ret ?_
  refine thenQ_ret ?_
  refine end_tmp2 (.inl rfl) rfl (.slice none 0 0) (.int .i64 v5) rfl rfl ?_
  exact ⟨_, _, (hM.pick [] rfl rfl), (([] : List (List Sec)), v5), hm, none, 0, 0, [], rfl, Fz.nil, rfl⟩
 ·
  replace hm := And.right hm hc8
  refine CW.skip <| CW.seq <| CW.region <| RW.st (Ex.assign (.slice none 0 0) rfl) rfl <| RW.nil <| CW.seq <| CW.seq <| CW.region <| RW.st (Ex.move (.slice A1 n1 c1) rfl) rfl <| RW.st (Ex.lenN st25.1 rfl hF1.hn) rfl <| RW.st (Ex.move (.int .i64 0) rfl) rfl <| RW.nil <| CW.block ?_
  obtain ⟨m55, hm⟩ := hm
  skip
  replace hM := hM.nilRow 3 1
  refine CW.loop (β := Nat) (fun n σ w => ∃ (v11 : List Int), ∃ (A12 : Option Addr), ∃ (n13 : Nat), ∃ (c14 : Nat), ∃ (s15 : List Value), ∃ (v18 : Int), ∃ Hk9, H6.le Hk9 ∧ (∃ τ, σ = sl [(0, .slice A1 n1 c1), (3, .pointer (some ⟨b4, 0, none⟩)), (7, .slice A12 n13 c14), (19, .slice A1 n1 c1), (20, .int .i64 ((x0.length : Int))), (21, .int .i64 v18)] τ) ∧ Mem w0 H w Hk9 [.box b4 45 [.int .i64 x1.Base, .int .i64 x1.Number, .int .i64 x1.Time, .slice A2 n2 c2, .slice A3 n3 c3], .row (.slice A12 n13 c14) 3 1 n13 s15] ∧ (DtL (α := Int) Hk9 s15 v11) ∧ (n13 = v11.length) ∧ LoopN (cycle_Apply_L1 x0 x1 Φ) n (v11, v18)) (fun n => n) m55 ⟨([] : List Int), none, 0, 0, [], 0, H6, (Hp.le.refl _), sl_canon ⟨rfl, rfl, rfl, rfl, rfl, rfl, trivial⟩, (hM.pick [1, 0] rfl rfl), (DtL.nil : DtL _ [] ([] : List Int)), rfl, hm⟩ ?_
  rintro k19 _ w ⟨v11, A12, n13, c14, s15, v18, Hk9, hle10, ⟨τ, rfl⟩, hM, hd16, hn17, hm⟩
  obtain _ | k19 := k19
  · exact hm.elim
  replace hm : (cycle_Apply_L1 x0 x1 Φ) (v11, v18) (LoopN (cycle_Apply_L1 x0 x1 Φ) k19) := hm
  generalize hrec20 : LoopN (cycle_Apply_L1 x0 x1 Φ) k19 = rec1 at hm
  refine CW.seq <| CW.region <| RW.st (Ex.lss rfl rfl) rfl <| RW.nil <| CW.seq ?_
  refine CW.cond_dec (p := v18 < (x0.length : Int)) rfl (fun hc21 => ?_) (fun hc21 => ?_)
  ·
   replace hm := And.left hm hc21
   refine CW.skip <| CW.seq <| CW.block <| CW.seq <| CW.region ?_
   obtain ⟨hg22, hm⟩ := hm
   refine RW.st (Ex.index st25 rfl rfl v18.toNat (hF1.ne hg22) hg22.nat (hF1.lt hg22)) rfl ?_
   obtain ⟨_, ⟨A23, n23, c23, s23, rfl, hF23⟩, hx24⟩ := DtL.getI (α := List Sec) (hF1.mono (hle7.trans hle10)).dat hg22
   refine RW.st (Ex.loadE hM (hle7.trans hle10) hF1.rdc to61 rfl (hx24 0 _ rfl)) rfl <| RW.st (Ex.assign (.slice A23 n23 c23) rfl) rfl <| RW.nil <| CW.region <| RW.st (Ex.move (.slice A12 n13 c14) rfl) rfl <| RW.st (Ex.move (.slice A23 n23 c23) rfl) rfl <| RW.st (Ex.lenN st61.1 rfl hF23.hn) rfl ?_
   refine RW.buildSlice hM st40 tz3 [(0, .int .i64 (((ix x0 v18).length : Int)))] [.int .i64 (((ix x0 v18).length : Int))] (by decide) rfl rfl rfl (by decide) rfl rfl ?_; intro b25 w hM
   have hd26 : DtL Hk9 [.int .i64 (((ix x0 v18).length : Int))] ([((ix x0 v18).length : Int)] : List Int) := (DtL.cons (c1 := [.int .i64 (((ix x0 v18).length : Int))]) rfl DtL.nil)
   replace hM : Mem w0 H w Hk9 [.row (.slice (some ⟨b25, 0, none⟩) 1 1) 3 1 1 [.int .i64 (((ix x0 v18).length : Int))], .box b4 45 [.int .i64 x1.Base, .int .i64 x1.Number, .int .i64 x1.Time, .slice A2 n2 c2, .slice A3 n3 c3], .row (.slice A12 n13 c14) 3 1 n13 s15] := hM
   obtain ⟨hg33, hm⟩ := hm
   refine RW.appendD (α := Int) (xs := v11) (ys := ([((ix x0 v18).length : Int)] : List Int)) hM 2 st40 rfl rfl hd16 hn17 rfl (fun j u hj => hM.rowCell (k := 0) rfl rfl hj) hd26 rfl hg33 rfl rfl ?_; intro A27 n28 c29 s30 w hd31 hn32 hM
   replace hM : Mem w0 H w Hk9 [.row (.slice (some ⟨b25, 0, none⟩) 1 1) 3 1 1 [.int .i64 (((ix x0 v18).length : Int))], .box b4 45 [.int .i64 x1.Base, .int .i64 x1.Number, .int .i64 x1.Time, .slice A2 n2 c2, .slice A3 n3 c3], .row (.slice A27 n28 c29) 3 1 n28 s30] := hM
   refine RW.st (Ex.assign (.slice A27 n28 c29) rfl) rfl <| RW.nil <| CW.region ?_
   obtain ⟨hg34, hm⟩ := hm
   refine RW.st (Ex.add rfl rfl hg34.1 hg34.2) rfl <| RW.st (Ex.move (.int .i64 (v18 + 1)) rfl) rfl <| RW.nil ?_
   exact And.intro rfl ⟨k19, ⟨(v11 ++ ([((ix x0 v18).length : Int)] : List Int)), A27, n28, c29, s30, v18 + 1, Hk9, hle10.trans (Hp.le.refl _), sl_canon ⟨rfl, rfl, rfl, rfl, rfl, rfl, trivial⟩, (hM.pick [1, 2] rfl rfl), hd31, hn32, (by rw [hrec20]; exact hm)⟩, Nat.lt_succ_self _⟩
  ·
   replace hm := And.right hm hc21
   refine CW.exit ?_
   refine CW.seq <| CW.seq <| CW.region <| RW.st (Ex.loadA hM 0 [.int .i64 x1.Base, .int .i64 x1.Number, .int .i64 x1.Time, .slice A2 n2 c2, .slice A3 n3 c3] ta45 rfl rfl rfl rfl) rfl <| RW.st (Ex.move (.slice A12 n13 c14) rfl) rfl ?_
   have hM1 := hM
   obtain ⟨H35, hM, hle36, hF37⟩ := hM.giveF (α := Int) 1 rfl hd16 hn17
   replace hM : Mem w0 H w H35 [.box b4 45 [.int .i64 x1.Base, .int .i64 x1.Number, .int .i64 x1.Time, .slice A2 n2 c2, .slice A3 n3 c3]] := hM
   refine RW.callB hM1 hM (cycle_Check_lift x1 v11 (hF2.mono ((hle7.trans hle10).trans hle36)) (hF3.mono ((hle7.trans hle10).trans hle36)) hF37 hm) en53 rfl rfl rfl rfl ?_; clear hM hM1; intro v38 w hm hM
   replace hM : Mem w0 H w Hk9 [.box b4 45 [.int .i64 x1.Base, .int .i64 x1.Number, .int .i64 x1.Time, .slice A2 n2 c2, .slice A3 n3 c3], .row (.slice A12 n13 c14) 3 1 n13 s15] := hM
   refine RW.st (Ex.assign (.int .i64 v38) rfl) rfl <| RW.nil <| CW.seq <| CW.region <| RW.st (Ex.move (.int .i64 v38) rfl) rfl <| RW.st (Ex.neq rfl rfl) rfl <| RW.nil ?_
   refine CW.cond_dec (p := v38 ≠ 0) rfl (fun hc41 => ?_) (fun hc41 => ?_)
   ·
    replace hm := And.left hm hc41
    refine CW.seq <| CW.region <| RW.st (Ex.move (.int .i64 v38) rfl) rfl <| RW.st (Ex.assign (.slice none 0 0) rfl) rfl <| RW.st (Ex.assign (.int .i64 v38) rfl) rfl <| RW.nil <| CW.ret ?_
    refine thenQ_ret ?_
    refine end_tmp2 (.inl rfl) rfl (.slice none 0 0) (.int .i64 v38) rfl rfl ?_
    exact ⟨_, _, (hM.pick [] rfl rfl), (([] : List (List Sec)), v38), hm, none, 0, 0, [], rfl, Fz.nil, rfl⟩
   ·
    replace hm := And.right hm hc41
    refine CW.skip <| CW.seq <| CW.region <| RW.st (Ex.move (.slice A1 n1 c1) rfl) rfl <| RW.st (Ex.fieldAddr fa45_4 rfl) rfl <| RW.st (Ex.load1 hM 0 to43 rfl rfl rfl) rfl ?_
    refine RW.callP hM (image_Apply_lift x0 x1.Writes (hF1.mono (hle7.trans hle10)) (hF3.mono (hle7.trans hle10)) hm) en63 rfl rfl rfl rfl ?_; rintro _ w H43 _ hle44 ⟨v42, hm, A45, n45, c45, s45, rs46, rfl, hd47, hn48, rfl⟩ hM
    replace hM := Mem.toTail (a := [.row (.slice A45 n45 c45) 61 1 n45 s45]) (b := rs46) (c := [.box b4 45 [.int .i64 x1.Base, .int .i64 x1.Number, .int .i64 x1.Time, .slice A2 n2 c2, .slice A3 n3 c3], .row (.slice A12 n13 c14) 3 1 n13 s15]) hM
    replace hM : Mem w0 H w H43 (.row (.slice A45 n45 c45) 61 1 n45 s45 :: .box b4 45 [.int .i64 x1.Base, .int .i64 x1.Number, .int .i64 x1.Time, .slice A2 n2 c2, .slice A3 n3 c3] :: .row (.slice A12 n13 c14) 3 1 n13 s15 :: rs46) := hM
    refine RW.st (Ex.move (.tuple #[.slice A45 n45 c45, .int .i64 v42.2.1, .int .i64 v42.2.2]) rfl) rfl <| RW.st (Ex.extract rfl rfl) rfl <| RW.st (Ex.extract rfl rfl) rfl <| RW.st (Ex.extract rfl rfl) rfl <| RW.st (Ex.assign (.slice A45 n45 c45) rfl) rfl <| RW.st (Ex.assign (.int .i64 v42.2.1) rfl) rfl <| RW.st (Ex.assign (.int .i64 v42.2.2) rfl) rfl <| RW.nil <| CW.seq <| CW.region <| RW.st (Ex.move (.slice A45 n45 c45) rfl) rfl <| RW.st (Ex.move (.int .i64 v42.2.2) rfl) rfl <| RW.st (Ex.assign (.slice A45 n45 c45) rfl) rfl <| RW.st (Ex.assign (.int .i64 v42.2.2) rfl) rfl ?_
    refine RW.nil <| CW.ret ?_
    obtain ⟨H49, hM, hle50, hd51⟩ := DeepL.flat (es := [.row (.slice A45 n45 c45) 61 1 n45 s45, .box b4 45 [.int .i64 x1.Base, .int .i64 x1.Number, .int .i64 x1.Time, .slice A2 n2 c2, .slice A3 n3 c3], .row (.slice A12 n13 c14) 3 1 n13 s15]) hM hd47
    replace hM : Mem w0 H w H49 [.row (.slice A45 n45 c45) 61 1 n45 s45, .box b4 45 [.int .i64 x1.Base, .int .i64 x1.Number, .int .i64 x1.Time, .slice A2 n2 c2, .slice A3 n3 c3], .row (.slice A12 n13 c14) 3 1 n13 s15] := hM
    obtain ⟨H52, hM, hle53, hF54⟩ := hM.giveF (α := List Sec) 0 rfl hd51 hn48
    replace hM : Mem w0 H w H52 [.box b4 45 [.int .i64 x1.Base, .int .i64 x1.Number, .int .i64 x1.Time, .slice A2 n2 c2, .slice A3 n3 c3], .row (.slice A12 n13 c14) 3 1 n13 s15] := hM
    refine end_tmp2 (.inl rfl) rfl (.slice A45 n45 c45) (.int .i64 v42.2.2) rfl rfl ?_
    exact ⟨_, _, (hM.pick [] rfl rfl), (v42.1, v42.2.2), hm, A45, n45, c45, s45, rfl, hF54, rfl⟩
end Go.Proofs.YtahlanamngfkcaaDoor

namespace Go.Proofs.YtahlanamngfkcaaDoor
open Go.RowKit
theorem law47_awake_lift {H : Hp} (hT : TabH H 0) {Φ : Bool → Prop} (hm : law47_awake_W Φ) : RetP Tryd.prog 11 #[] H (fun _ v L => ∃ y, Φ y ∧ v = .bool y ∧ L = []) := by
 refine RetP.of_code Tryd.func11 rfl (Nat.le_of_ble_eq_true rfl) fun w0 hM => ?_
 refine CW.seq <| CW.region <| RW.st (Ex.assign (.bool false) rfl) rfl <| RW.nil <| CW.seq <| CW.region <| RW.st (Ex.buildA ba71 [(0, .int .u8 (1))] [.int .u8 (1), .int .u8 (0), .int .u8 (0), .int .u8 (0), .int .u8 (0), .int .u8 (0), .int .u8 (0), .int .u8 (0)] rfl rfl) rfl <| RW.st (Ex.buildA ba71 [(0, .int .u8 (2))] [.int .u8 (2), .int .u8 (0), .int .u8 (0), .int .u8 (0), .int .u8 (0), .int .u8 (0), .int .u8 (0), .int .u8 (0)] rfl rfl) rfl <| RW.st (Ex.buildA ba71 [(0, .int .u8 (3))] [.int .u8 (3), .int .u8 (0), .int .u8 (0), .int .u8 (0), .int .u8 (0), .int .u8 (0), .int .u8 (0), .int .u8 (0)] rfl rfl) rfl ?_
 refine RW.buildSlice hM st61 tz71 [(0, .agg #[.int .u8 (1), .int .u8 (0), .int .u8 (0), .int .u8 (0), .int .u8 (0), .int .u8 (0), .int .u8 (0), .int .u8 (0)]), (1, .agg #[.int .u8 (2), .int .u8 (0), .int .u8 (0), .int .u8 (0), .int .u8 (0), .int .u8 (0), .int .u8 (0), .int .u8 (0)]), (2, .agg #[.int .u8 (3), .int .u8 (0), .int .u8 (0), .int .u8 (0), .int .u8 (0), .int .u8 (0), .int .u8 (0), .int .u8 (0)])] [.int .u8 (1), .int .u8 (0), .int .u8 (0), .int .u8 (0), .int .u8 (0), .int .u8 (0), .int .u8 (0), .int .u8 (0), .int .u8 (2), .int .u8 (0), .int .u8 (0), .int .u8 (0), .int .u8 (0), .int .u8 (0), .int .u8 (0), .int .u8 (0), .int .u8 (3), .int .u8 (0), .int .u8 (0), .int .u8 (0), .int .u8 (0), .int .u8 (0), .int .u8 (0), .int .u8 (0)] (by decide) rfl rfl rfl (by decide) rfl rfl ?_; intro b1 w hM
 have hd2 : DtL H [.int .u8 (1), .int .u8 (0), .int .u8 (0), .int .u8 (0), .int .u8 (0), .int .u8 (0), .int .u8 (0), .int .u8 (0), .int .u8 (2), .int .u8 (0), .int .u8 (0), .int .u8 (0), .int .u8 (0), .int .u8 (0), .int .u8 (0), .int .u8 (0), .int .u8 (3), .int .u8 (0), .int .u8 (0), .int .u8 (0), .int .u8 (0), .int .u8 (0), .int .u8 (0), .int .u8 (0)] ([(Sec.mk (1#8) (0#8) (0#8) (0#8) (0#8) (0#8) (0#8) (0#8)), (Sec.mk (2#8) (0#8) (0#8) (0#8) (0#8) (0#8) (0#8) (0#8)), (Sec.mk (3#8) (0#8) (0#8) (0#8) (0#8) (0#8) (0#8) (0#8))] : List Sec) := (DtL.cons (c1 := [.int .u8 (1), .int .u8 (0), .int .u8 (0), .int .u8 (0), .int .u8 (0), .int .u8 (0), .int .u8 (0), .int .u8 (0)]) rfl (DtL.cons (c1 := [.int .u8 (2), .int .u8 (0), .int .u8 (0), .int .u8 (0), .int .u8 (0), .int .u8 (0), .int .u8 (0), .int .u8 (0)]) rfl (DtL.cons (c1 := [.int .u8 (3), .int .u8 (0), .int .u8 (0), .int .u8 (0), .int .u8 (0), .int .u8 (0), .int .u8 (0), .int .u8 (0)]) rfl DtL.nil)))
 replace hM : Mem w0 H w H [.row (.slice (some ⟨b1, 0, none⟩) 3 3) 71 8 3 [.int .u8 (1), .int .u8 (0), .int .u8 (0), .int .u8 (0), .int .u8 (0), .int .u8 (0), .int .u8 (0), .int .u8 (0), .int .u8 (2), .int .u8 (0), .int .u8 (0), .int .u8 (0), .int .u8 (0), .int .u8 (0), .int .u8 (0), .int .u8 (0), .int .u8 (3), .int .u8 (0), .int .u8 (0), .int .u8 (0), .int .u8 (0), .int .u8 (0), .int .u8 (0), .int .u8 (0)]] := hM
 obtain ⟨H3, hM, hle4, hF5⟩ := hM.giveF (α := Sec) 0 rfl hd2 rfl
 replace hM : Mem w0 H w H3 [] := hM
 refine RW.buildSlice hM st25 tz61 [(0, .slice (some ⟨b1, 0, none⟩) 3 3)] [.slice (some ⟨b1, 0, none⟩) 3 3] (by decide) rfl rfl rfl (by decide) rfl rfl ?_; intro b6 w hM
 have hd7 : DtL H3 [.slice (some ⟨b1, 0, none⟩) 3 3] ([([(Sec.mk (1#8) (0#8) (0#8) (0#8) (0#8) (0#8) (0#8) (0#8)), (Sec.mk (2#8) (0#8) (0#8) (0#8) (0#8) (0#8) (0#8) (0#8)), (Sec.mk (3#8) (0#8) (0#8) (0#8) (0#8) (0#8) (0#8) (0#8))] : List Sec)] : List (List Sec)) := (DtL.cons (c1 := [.slice (some ⟨b1, 0, none⟩) 3 3]) ⟨_, _, _, _, rfl, hF5⟩ DtL.nil)
 replace hM : Mem w0 H w H3 [.row (.slice (some ⟨b6, 0, none⟩) 1 1) 61 1 1 [.slice (some ⟨b1, 0, none⟩) 3 3]] := hM
 refine RW.st (Ex.assign (.slice (some ⟨b6, 0, none⟩) 1 1) rfl) rfl <| RW.nil <| CW.seq <| CW.region <| RW.st (Ex.move (.slice (some ⟨b6, 0, none⟩) 1 1) rfl) rfl <| RW.st (Ex.build bs98 [(0, .int .i64 1), (1, .int .i64 1), (2, .int .i64 4)] [.int .i64 1, .int .i64 1, .int .i64 4] rfl rfl) rfl ?_
 refine RW.buildSlice hM st22 tz98 [(0, .agg #[.int .i64 1, .int .i64 1, .int .i64 4])] [.int .i64 1, .int .i64 1, .int .i64 4] (by decide) rfl rfl rfl (by decide) rfl rfl ?_; intro b8 w hM
 have hd9 : DtL H3 [.int .i64 1, .int .i64 1, .int .i64 4] ([(api_Span.mk 1 1 4)] : List api_Span) := (DtL.cons (c1 := [.int .i64 1, .int .i64 1, .int .i64 4]) rfl DtL.nil)
 replace hM : Mem w0 H w H3 [.row (.slice (some ⟨b8, 0, none⟩) 1 1) 98 3 1 [.int .i64 1, .int .i64 1, .int .i64 4], .row (.slice (some ⟨b6, 0, none⟩) 1 1) 61 1 1 [.slice (some ⟨b1, 0, none⟩) 3 3]] := hM
 refine RW.callP hM (law47_one_lift 0 (8#8) hm) en39 rfl rfl rfl rfl ?_; rintro _ w H11 _ hle12 ⟨v10, hm, A13, n13, c13, s13, rfl, hd14, hn15, rfl⟩ hM
 replace hM : Mem w0 H w H11 [.row (.slice A13 n13 c13) 71 8 n13 s13, .row (.slice (some ⟨b8, 0, none⟩) 1 1) 98 3 1 [.int .i64 1, .int .i64 1, .int .i64 4], .row (.slice (some ⟨b6, 0, none⟩) 1 1) 61 1 1 [.slice (some ⟨b1, 0, none⟩) 3 3]] := hM
 obtain ⟨H16, hM, hle17, hF18⟩ := hM.giveF (α := Sec) 0 rfl hd14 hn15
 replace hM : Mem w0 H w H16 [.row (.slice (some ⟨b8, 0, none⟩) 1 1) 98 3 1 [.int .i64 1, .int .i64 1, .int .i64 4], .row (.slice (some ⟨b6, 0, none⟩) 1 1) 61 1 1 [.slice (some ⟨b1, 0, none⟩) 3 3]] := hM
 refine RW.buildSlice hM st43 tz100 [(0, .agg #[.int .i64 v10.Volume, .int .i64 v10.Start, .slice A13 n13 c13])] [.int .i64 v10.Volume, .int .i64 v10.Start, .slice A13 n13 c13] (by decide) rfl rfl rfl (by decide) rfl rfl ?_; intro b19 w hM
 have hd20 : DtL H16 [.int .i64 v10.Volume, .int .i64 v10.Start, .slice A13 n13 c13] ([v10] : List api_Write) := (DtL.cons (c1 := [.int .i64 v10.Volume, .int .i64 v10.Start, .slice A13 n13 c13]) ⟨_, _, _, _, rfl, hF18⟩ DtL.nil)
 replace hM : Mem w0 H w H16 [.row (.slice (some ⟨b19, 0, none⟩) 1 1) 100 3 1 [.int .i64 v10.Volume, .int .i64 v10.Start, .slice A13 n13 c13], .row (.slice (some ⟨b8, 0, none⟩) 1 1) 98 3 1 [.int .i64 1, .int .i64 1, .int .i64 4], .row (.slice (some ⟨b6, 0, none⟩) 1 1) 61 1 1 [.slice (some ⟨b1, 0, none⟩) 3 3]] := hM
 obtain ⟨H21, hM, hle22, hF23⟩ := hM.giveF (α := List Sec) 2 rfl (hd7.mono (hle12.trans hle17)) rfl
 replace hM : Mem w0 H w H21 [.row (.slice (some ⟨b19, 0, none⟩) 1 1) 100 3 1 [.int .i64 v10.Volume, .int .i64 v10.Start, .slice A13 n13 c13], .row (.slice (some ⟨b8, 0, none⟩) 1 1) 98 3 1 [.int .i64 1, .int .i64 1, .int .i64 4]] := hM
 obtain ⟨H24, hM, hle25, hF26⟩ := hM.giveF (α := api_Span) 1 rfl (hd9.mono ((hle12.trans hle17).trans hle22)) rfl
 replace hM : Mem w0 H w H24 [.row (.slice (some ⟨b19, 0, none⟩) 1 1) 100 3 1 [.int .i64 v10.Volume, .int .i64 v10.Start, .slice A13 n13 c13]] := hM
 obtain ⟨H27, hM, hle28, hF29⟩ := hM.giveF (α := api_Write) 0 rfl (hd20.mono (hle22.trans hle25)) rfl
 replace hM : Mem w0 H w H27 [] := hM
 refine RW.callP hM (law47_point_lift 0 ([([(Sec.mk (1#8) (0#8) (0#8) (0#8) (0#8) (0#8) (0#8) (0#8)), (Sec.mk (2#8) (0#8) (0#8) (0#8) (0#8) (0#8) (0#8) (0#8)), (Sec.mk (3#8) (0#8) (0#8) (0#8) (0#8) (0#8) (0#8) (0#8))] : List Sec)] : List (List Sec)) ([(api_Span.mk 1 1 4)] : List api_Span) ([v10] : List api_Write) (hF23.mono (hle25.trans hle28)) (hF26.mono hle28) hF29 hm) en38 rfl rfl rfl rfl ?_; rintro _ w H31 _ hle32 ⟨v30, hm, A33, n33, c33, s33, A34, n34, c34, s34, A35, n35, c35, s35, rfl, hF33, hd36, hn37, hF35, rfl⟩ hM
 replace hM : Mem w0 H w H31 [.row (.slice A34 n34 c34) 65 2 n34 s34] := hM
 refine RW.alloc hM tz27 [.int .i64 0, .slice none 0 0, .slice none 0 0, .slice none 0 0] rfl rfl rfl ?_; intro b38 w hM
 replace hM : Mem w0 H w H31 [.box b38 27 [.int .i64 0, .slice none 0 0, .slice none 0 0, .slice none 0 0], .row (.slice A34 n34 c34) 65 2 n34 s34] := hM
 refine RW.store hM 0 (.agg #[.int .i64 v30.Site, .slice A33 n33 c33, .slice A34 n34 c34, .slice A35 n35 c35]) [.int .i64 v30.Site, .slice A33 n33 c33, .slice A34 n34 c34, .slice A35 n35 c35] [.int .i64 v30.Site, .slice A33 n33 c33, .slice A34 n34 c34, .slice A35 n35 c35] sz27 rfl rfl rfl (oneAll ⟨rfl, rfl, rfl, rfl, trivial⟩) rfl (Nat.le_of_ble_eq_true rfl) rfl [.box b38 27 [.int .i64 v30.Site, .slice A33 n33 c33, .slice A34 n34 c34, .slice A35 n35 c35], .row (.slice A34 n34 c34) 65 2 n34 s34] rfl rfl rfl ?_; intro w hM
 refine RW.nil <| CW.seq <| CW.region <| RW.st (Ex.move (.slice (some ⟨b6, 0, none⟩) 1 1) rfl) rfl <| RW.st (Ex.build bs98 [(0, .int .i64 1), (1, .int .i64 1), (2, .int .i64 4)] [.int .i64 1, .int .i64 1, .int .i64 4] rfl rfl) rfl <| RW.st (Ex.build bs98 [(0, .int .i64 2), (1, .int .i64 5), (2, .int .i64 6)] [.int .i64 2, .int .i64 5, .int .i64 6] rfl rfl) rfl ?_
 refine RW.buildSlice hM st22 tz98 [(0, .agg #[.int .i64 1, .int .i64 1, .int .i64 4]), (1, .agg #[.int .i64 2, .int .i64 5, .int .i64 6])] [.int .i64 1, .int .i64 1, .int .i64 4, .int .i64 2, .int .i64 5, .int .i64 6] (by decide) rfl rfl rfl (by decide) rfl rfl ?_; intro b39 w hM
 have hd40 : DtL H31 [.int .i64 1, .int .i64 1, .int .i64 4, .int .i64 2, .int .i64 5, .int .i64 6] ([(api_Span.mk 1 1 4), (api_Span.mk 2 5 6)] : List api_Span) := (DtL.cons (c1 := [.int .i64 1, .int .i64 1, .int .i64 4]) rfl (DtL.cons (c1 := [.int .i64 2, .int .i64 5, .int .i64 6]) rfl DtL.nil))
 replace hM : Mem w0 H w H31 [.row (.slice (some ⟨b39, 0, none⟩) 2 2) 98 3 2 [.int .i64 1, .int .i64 1, .int .i64 4, .int .i64 2, .int .i64 5, .int .i64 6], .box b38 27 [.int .i64 v30.Site, .slice A33 n33 c33, .slice A34 n34 c34, .slice A35 n35 c35], .row (.slice A34 n34 c34) 65 2 n34 s34] := hM
 refine RW.callP hM (law47_one_lift 2 (9#8) hm) en39 rfl rfl rfl rfl ?_; rintro _ w H42 _ hle43 ⟨v41, hm, A44, n44, c44, s44, rfl, hd45, hn46, rfl⟩ hM
 replace hM : Mem w0 H w H42 [.row (.slice A44 n44 c44) 71 8 n44 s44, .row (.slice (some ⟨b39, 0, none⟩) 2 2) 98 3 2 [.int .i64 1, .int .i64 1, .int .i64 4, .int .i64 2, .int .i64 5, .int .i64 6], .box b38 27 [.int .i64 v30.Site, .slice A33 n33 c33, .slice A34 n34 c34, .slice A35 n35 c35], .row (.slice A34 n34 c34) 65 2 n34 s34] := hM
 obtain ⟨H47, hM, hle48, hF49⟩ := hM.giveF (α := Sec) 0 rfl hd45 hn46
 replace hM : Mem w0 H w H47 [.row (.slice (some ⟨b39, 0, none⟩) 2 2) 98 3 2 [.int .i64 1, .int .i64 1, .int .i64 4, .int .i64 2, .int .i64 5, .int .i64 6], .box b38 27 [.int .i64 v30.Site, .slice A33 n33 c33, .slice A34 n34 c34, .slice A35 n35 c35], .row (.slice A34 n34 c34) 65 2 n34 s34] := hM
 refine RW.buildSlice hM st43 tz100 [(0, .agg #[.int .i64 v41.Volume, .int .i64 v41.Start, .slice A44 n44 c44])] [.int .i64 v41.Volume, .int .i64 v41.Start, .slice A44 n44 c44] (by decide) rfl rfl rfl (by decide) rfl rfl ?_; intro b50 w hM
 have hd51 : DtL H47 [.int .i64 v41.Volume, .int .i64 v41.Start, .slice A44 n44 c44] ([v41] : List api_Write) := (DtL.cons (c1 := [.int .i64 v41.Volume, .int .i64 v41.Start, .slice A44 n44 c44]) ⟨_, _, _, _, rfl, hF49⟩ DtL.nil)
 replace hM : Mem w0 H w H47 [.row (.slice (some ⟨b50, 0, none⟩) 1 1) 100 3 1 [.int .i64 v41.Volume, .int .i64 v41.Start, .slice A44 n44 c44], .row (.slice (some ⟨b39, 0, none⟩) 2 2) 98 3 2 [.int .i64 1, .int .i64 1, .int .i64 4, .int .i64 2, .int .i64 5, .int .i64 6], .box b38 27 [.int .i64 v30.Site, .slice A33 n33 c33, .slice A34 n34 c34, .slice A35 n35 c35], .row (.slice A34 n34 c34) 65 2 n34 s34] := hM
 obtain ⟨H52, hM, hle53, hF54⟩ := hM.giveF (α := api_Span) 1 rfl (hd40.mono (hle43.trans hle48)) rfl
 replace hM : Mem w0 H w H52 [.row (.slice (some ⟨b50, 0, none⟩) 1 1) 100 3 1 [.int .i64 v41.Volume, .int .i64 v41.Start, .slice A44 n44 c44], .box b38 27 [.int .i64 v30.Site, .slice A33 n33 c33, .slice A34 n34 c34, .slice A35 n35 c35], .row (.slice A34 n34 c34) 65 2 n34 s34] := hM
 obtain ⟨H55, hM, hle56, hF57⟩ := hM.giveF (α := api_Write) 0 rfl (hd51.mono hle53) rfl
 replace hM : Mem w0 H w H55 [.box b38 27 [.int .i64 v30.Site, .slice A33 n33 c33, .slice A34 n34 c34, .slice A35 n35 c35], .row (.slice A34 n34 c34) 65 2 n34 s34] := hM
 refine RW.callP hM (law47_point_lift 1 ([([(Sec.mk (1#8) (0#8) (0#8) (0#8) (0#8) (0#8) (0#8) (0#8)), (Sec.mk (2#8) (0#8) (0#8) (0#8) (0#8) (0#8) (0#8) (0#8)), (Sec.mk (3#8) (0#8) (0#8) (0#8) (0#8) (0#8) (0#8) (0#8))] : List Sec)] : List (List Sec)) ([(api_Span.mk 1 1 4), (api_Span.mk 2 5 6)] : List api_Span) ([v41] : List api_Write) (hF23.mono ((((((hle25.trans hle28).trans hle32).trans hle43).trans hle48).trans hle53).trans hle56)) (hF54.mono hle56) hF57 hm) en38 rfl rfl rfl rfl ?_; rintro _ w H59 _ hle60 ⟨v58, hm, A61, n61, c61, s61, A62, n62, c62, s62, A63, n63, c63, s63, rfl, hF61, hd64, hn65, hF63, rfl⟩ hM
 replace hM : Mem w0 H w H59 [.row (.slice A62 n62 c62) 65 2 n62 s62, .box b38 27 [.int .i64 v30.Site, .slice A33 n33 c33, .slice A34 n34 c34, .slice A35 n35 c35], .row (.slice A34 n34 c34) 65 2 n34 s34] := hM
 refine RW.alloc hM tz27 [.int .i64 0, .slice none 0 0, .slice none 0 0, .slice none 0 0] rfl rfl rfl ?_; intro b66 w hM
 replace hM : Mem w0 H w H59 [.box b66 27 [.int .i64 0, .slice none 0 0, .slice none 0 0, .slice none 0 0], .row (.slice A62 n62 c62) 65 2 n62 s62, .box b38 27 [.int .i64 v30.Site, .slice A33 n33 c33, .slice A34 n34 c34, .slice A35 n35 c35], .row (.slice A34 n34 c34) 65 2 n34 s34] := hM
 refine RW.store hM 0 (.agg #[.int .i64 v58.Site, .slice A61 n61 c61, .slice A62 n62 c62, .slice A63 n63 c63]) [.int .i64 v58.Site, .slice A61 n61 c61, .slice A62 n62 c62, .slice A63 n63 c63] [.int .i64 v58.Site, .slice A61 n61 c61, .slice A62 n62 c62, .slice A63 n63 c63] sz27 rfl rfl rfl (oneAll ⟨rfl, rfl, rfl, rfl, trivial⟩) rfl (Nat.le_of_ble_eq_true rfl) rfl [.box b66 27 [.int .i64 v58.Site, .slice A61 n61 c61, .slice A62 n62 c62, .slice A63 n63 c63], .row (.slice A62 n62 c62) 65 2 n62 s62, .box b38 27 [.int .i64 v30.Site, .slice A33 n33 c33, .slice A34 n34 c34, .slice A35 n35 c35], .row (.slice A34 n34 c34) 65 2 n34 s34] rfl rfl rfl ?_; intro w hM
 refine RW.nil <| CW.seq <| CW.region <| RW.st (Ex.loadA hM 2 [.int .i64 v30.Site, .slice A33 n33 c33, .slice A34 n34 c34, .slice A35 n35 c35] ta27 rfl rfl rfl rfl) rfl ?_
 obtain ⟨H67, hM, hle68, hF69⟩ := hM.giveF (α := api_Bitmap) 3 rfl (hd36.mono ((((hle43.trans hle48).trans hle53).trans hle56).trans hle60)) hn37
 replace hM : Mem w0 H w H67 [.box b66 27 [.int .i64 v58.Site, .slice A61 n61 c61, .slice A62 n62 c62, .slice A63 n63 c63], .row (.slice A62 n62 c62) 65 2 n62 s62, .box b38 27 [.int .i64 v30.Site, .slice A33 n33 c33, .slice A34 n34 c34, .slice A35 n35 c35]] := hM
 refine RW.callP hM (reverse_Undo_lift (hT.mono ((((((((((((hle4.trans hle12).trans hle17).trans hle22).trans hle25).trans hle28).trans hle32).trans hle43).trans hle48).trans hle53).trans hle56).trans hle60).trans hle68)) v30 4 (hF33.mono (((((hle43.trans hle48).trans hle53).trans hle56).trans hle60).trans hle68)) hF69 (hF35.mono (((((hle43.trans hle48).trans hle53).trans hle56).trans hle60).trans hle68)) hm) en12 rfl rfl rfl rfl ?_; rintro _ w H71 _ hle72 ⟨v70, hm, A73, n73, c73, s73, rfl, hd74, hn75, rfl⟩ hM
 replace hM : Mem w0 H w H71 [.row (.slice A73 n73 c73) 68 1 n73 s73, .box b66 27 [.int .i64 v58.Site, .slice A61 n61 c61, .slice A62 n62 c62, .slice A63 n63 c63], .row (.slice A62 n62 c62) 65 2 n62 s62, .box b38 27 [.int .i64 v30.Site, .slice A33 n33 c33, .slice A34 n34 c34, .slice A35 n35 c35]] := hM
 refine RW.st (Ex.move (.tuple #[.slice A73 n73 c73, .int .i64 v70.2]) rfl) rfl <| RW.st (Ex.extract rfl rfl) rfl <| RW.st (Ex.extract rfl rfl) rfl <| RW.st (Ex.assign (.slice A73 n73 c73) rfl) rfl <| RW.st (Ex.assign (.int .i64 v70.2) rfl) rfl <| RW.nil <| CW.seq <| CW.region <| RW.st (Ex.loadA hM 3 [.int .i64 v30.Site, .slice A33 n33 c33, .slice A34 n34 c34, .slice A35 n35 c35] ta27 rfl rfl rfl rfl) rfl <| RW.st (Ex.loadA hM 1 [.int .i64 v58.Site, .slice A61 n61 c61, .slice A62 n62 c62, .slice A63 n63 c63] ta27 rfl rfl rfl rfl) rfl ?_
 obtain ⟨H76, hM, hle77, hF78⟩ := hM.giveF (α := api_Bitmap) 2 rfl (hd64.mono (hle68.trans hle72)) hn65
 replace hM : Mem w0 H w H76 [.row (.slice A73 n73 c73) 68 1 n73 s73, .box b66 27 [.int .i64 v58.Site, .slice A61 n61 c61, .slice A62 n62 c62, .slice A63 n63 c63], .box b38 27 [.int .i64 v30.Site, .slice A33 n33 c33, .slice A34 n34 c34, .slice A35 n35 c35]] := hM
 refine RW.callP hM (reverse_Extents_lift (hT.mono ((((((((((((((hle4.trans hle12).trans hle17).trans hle22).trans hle25).trans hle28).trans hle32).trans hle43).trans hle48).trans hle53).trans hle56).trans hle60).trans hle68).trans hle72).trans hle77)) v30 v58 (hF33.mono (((((((hle43.trans hle48).trans hle53).trans hle56).trans hle60).trans hle68).trans hle72).trans hle77)) (hF69.mono (hle72.trans hle77)) (hF35.mono (((((((hle43.trans hle48).trans hle53).trans hle56).trans hle60).trans hle68).trans hle72).trans hle77)) (hF61.mono ((hle68.trans hle72).trans hle77)) hF78 (hF63.mono ((hle68.trans hle72).trans hle77)) hm) en14 rfl rfl rfl rfl ?_; rintro _ w H80 _ hle81 ⟨v79, hm, A82, n82, c82, s82, rfl, hd83, hn84, rfl⟩ hM
 replace hM : Mem w0 H w H80 [.row (.slice A82 n82 c82) 68 1 n82 s82, .row (.slice A73 n73 c73) 68 1 n73 s73, .box b66 27 [.int .i64 v58.Site, .slice A61 n61 c61, .slice A62 n62 c62, .slice A63 n63 c63], .box b38 27 [.int .i64 v30.Site, .slice A33 n33 c33, .slice A34 n34 c34, .slice A35 n35 c35]] := hM
 refine RW.st (Ex.move (.tuple #[.slice A82 n82 c82, .int .i64 v79.2]) rfl) rfl <| RW.st (Ex.extract rfl rfl) rfl <| RW.st (Ex.extract rfl rfl) rfl <| RW.st (Ex.assign (.slice A82 n82 c82) rfl) rfl <| RW.st (Ex.assign (.int .i64 v79.2) rfl) rfl <| RW.nil <| CW.seq <| CW.region <| RW.st (Ex.loadA hM 3 [.int .i64 v30.Site, .slice A33 n33 c33, .slice A34 n34 c34, .slice A35 n35 c35] ta27 rfl rfl rfl rfl) rfl <| RW.st (Ex.loadA hM 2 [.int .i64 v58.Site, .slice A61 n61 c61, .slice A62 n62 c62, .slice A63 n63 c63] ta27 rfl rfl rfl rfl) rfl ?_
 refine RW.callP hM (reverse_Cycle_lift (hT.mono (((((((((((((((hle4.trans hle12).trans hle17).trans hle22).trans hle25).trans hle28).trans hle32).trans hle43).trans hle48).trans hle53).trans hle56).trans hle60).trans hle68).trans hle72).trans hle77).trans hle81)) v30 v58 6 7 ([] : List Int) (hF33.mono ((((((((hle43.trans hle48).trans hle53).trans hle56).trans hle60).trans hle68).trans hle72).trans hle77).trans hle81)) (hF69.mono ((hle72.trans hle77).trans hle81)) (hF35.mono ((((((((hle43.trans hle48).trans hle53).trans hle56).trans hle60).trans hle68).trans hle72).trans hle77).trans hle81)) (hF61.mono (((hle68.trans hle72).trans hle77).trans hle81)) (hF78.mono hle81) (hF63.mono (((hle68.trans hle72).trans hle77).trans hle81)) Fz.nil hm) en17 rfl rfl rfl rfl ?_; rintro _ w H86 _ hle87 ⟨v85, hm, A88, n88, c88, s88, A89, n89, c89, s89, rfl, hd90, hn91, hd92, hn93, rfl⟩ hM
 replace hM : Mem w0 H w H86 [.row (.slice A88 n88 c88) 3 1 n88 s88, .row (.slice A89 n89 c89) 100 3 n89 s89, .row (.slice A82 n82 c82) 68 1 n82 s82, .row (.slice A73 n73 c73) 68 1 n73 s73, .box b66 27 [.int .i64 v58.Site, .slice A61 n61 c61, .slice A62 n62 c62, .slice A63 n63 c63], .box b38 27 [.int .i64 v30.Site, .slice A33 n33 c33, .slice A34 n34 c34, .slice A35 n35 c35]] := hM
 refine RW.st (Ex.move (.tuple #[.agg #[.int .i64 v85.1.Base, .int .i64 v85.1.Number, .int .i64 v85.1.Time, .slice A88 n88 c88, .slice A89 n89 c89], .int .i64 v85.2]) rfl) rfl <| RW.st (Ex.extract rfl rfl) rfl <| RW.st (Ex.extract rfl rfl) rfl ?_
 refine RW.alloc hM tz45 [.int .i64 0, .int .i64 0, .int .i64 0, .slice none 0 0, .slice none 0 0] rfl rfl rfl ?_; intro b94 w hM
 replace hM : Mem w0 H w H86 [.box b94 45 [.int .i64 0, .int .i64 0, .int .i64 0, .slice none 0 0, .slice none 0 0], .row (.slice A88 n88 c88) 3 1 n88 s88, .row (.slice A89 n89 c89) 100 3 n89 s89, .row (.slice A82 n82 c82) 68 1 n82 s82, .row (.slice A73 n73 c73) 68 1 n73 s73, .box b66 27 [.int .i64 v58.Site, .slice A61 n61 c61, .slice A62 n62 c62, .slice A63 n63 c63], .box b38 27 [.int .i64 v30.Site, .slice A33 n33 c33, .slice A34 n34 c34, .slice A35 n35 c35]] := hM
 refine RW.store hM 0 (.agg #[.int .i64 v85.1.Base, .int .i64 v85.1.Number, .int .i64 v85.1.Time, .slice A88 n88 c88, .slice A89 n89 c89]) [.int .i64 v85.1.Base, .int .i64 v85.1.Number, .int .i64 v85.1.Time, .slice A88 n88 c88, .slice A89 n89 c89] [.int .i64 v85.1.Base, .int .i64 v85.1.Number, .int .i64 v85.1.Time, .slice A88 n88 c88, .slice A89 n89 c89] sz45 rfl rfl rfl (oneAll ⟨rfl, rfl, rfl, rfl, rfl, trivial⟩) rfl (Nat.le_of_ble_eq_true rfl) rfl [.box b94 45 [.int .i64 v85.1.Base, .int .i64 v85.1.Number, .int .i64 v85.1.Time, .slice A88 n88 c88, .slice A89 n89 c89], .row (.slice A88 n88 c88) 3 1 n88 s88, .row (.slice A89 n89 c89) 100 3 n89 s89, .row (.slice A82 n82 c82) 68 1 n82 s82, .row (.slice A73 n73 c73) 68 1 n73 s73, .box b66 27 [.int .i64 v58.Site, .slice A61 n61 c61, .slice A62 n62 c62, .slice A63 n63 c63], .box b38 27 [.int .i64 v30.Site, .slice A33 n33 c33, .slice A34 n34 c34, .slice A35 n35 c35]] rfl rfl rfl ?_; intro w hM
 refine RW.st (Ex.assign (.int .i64 v85.2) rfl) rfl <| RW.nil <| CW.seq ?_
 skip
 refine CW.cut (fun D σ w => D = [] ∧ (∃ τ, σ = sl [(4, .slice A73 n73 c73), (6, .slice A82 n82 c82), (8, .pointer (some ⟨b94, 0, none⟩)), (65, .bool (decide ((v70.2 ≠ 0) ∨ ((v79.2 ≠ 0) ∨ ((v85.2 ≠ 0) ∨ ((v85.1.Base ≠ 4) ∨ ((v85.1.Writes.length : Int) ≠ 2)))))))] τ) ∧ Mem w0 H w H86 [.box b94 45 [.int .i64 v85.1.Base, .int .i64 v85.1.Number, .int .i64 v85.1.Time, .slice A88 n88 c88, .slice A89 n89 c89], .row (.slice A88 n88 c88) 3 1 n88 s88, .row (.slice A89 n89 c89) 100 3 n89 s89, .row (.slice A82 n82 c82) 68 1 n82 s82, .row (.slice A73 n73 c73) 68 1 n73 s73, .box b66 27 [.int .i64 v58.Site, .slice A61 n61 c61, .slice A62 n62 c62, .slice A63 n63 c63], .box b38 27 [.int .i64 v30.Site, .slice A33 n33 c33, .slice A34 n34 c34, .slice A35 n35 c35]]) ?_ ?_
 ·
  skip
  refine CW.region <| RW.st (Ex.move (.int .i64 v70.2) rfl) rfl <| RW.st (Ex.neq rfl rfl) rfl <| RW.st (Ex.move (.bool (decide (v70.2 ≠ 0))) rfl) rfl ?_
  refine RW.split 47 (p := v70.2 ≠ 0) rfl (fun hc95 => ?_) (fun hc95 => ?_)
  ·
   skip
   refine RW.pass rfl rfl <| RW.pass rfl rfl <| RW.st (Ex.pickT (.bool true) rfl rfl) rfl <| RW.st (Ex.move (.bool true) rfl) rfl <| RW.pass rfl rfl <| RW.pass rfl rfl <| RW.st (Ex.pickT (.bool true) rfl rfl) rfl <| RW.st (Ex.move (.bool true) rfl) rfl <| RW.pass rfl rfl <| RW.pass rfl rfl <| RW.pass rfl rfl <| RW.st (Ex.pickT (.bool true) rfl rfl) rfl <| RW.st (Ex.move (.bool true) rfl) rfl <| RW.pass rfl rfl ?_
   refine RW.pass rfl rfl <| RW.pass rfl rfl <| RW.pass rfl rfl <| RW.st (Ex.pickT (.bool true) rfl rfl) rfl <| RW.nil ?_
   exact And.intro rfl (And.intro (sl_canon ⟨rfl, rfl, rfl, (congrArg Value.bool (decide_eq_true (.inl hc95)).symm), trivial⟩) hM)
  ·
   skip
   refine RW.st (Ex.move (.int .i64 v79.2) rfl) rfl <| RW.st (Ex.neq rfl rfl) rfl <| RW.st (Ex.pickF (.bool (decide (v79.2 ≠ 0))) rfl rfl) rfl <| RW.st (Ex.move (.bool (decide (v79.2 ≠ 0))) rfl) rfl ?_
   refine RW.split 51 (p := v79.2 ≠ 0) rfl (fun hc96 => ?_) (fun hc96 => ?_)
   ·
    skip
    refine RW.pass rfl rfl <| RW.pass rfl rfl <| RW.st (Ex.pickT (.bool true) rfl rfl) rfl <| RW.st (Ex.move (.bool true) rfl) rfl <| RW.pass rfl rfl <| RW.pass rfl rfl <| RW.pass rfl rfl <| RW.st (Ex.pickT (.bool true) rfl rfl) rfl <| RW.st (Ex.move (.bool true) rfl) rfl <| RW.pass rfl rfl <| RW.pass rfl rfl <| RW.pass rfl rfl <| RW.pass rfl rfl <| RW.st (Ex.pickT (.bool true) rfl rfl) rfl ?_
    refine RW.nil ?_
    exact And.intro rfl (And.intro (sl_canon ⟨rfl, rfl, rfl, (congrArg Value.bool (decide_eq_true (.inr (.inl hc96))).symm), trivial⟩) hM)
   ·
    skip
    refine RW.st (Ex.move (.int .i64 v85.2) rfl) rfl <| RW.st (Ex.neq rfl rfl) rfl <| RW.st (Ex.pickF (.bool (decide (v85.2 ≠ 0))) rfl rfl) rfl <| RW.st (Ex.move (.bool (decide (v85.2 ≠ 0))) rfl) rfl ?_
    refine RW.split 55 (p := v85.2 ≠ 0) rfl (fun hc97 => ?_) (fun hc97 => ?_)
    ·
     skip
     refine RW.pass rfl rfl <| RW.pass rfl rfl <| RW.pass rfl rfl <| RW.st (Ex.pickT (.bool true) rfl rfl) rfl <| RW.st (Ex.move (.bool true) rfl) rfl <| RW.pass rfl rfl <| RW.pass rfl rfl <| RW.pass rfl rfl <| RW.pass rfl rfl <| RW.st (Ex.pickT (.bool true) rfl rfl) rfl <| RW.nil ?_
     exact And.intro rfl (And.intro (sl_canon ⟨rfl, rfl, rfl, (congrArg Value.bool (decide_eq_true (.inr (.inr (.inl hc97)))).symm), trivial⟩) hM)
    ·
     skip
     refine RW.st (Ex.fieldAddr fa45_0 rfl) rfl <| RW.st (Ex.load1 hM 0 to3 rfl rfl rfl) rfl <| RW.st (Ex.neq rfl rfl) rfl <| RW.st (Ex.pickF (.bool (decide (v85.1.Base ≠ 4))) rfl rfl) rfl <| RW.st (Ex.move (.bool (decide (v85.1.Base ≠ 4))) rfl) rfl ?_
     refine RW.split 60 (p := v85.1.Base ≠ 4) rfl (fun hc98 => ?_) (fun hc98 => ?_)
     ·
      skip
      refine RW.pass rfl rfl <| RW.pass rfl rfl <| RW.pass rfl rfl <| RW.pass rfl rfl <| RW.st (Ex.pickT (.bool true) rfl rfl) rfl <| RW.nil ?_
      exact And.intro rfl (And.intro (sl_canon ⟨rfl, rfl, rfl, (congrArg Value.bool (decide_eq_true (.inr (.inr (.inr (.inl hc98))))).symm), trivial⟩) hM)
     ·
      skip
      refine RW.st (Ex.fieldAddr fa45_4 rfl) rfl <| RW.st (Ex.load1 hM 0 to43 rfl rfl rfl) rfl <| RW.st (Ex.lenN st43.1 rfl hn93) rfl <| RW.st (Ex.neq rfl rfl) rfl <| RW.st (Ex.pickF (.bool (decide ((v85.1.Writes.length : Int) ≠ 2))) rfl rfl) rfl <| RW.nil ?_
      exact And.intro rfl (And.intro (sl_canon ⟨rfl, rfl, rfl, (congrArg Value.bool (decide_eq_decide.2 (imOr hc95 (imOr hc96 (imOr hc97 (imOr hc98 Iff.rfl)))))), trivial⟩) hM)
 rintro _ _ w ⟨rfl, ⟨τ, rfl⟩, hM⟩
 refine CW.cond_dec (p := (v70.2 ≠ 0) ∨ ((v79.2 ≠ 0) ∨ ((v85.2 ≠ 0) ∨ ((v85.1.Base ≠ 4) ∨ ((v85.1.Writes.length : Int) ≠ 2))))) rfl (fun hc99 => ?_) (fun hc99 => ?_)
 ·
  replace hm := And.left hm hc99
  refine CW.seq <| CW.region <| RW.st (Ex.assign (.bool false) rfl) rfl <| RW.nil <| CW.ret ?_
  refine thenQ_ret ?_
  refine end_tmp (.inl rfl) rfl (.bool false) rfl ?_
  exact ⟨_, _, (hM.pick [] rfl rfl), false, hm, rfl, rfl⟩
 ·
  replace hm := And.right hm hc99
  refine CW.skip <| CW.seq <| CW.region <| RW.st (Ex.move (.slice A73 n73 c73) rfl) rfl <| RW.st (Ex.build bs103 [(1, .int .i64 1)] [.int .i64 0, .int .i64 1] rfl rfl) rfl ?_
  refine RW.buildSlice hM st68 tz103 [(0, .agg #[.int .i64 0, .int .i64 1])] [.int .i64 0, .int .i64 1] (by decide) rfl rfl rfl (by decide) rfl rfl ?_; intro b103 w hM
  have hd104 : DtL H86 [.int .i64 0, .int .i64 1] ([(api_Extent.mk 0 1)] : List api_Extent) := (DtL.cons (c1 := [.int .i64 0, .int .i64 1]) rfl DtL.nil)
  replace hM : Mem w0 H w H86 [.row (.slice (some ⟨b103, 0, none⟩) 1 1) 103 2 1 [.int .i64 0, .int .i64 1], .box b94 45 [.int .i64 v85.1.Base, .int .i64 v85.1.Number, .int .i64 v85.1.Time, .slice A88 n88 c88, .slice A89 n89 c89], .row (.slice A88 n88 c88) 3 1 n88 s88, .row (.slice A89 n89 c89) 100 3 n89 s89, .row (.slice A82 n82 c82) 68 1 n82 s82, .row (.slice A73 n73 c73) 68 1 n73 s73, .box b66 27 [.int .i64 v58.Site, .slice A61 n61 c61, .slice A62 n62 c62, .slice A63 n63 c63], .box b38 27 [.int .i64 v30.Site, .slice A33 n33 c33, .slice A34 n34 c34, .slice A35 n35 c35]] := hM
  obtain ⟨H105, hM, hle106, hF107⟩ := hM.giveF (α := api_Extent) 0 rfl hd104 rfl
  replace hM : Mem w0 H w H105 [.box b94 45 [.int .i64 v85.1.Base, .int .i64 v85.1.Number, .int .i64 v85.1.Time, .slice A88 n88 c88, .slice A89 n89 c89], .row (.slice A88 n88 c88) 3 1 n88 s88, .row (.slice A89 n89 c89) 100 3 n89 s89, .row (.slice A82 n82 c82) 68 1 n82 s82, .row (.slice A73 n73 c73) 68 1 n73 s73, .box b66 27 [.int .i64 v58.Site, .slice A61 n61 c61, .slice A62 n62 c62, .slice A63 n63 c63], .box b38 27 [.int .i64 v30.Site, .slice A33 n33 c33, .slice A34 n34 c34, .slice A35 n35 c35]] := hM
  refine RW.buildSlice hM st30 tz68 [(0, .slice (some ⟨b103, 0, none⟩) 1 1)] [.slice (some ⟨b103, 0, none⟩) 1 1] (by decide) rfl rfl rfl (by decide) rfl rfl ?_; intro b108 w hM
  have hd109 : DtL H105 [.slice (some ⟨b103, 0, none⟩) 1 1] ([([(api_Extent.mk 0 1)] : List api_Extent)] : List (List api_Extent)) := (DtL.cons (c1 := [.slice (some ⟨b103, 0, none⟩) 1 1]) ⟨_, _, _, _, rfl, hF107⟩ DtL.nil)
  replace hM : Mem w0 H w H105 [.row (.slice (some ⟨b108, 0, none⟩) 1 1) 68 1 1 [.slice (some ⟨b103, 0, none⟩) 1 1], .box b94 45 [.int .i64 v85.1.Base, .int .i64 v85.1.Number, .int .i64 v85.1.Time, .slice A88 n88 c88, .slice A89 n89 c89], .row (.slice A88 n88 c88) 3 1 n88 s88, .row (.slice A89 n89 c89) 100 3 n89 s89, .row (.slice A82 n82 c82) 68 1 n82 s82, .row (.slice A73 n73 c73) 68 1 n73 s73, .box b66 27 [.int .i64 v58.Site, .slice A61 n61 c61, .slice A62 n62 c62, .slice A63 n63 c63], .box b38 27 [.int .i64 v30.Site, .slice A33 n33 c33, .slice A34 n34 c34, .slice A35 n35 c35]] := hM
  have hM1 := hM
  obtain ⟨H110, hM, hle111, hF112⟩ := hM.giveF (α := List api_Extent) 5 rfl (hd74.mono (((hle77.trans hle81).trans hle87).trans hle106)) hn75
  replace hM : Mem w0 H w H110 [.row (.slice (some ⟨b108, 0, none⟩) 1 1) 68 1 1 [.slice (some ⟨b103, 0, none⟩) 1 1], .box b94 45 [.int .i64 v85.1.Base, .int .i64 v85.1.Number, .int .i64 v85.1.Time, .slice A88 n88 c88, .slice A89 n89 c89], .row (.slice A88 n88 c88) 3 1 n88 s88, .row (.slice A89 n89 c89) 100 3 n89 s89, .row (.slice A82 n82 c82) 68 1 n82 s82, .box b66 27 [.int .i64 v58.Site, .slice A61 n61 c61, .slice A62 n62 c62, .slice A63 n63 c63], .box b38 27 [.int .i64 v30.Site, .slice A33 n33 c33, .slice A34 n34 c34, .slice A35 n35 c35]] := hM
  obtain ⟨H113, hM, hle114, hF115⟩ := hM.giveF (α := List api_Extent) 0 rfl (hd109.mono hle111) rfl
  replace hM : Mem w0 H w H113 [.box b94 45 [.int .i64 v85.1.Base, .int .i64 v85.1.Number, .int .i64 v85.1.Time, .slice A88 n88 c88, .slice A89 n89 c89], .row (.slice A88 n88 c88) 3 1 n88 s88, .row (.slice A89 n89 c89) 100 3 n89 s89, .row (.slice A82 n82 c82) 68 1 n82 s82, .box b66 27 [.int .i64 v58.Site, .slice A61 n61 c61, .slice A62 n62 c62, .slice A63 n63 c63], .box b38 27 [.int .i64 v30.Site, .slice A33 n33 c33, .slice A34 n34 c34, .slice A35 n35 c35]] := hM
  refine RW.callB hM1 hM (ref47_SameExtents_lift v70.1 ([([(api_Extent.mk 0 1)] : List api_Extent)] : List (List api_Extent)) (hF112.mono hle114) hF115 hm) en16 rfl rfl rfl rfl ?_; clear hM hM1; intro v116 w hm hM
  replace hM : Mem w0 H w H105 [.row (.slice (some ⟨b108, 0, none⟩) 1 1) 68 1 1 [.slice (some ⟨b103, 0, none⟩) 1 1], .box b94 45 [.int .i64 v85.1.Base, .int .i64 v85.1.Number, .int .i64 v85.1.Time, .slice A88 n88 c88, .slice A89 n89 c89], .row (.slice A88 n88 c88) 3 1 n88 s88, .row (.slice A89 n89 c89) 100 3 n89 s89, .row (.slice A82 n82 c82) 68 1 n82 s82, .row (.slice A73 n73 c73) 68 1 n73 s73, .box b66 27 [.int .i64 v58.Site, .slice A61 n61 c61, .slice A62 n62 c62, .slice A63 n63 c63], .box b38 27 [.int .i64 v30.Site, .slice A33 n33 c33, .slice A34 n34 c34, .slice A35 n35 c35]] := hM
  refine RW.st (Ex.move (.bool v116) rfl) rfl ?_
  refine RW.split 71 (p := v116 = true) (bvar _) (fun hc119 => ?_) (fun hc119 => ?_)
  ·
   replace hm := And.left hm hc119
   refine RW.st (Ex.move (.slice A82 n82 c82) rfl) rfl <| RW.st (Ex.build bs103 [(1, .int .i64 1)] [.int .i64 0, .int .i64 1] rfl rfl) rfl <| RW.st (Ex.build bs103 [(0, .int .i64 2), (1, .int .i64 1)] [.int .i64 2, .int .i64 1] rfl rfl) rfl ?_
   refine RW.buildSlice hM st68 tz103 [(0, .agg #[.int .i64 0, .int .i64 1]), (1, .agg #[.int .i64 2, .int .i64 1])] [.int .i64 0, .int .i64 1, .int .i64 2, .int .i64 1] (by decide) rfl rfl rfl (by decide) rfl rfl ?_; intro b120 w hM
   have hd121 : DtL H105 [.int .i64 0, .int .i64 1, .int .i64 2, .int .i64 1] ([(api_Extent.mk 0 1), (api_Extent.mk 2 1)] : List api_Extent) := (DtL.cons (c1 := [.int .i64 0, .int .i64 1]) rfl (DtL.cons (c1 := [.int .i64 2, .int .i64 1]) rfl DtL.nil))
   replace hM : Mem w0 H w H105 [.row (.slice (some ⟨b120, 0, none⟩) 2 2) 103 2 2 [.int .i64 0, .int .i64 1, .int .i64 2, .int .i64 1], .row (.slice (some ⟨b108, 0, none⟩) 1 1) 68 1 1 [.slice (some ⟨b103, 0, none⟩) 1 1], .box b94 45 [.int .i64 v85.1.Base, .int .i64 v85.1.Number, .int .i64 v85.1.Time, .slice A88 n88 c88, .slice A89 n89 c89], .row (.slice A88 n88 c88) 3 1 n88 s88, .row (.slice A89 n89 c89) 100 3 n89 s89, .row (.slice A82 n82 c82) 68 1 n82 s82, .row (.slice A73 n73 c73) 68 1 n73 s73, .box b66 27 [.int .i64 v58.Site, .slice A61 n61 c61, .slice A62 n62 c62, .slice A63 n63 c63], .box b38 27 [.int .i64 v30.Site, .slice A33 n33 c33, .slice A34 n34 c34, .slice A35 n35 c35]] := hM
   obtain ⟨H122, hM, hle123, hF124⟩ := hM.giveF (α := api_Extent) 0 rfl hd121 rfl
   replace hM : Mem w0 H w H122 [.row (.slice (some ⟨b108, 0, none⟩) 1 1) 68 1 1 [.slice (some ⟨b103, 0, none⟩) 1 1], .box b94 45 [.int .i64 v85.1.Base, .int .i64 v85.1.Number, .int .i64 v85.1.Time, .slice A88 n88 c88, .slice A89 n89 c89], .row (.slice A88 n88 c88) 3 1 n88 s88, .row (.slice A89 n89 c89) 100 3 n89 s89, .row (.slice A82 n82 c82) 68 1 n82 s82, .row (.slice A73 n73 c73) 68 1 n73 s73, .box b66 27 [.int .i64 v58.Site, .slice A61 n61 c61, .slice A62 n62 c62, .slice A63 n63 c63], .box b38 27 [.int .i64 v30.Site, .slice A33 n33 c33, .slice A34 n34 c34, .slice A35 n35 c35]] := hM
   refine RW.buildSlice hM st30 tz68 [(0, .slice (some ⟨b120, 0, none⟩) 2 2)] [.slice (some ⟨b120, 0, none⟩) 2 2] (by decide) rfl rfl rfl (by decide) rfl rfl ?_; intro b125 w hM
   have hd126 : DtL H122 [.slice (some ⟨b120, 0, none⟩) 2 2] ([([(api_Extent.mk 0 1), (api_Extent.mk 2 1)] : List api_Extent)] : List (List api_Extent)) := (DtL.cons (c1 := [.slice (some ⟨b120, 0, none⟩) 2 2]) ⟨_, _, _, _, rfl, hF124⟩ DtL.nil)
   replace hM : Mem w0 H w H122 [.row (.slice (some ⟨b125, 0, none⟩) 1 1) 68 1 1 [.slice (some ⟨b120, 0, none⟩) 2 2], .row (.slice (some ⟨b108, 0, none⟩) 1 1) 68 1 1 [.slice (some ⟨b103, 0, none⟩) 1 1], .box b94 45 [.int .i64 v85.1.Base, .int .i64 v85.1.Number, .int .i64 v85.1.Time, .slice A88 n88 c88, .slice A89 n89 c89], .row (.slice A88 n88 c88) 3 1 n88 s88, .row (.slice A89 n89 c89) 100 3 n89 s89, .row (.slice A82 n82 c82) 68 1 n82 s82, .row (.slice A73 n73 c73) 68 1 n73 s73, .box b66 27 [.int .i64 v58.Site, .slice A61 n61 c61, .slice A62 n62 c62, .slice A63 n63 c63], .box b38 27 [.int .i64 v30.Site, .slice A33 n33 c33, .slice A34 n34 c34, .slice A35 n35 c35]] := hM
   have hM1 := hM
   obtain ⟨H127, hM, hle128, hF129⟩ := hM.giveF (α := List api_Extent) 5 rfl (hd83.mono ((hle87.trans hle106).trans hle123)) hn84
   replace hM : Mem w0 H w H127 [.row (.slice (some ⟨b125, 0, none⟩) 1 1) 68 1 1 [.slice (some ⟨b120, 0, none⟩) 2 2], .row (.slice (some ⟨b108, 0, none⟩) 1 1) 68 1 1 [.slice (some ⟨b103, 0, none⟩) 1 1], .box b94 45 [.int .i64 v85.1.Base, .int .i64 v85.1.Number, .int .i64 v85.1.Time, .slice A88 n88 c88, .slice A89 n89 c89], .row (.slice A88 n88 c88) 3 1 n88 s88, .row (.slice A89 n89 c89) 100 3 n89 s89, .row (.slice A73 n73 c73) 68 1 n73 s73, .box b66 27 [.int .i64 v58.Site, .slice A61 n61 c61, .slice A62 n62 c62, .slice A63 n63 c63], .box b38 27 [.int .i64 v30.Site, .slice A33 n33 c33, .slice A34 n34 c34, .slice A35 n35 c35]] := hM
   obtain ⟨H130, hM, hle131, hF132⟩ := hM.giveF (α := List api_Extent) 0 rfl (hd126.mono hle128) rfl
   replace hM : Mem w0 H w H130 [.row (.slice (some ⟨b108, 0, none⟩) 1 1) 68 1 1 [.slice (some ⟨b103, 0, none⟩) 1 1], .box b94 45 [.int .i64 v85.1.Base, .int .i64 v85.1.Number, .int .i64 v85.1.Time, .slice A88 n88 c88, .slice A89 n89 c89], .row (.slice A88 n88 c88) 3 1 n88 s88, .row (.slice A89 n89 c89) 100 3 n89 s89, .row (.slice A73 n73 c73) 68 1 n73 s73, .box b66 27 [.int .i64 v58.Site, .slice A61 n61 c61, .slice A62 n62 c62, .slice A63 n63 c63], .box b38 27 [.int .i64 v30.Site, .slice A33 n33 c33, .slice A34 n34 c34, .slice A35 n35 c35]] := hM
   refine RW.callB hM1 hM (ref47_SameExtents_lift v79.1 ([([(api_Extent.mk 0 1), (api_Extent.mk 2 1)] : List api_Extent)] : List (List api_Extent)) (hF129.mono hle131) hF132 hm) en16 rfl rfl rfl rfl ?_; clear hM hM1; intro v133 w hm hM
   replace hM : Mem w0 H w H122 [.row (.slice (some ⟨b125, 0, none⟩) 1 1) 68 1 1 [.slice (some ⟨b120, 0, none⟩) 2 2], .row (.slice (some ⟨b108, 0, none⟩) 1 1) 68 1 1 [.slice (some ⟨b103, 0, none⟩) 1 1], .box b94 45 [.int .i64 v85.1.Base, .int .i64 v85.1.Number, .int .i64 v85.1.Time, .slice A88 n88 c88, .slice A89 n89 c89], .row (.slice A88 n88 c88) 3 1 n88 s88, .row (.slice A89 n89 c89) 100 3 n89 s89, .row (.slice A82 n82 c82) 68 1 n82 s82, .row (.slice A73 n73 c73) 68 1 n73 s73, .box b66 27 [.int .i64 v58.Site, .slice A61 n61 c61, .slice A62 n62 c62, .slice A63 n63 c63], .box b38 27 [.int .i64 v30.Site, .slice A33 n33 c33, .slice A34 n34 c34, .slice A35 n35 c35]] := hM
   refine RW.st (Ex.pickT (.bool v133) rfl rfl) rfl <| RW.st (Ex.move (.bool v133) rfl) rfl ?_
   refine RW.split 79 (p := v133 = true) (bvar _) (fun hc136 => ?_) (fun hc136 => ?_)
   ·
    replace hm := And.left hm hc136
    refine RW.st (Ex.fieldAddr fa45_4 rfl) rfl <| RW.st (Ex.load1 hM 2 to43 rfl rfl rfl) rfl ?_
    obtain ⟨hg137, hm⟩ := hm
    refine RW.st (Ex.index st43 rfl rfl ((0 : Int).toNat) (hM.rowNeD (α := api_Write) (p := 4) rfl hn93 hg137) hg137.nat (Nat.lt_of_lt_of_eq hg137.lt (hn93).symm)) rfl <| RW.st (Ex.fieldE fa100_2 (hM.rowNeD (α := api_Write) (p := 4) rfl hn93 hg137) rfl) rfl ?_
    obtain ⟨_, ⟨A138, n138, c138, s138, rfl, hF138⟩, hx139⟩ := DtL.getI (α := api_Write) (hd92.mono (hle106.trans hle123)) hg137
    refine RW.st (Ex.loadR hM 4 rfl to61 (hM.rowNeD (α := api_Write) (p := 4) rfl hn93 hg137) rfl (hx139 2 _ rfl)) rfl ?_
    obtain ⟨hg140, hm⟩ := hm
    refine RW.st (Ex.index st61 rfl rfl ((0 : Int).toNat) (hF138.ne hg140) hg140.nat (hF138.lt hg140)) rfl ?_
    obtain ⟨_, rfl, hx141⟩ := DtL.getI (α := Sec) hF138.dat hg140
    refine RW.st (Ex.loadEA hM (Hp.le.refl _) hF138.rdc [u8 (ix ((ix v85.1.Writes 0).Data) 0).b0, u8 (ix ((ix v85.1.Writes 0).Data) 0).b1, u8 (ix ((ix v85.1.Writes 0).Data) 0).b2, u8 (ix ((ix v85.1.Writes 0).Data) 0).b3, u8 (ix ((ix v85.1.Writes 0).Data) 0).b4, u8 (ix ((ix v85.1.Writes 0).Data) 0).b5, u8 (ix ((ix v85.1.Writes 0).Data) 0).b6, u8 (ix ((ix v85.1.Writes 0).Data) 0).b7] ta71 rfl (hF138.ne hg140) rfl (chunk_sub (off := 0) (n := 8) hx141 rfl)) rfl <| RW.st (Ex.buildA ba71 [(0, .int .u8 (1))] [.int .u8 (1), .int .u8 (0), .int .u8 (0), .int .u8 (0), .int .u8 (0), .int .u8 (0), .int .u8 (0), .int .u8 (0)] rfl rfl) rfl <| RW.st (Ex.eqlX (a := (ix ((ix v85.1.Writes 0).Data) 0)) (b := (Sec.mk (1#8) (0#8) (0#8) (0#8) (0#8) (0#8) (0#8) (0#8))) sx71 rfl rfl) rfl <| RW.st (Ex.pickT (.bool (decide ((ix ((ix v85.1.Writes 0).Data) 0) = (Sec.mk (1#8) (0#8) (0#8) (0#8) (0#8) (0#8) (0#8) (0#8))))) rfl rfl) rfl ?_
    refine RW.st (Ex.move (.bool (decide ((ix ((ix v85.1.Writes 0).Data) 0) = (Sec.mk (1#8) (0#8) (0#8) (0#8) (0#8) (0#8) (0#8) (0#8))))) rfl) rfl ?_
    refine RW.split 90 (p := (ix ((ix v85.1.Writes 0).Data) 0) = (Sec.mk (1#8) (0#8) (0#8) (0#8) (0#8) (0#8) (0#8) (0#8))) rfl (fun hc142 => ?_) (fun hc142 => ?_)
    ·
     replace hm := And.left hm hc142
     refine RW.st (Ex.fieldAddr fa45_4 rfl) rfl <| RW.st (Ex.load1 hM 2 to43 rfl rfl rfl) rfl ?_
     obtain ⟨hg143, hm⟩ := hm
     refine RW.st (Ex.index st43 rfl rfl ((1 : Int).toNat) (hM.rowNeD (α := api_Write) (p := 4) rfl hn93 hg143) hg143.nat (Nat.lt_of_lt_of_eq hg143.lt (hn93).symm)) rfl <| RW.st (Ex.fieldE fa100_2 (hM.rowNeD (α := api_Write) (p := 4) rfl hn93 hg143) rfl) rfl ?_
     obtain ⟨_, ⟨A144, n144, c144, s144, rfl, hF144⟩, hx145⟩ := DtL.getI (α := api_Write) (hd92.mono (hle106.trans hle123)) hg143
     refine RW.st (Ex.loadR hM 4 rfl to61 (hM.rowNeD (α := api_Write) (p := 4) rfl hn93 hg143) rfl (hx145 2 _ rfl)) rfl ?_
     obtain ⟨hg146, hm⟩ := hm
     refine RW.st (Ex.index st61 rfl rfl ((0 : Int).toNat) (hF144.ne hg146) hg146.nat (hF144.lt hg146)) rfl ?_
     obtain ⟨_, rfl, hx147⟩ := DtL.getI (α := Sec) hF144.dat hg146
     refine RW.st (Ex.loadEA hM (Hp.le.refl _) hF144.rdc [u8 (ix ((ix v85.1.Writes 1).Data) 0).b0, u8 (ix ((ix v85.1.Writes 1).Data) 0).b1, u8 (ix ((ix v85.1.Writes 1).Data) 0).b2, u8 (ix ((ix v85.1.Writes 1).Data) 0).b3, u8 (ix ((ix v85.1.Writes 1).Data) 0).b4, u8 (ix ((ix v85.1.Writes 1).Data) 0).b5, u8 (ix ((ix v85.1.Writes 1).Data) 0).b6, u8 (ix ((ix v85.1.Writes 1).Data) 0).b7] ta71 rfl (hF144.ne hg146) rfl (chunk_sub (off := 0) (n := 8) hx147 rfl)) rfl <| RW.st (Ex.buildA ba71 [(0, .int .u8 (9))] [.int .u8 (9), .int .u8 (0), .int .u8 (0), .int .u8 (0), .int .u8 (0), .int .u8 (0), .int .u8 (0), .int .u8 (0)] rfl rfl) rfl <| RW.st (Ex.eqlX (a := (ix ((ix v85.1.Writes 1).Data) 0)) (b := (Sec.mk (9#8) (0#8) (0#8) (0#8) (0#8) (0#8) (0#8) (0#8))) sx71 rfl rfl) rfl <| RW.st (Ex.pickT (.bool (decide ((ix ((ix v85.1.Writes 1).Data) 0) = (Sec.mk (9#8) (0#8) (0#8) (0#8) (0#8) (0#8) (0#8) (0#8))))) rfl rfl) rfl ?_
     refine RW.st (Ex.assign (.bool (decide ((ix ((ix v85.1.Writes 1).Data) 0) = (Sec.mk (9#8) (0#8) (0#8) (0#8) (0#8) (0#8) (0#8) (0#8))))) rfl) rfl <| RW.nil <| CW.ret ?_
     refine end_tmp (.inl rfl) rfl (.bool (decide ((ix ((ix v85.1.Writes 1).Data) 0) = (Sec.mk (9#8) (0#8) (0#8) (0#8) (0#8) (0#8) (0#8) (0#8))))) rfl ?_
     exact ⟨_, _, (hM.pick [] rfl rfl), decide ((ix ((ix v85.1.Writes 1).Data) 0) = (Sec.mk (9#8) (0#8) (0#8) (0#8) (0#8) (0#8) (0#8) (0#8))), hm, rfl, rfl⟩
    ·
     replace hm := And.right hm hc142
     refine RW.pass rfl rfl <| RW.pass rfl rfl <| RW.pass rfl rfl <| RW.pass rfl rfl <| RW.pass rfl rfl <| RW.pass rfl rfl <| RW.pass rfl rfl <| RW.pass rfl rfl <| RW.pass rfl rfl <| RW.st (Ex.pickF (.bool false) rfl rfl) rfl <| RW.st (Ex.assign (.bool false) rfl) rfl <| RW.nil <| CW.ret ?_
     refine end_tmp (.inl rfl) rfl (.bool false) rfl ?_
     exact ⟨_, _, (hM.pick [] rfl rfl), false, hm, rfl, rfl⟩
   ·
    replace hm := And.right hm hc136
    refine RW.pass rfl rfl <| RW.pass rfl rfl <| RW.pass rfl rfl <| RW.pass rfl rfl <| RW.pass rfl rfl <| RW.pass rfl rfl <| RW.pass rfl rfl <| RW.pass rfl rfl <| RW.pass rfl rfl <| RW.st (Ex.pickF (.bool false) rfl rfl) rfl <| RW.st (Ex.move (.bool false) rfl) rfl <| RW.pass rfl rfl <| RW.pass rfl rfl <| RW.pass rfl rfl ?_
    refine RW.pass rfl rfl <| RW.pass rfl rfl <| RW.pass rfl rfl <| RW.pass rfl rfl <| RW.pass rfl rfl <| RW.pass rfl rfl <| RW.st (Ex.pickF (.bool false) rfl rfl) rfl <| RW.st (Ex.assign (.bool false) rfl) rfl <| RW.nil <| CW.ret ?_
    refine end_tmp (.inl rfl) rfl (.bool false) rfl ?_
    exact ⟨_, _, (hM.pick [] rfl rfl), false, hm, rfl, rfl⟩
  ·
   replace hm := And.right hm hc119
   refine RW.pass rfl rfl <| RW.pass rfl rfl <| RW.pass rfl rfl <| RW.pass rfl rfl <| RW.pass rfl rfl <| RW.pass rfl rfl <| RW.st (Ex.pickF (.bool false) rfl rfl) rfl <| RW.st (Ex.move (.bool false) rfl) rfl <| RW.pass rfl rfl <| RW.pass rfl rfl <| RW.pass rfl rfl <| RW.pass rfl rfl <| RW.pass rfl rfl <| RW.pass rfl rfl ?_
   refine RW.pass rfl rfl <| RW.pass rfl rfl <| RW.pass rfl rfl <| RW.st (Ex.pickF (.bool false) rfl rfl) rfl <| RW.st (Ex.move (.bool false) rfl) rfl <| RW.pass rfl rfl <| RW.pass rfl rfl <| RW.pass rfl rfl <| RW.pass rfl rfl <| RW.pass rfl rfl <| RW.pass rfl rfl <| RW.pass rfl rfl <| RW.pass rfl rfl <| RW.pass rfl rfl ?_
   refine RW.st (Ex.pickF (.bool false) rfl rfl) rfl <| RW.st (Ex.assign (.bool false) rfl) rfl <| RW.nil <| CW.ret ?_
   refine end_tmp (.inl rfl) rfl (.bool false) rfl ?_
   exact ⟨_, _, (hM.pick [] rfl rfl), false, hm, rfl, rfl⟩
end Go.Proofs.YtahlanamngfkcaaDoor
