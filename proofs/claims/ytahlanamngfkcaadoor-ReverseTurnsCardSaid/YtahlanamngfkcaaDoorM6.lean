/- Part 6 of the proof of the statement ReverseTurnsCardSaid: lemmas. No condition of its own. -/
import Derived.Test.YtahlanamngfkcaaDoorM5
namespace Go.Proofs.YtahlanamngfkcaaDoor
open Go.RowKit
theorem law47_point_lift {H : Hp} (x0 : Int) (x1 : List (List Sec)) (x2 : List api_Span) (x3 : List api_Write) {A1 : Option Addr} {n1 c1 : Nat} {s1 : List Value} (hF1 : Fz (α := List Sec) H A1 n1 c1 x1 s1) {A2 : Option Addr} {n2 c2 : Nat} {s2 : List Value} (hF2 : Fz (α := api_Span) H A2 n2 c2 x2 s2) {A3 : Option Addr} {n3 c3 : Nat} {s3 : List Value} (hF3 : Fz (α := api_Write) H A3 n3 c3 x3 s3) {Φ : api_Point → Prop} (hm : law47_point_W x0 x1 x2 x3 Φ) : RetP Tryd.prog 38 #[.int .i64 x0, .slice A1 n1 c1, .slice A2 n2 c2, .slice A3 n3 c3] H (fun H' v L => ∃ y, Φ y ∧ ∃ A42, ∃ n42, ∃ c42, ∃ s42, ∃ A43, ∃ n43, ∃ c43, ∃ s43, ∃ A44, ∃ n44, ∃ c44, ∃ s44, v = .agg #[.int .i64 (y.Site), .slice A42 n42 c42, .slice A43 n43 c43, .slice A44 n44 c44] ∧ Fz (α := api_Span) H' A42 n42 c42 y.Lineage s42 ∧ DtL (α := api_Bitmap) H' s43 y.Dirty ∧ n43 = y.Dirty.length ∧ Fz (α := List Sec) H' A44 n44 c44 y.Image s44 ∧ L = [.row (.slice A43 n43 c43) 65 2 n43 s43]) := by
 refine RetP.of_code Tryd.func38 rfl (nb rfl) fun w0 hM => ?_
 refine CW.sr ?_
 refine RW.alloc hM tz27 [.int .i64 0, .slice none 0 0, .slice none 0 0, .slice none 0 0] rfl rfl rfl ?_; intro b4 w hM
 refine RW.nil <| CW.sr <| RW.st (Ex.move (.slice A1 n1 c1) rfl) rfl <| RW.st (Ex.move (.slice A3 n3 c3) rfl) rfl ?_
 refine RW.callP hM (ref07_Apply_lift x1 x3 hF1 hF3 hm) en89 rfl rfl rfl rfl ?_; rintro _ w H6 _ hle7 ⟨v5, hm, A8, n8, c8, s8, rs9, rfl, hd10, hn11, rfl⟩ hM
 replace hM := Mem.toTail (a := [.row (.slice A8 n8 c8) 61 1 n8 s8]) (b := rs9) (c := [.box b4 27 [.int .i64 0, .slice none 0 0, .slice none 0 0, .slice none 0 0]]) hM
 refine RW.st (Ex.move (.tuple #[.slice A8 n8 c8, .int .i64 v5.2.1, .int .i64 v5.2.2]) rfl) rfl <| RW.st (Ex.extract rfl rfl) rfl <| RW.st (Ex.extract rfl rfl) rfl <| RW.st (Ex.extract rfl rfl) rfl <| RW.st (Ex.assign (.slice A8 n8 c8) rfl) rfl <| RW.st (Ex.assign (.int .i64 v5.2.1) rfl) rfl <| RW.st (Ex.assign (.int .i64 v5.2.2) rfl) rfl <| RW.nil <| CW.sr <| RW.st (Ex.move (.int .i64 x0) rfl) rfl <| RW.st (Ex.move (.slice A2 n2 c2) rfl) rfl <| RW.st (Ex.move (.slice A1 n1 c1) rfl) rfl ?_
 refine RW.callP hM (ref07_SizesOf_lift x1 (hF1.mono hle7) hm) en57 rfl rfl rfl rfl ?_; rintro _ w H13 _ hle14 ⟨v12, hm, A15, n15, c15, s15, rfl, hd16, hn17, rfl⟩ hM
 obtain ⟨H18, hM, hle19, hF20⟩ := hM.giveF (α := Int) 0 rfl hd16 hn17
 refine RW.callP hM (ref43_Clean_lift v12 hF20 hm) en91 rfl rfl rfl rfl ?_; rintro _ w H22 _ hle23 ⟨v21, hm, A24, n24, c24, s24, rfl, hd25, hn26, rfl⟩ hM
 refine RW.st (Ex.move (.slice A3 n3 c3) rfl) rfl ?_
 obtain ⟨H27, hM, hle28, hF29⟩ := hM.giveF (α := api_Bitmap) 0 rfl hd25 hn26
 refine RW.callP hM (ref43_Mark_lift v21 x3 hF29 (hF3.mono ((((hle7.trans hle14).trans hle19).trans hle23).trans hle28)) hm) en90 rfl rfl rfl rfl ?_; rintro _ w H31 _ hle32 ⟨v30, hm, A33, n33, c33, s33, rfl, hd34, hn35, rfl⟩ hM
 refine RW.st (Ex.move (.slice A8 n8 c8) rfl) rfl <| RW.st (Ex.build bs27 [(0, .int .i64 x0), (1, .slice A2 n2 c2), (2, .slice A33 n33 c33), (3, .slice A8 n8 c8)] [.int .i64 x0, .slice A2 n2 c2, .slice A33 n33 c33, .slice A8 n8 c8] rfl rfl) rfl ?_
 refine RW.store hM 2 (.agg #[.int .i64 x0, .slice A2 n2 c2, .slice A33 n33 c33, .slice A8 n8 c8]) [.int .i64 x0, .slice A2 n2 c2, .slice A33 n33 c33, .slice A8 n8 c8] [.int .i64 x0, .slice A2 n2 c2, .slice A33 n33 c33, .slice A8 n8 c8] sz27 rfl rfl rfl (oneAll ⟨rfl, rfl, rfl, rfl, trivial⟩) rfl (nb rfl) rfl (.row (.slice A33 n33 c33) 65 2 n33 s33 :: .row (.slice A8 n8 c8) 61 1 n8 s8 :: .box b4 27 [.int .i64 x0, .slice A2 n2 c2, .slice A33 n33 c33, .slice A8 n8 c8] :: rs9) rfl rfl rfl ?_; intro w hM
 refine RW.nil <| CW.ret ?_
 obtain ⟨H36, hM, hle37, hd38⟩ := DeepL.flat (es := [.row (.slice A33 n33 c33) 65 2 n33 s33, .row (.slice A8 n8 c8) 61 1 n8 s8, .box b4 27 [.int .i64 x0, .slice A2 n2 c2, .slice A33 n33 c33, .slice A8 n8 c8]]) hM (hd10.mono ((((hle14.trans hle19).trans hle23).trans hle28).trans hle32))
 obtain ⟨H39, hM, hle40, hF41⟩ := hM.giveF (α := List Sec) 1 rfl hd38 hn11
 refine end_cell (k := 1) (.inl rfl) rfl hM rfl ta27 [.int .i64 x0, .slice A2 n2 c2, .slice A33 n33 c33, .slice A8 n8 c8] rfl rfl ?_
 exact ⟨_, _, (hM.pick [0] rfl rfl), (api_Point.mk x0 x2 v30 v5.1), hm, A2, n2, c2, s2, A33, n33, c33, s33, A8, n8, c8, s8, rfl, (hF2.mono (((((((hle7.trans hle14).trans hle19).trans hle23).trans hle28).trans hle32).trans hle37).trans hle40)), (hd34.mono (hle37.trans hle40)), hn35, hF41, rfl⟩
theorem delta_Check_lift {H : Hp} (x0 : api_Point) {A1 : Option Addr} {n1 c1 : Nat} {s1 : List Value} (hF1 : Fz (α := api_Span) H A1 n1 c1 x0.Lineage s1) {A2 : Option Addr} {n2 c2 : Nat} {s2 : List Value} (hF2 : Fz (α := api_Bitmap) H A2 n2 c2 x0.Dirty s2) {A3 : Option Addr} {n3 c3 : Nat} {s3 : List Value} (hF3 : Fz (α := List Sec) H A3 n3 c3 x0.Image s3) {Φ : Int → Prop} (hm : delta_Check_W x0 Φ) : RetP Tryd.prog 40 #[.agg #[.int .i64 x0.Site, .slice A1 n1 c1, .slice A2 n2 c2, .slice A3 n3 c3]] H (fun _ v L => ∃ y, Φ y ∧ v = .int .i64 (y) ∧ L = []) := by
 refine RetP.of_code Tryd.func40 rfl (nb rfl) fun w0 hM => ?_
 refine CW.sr ?_
 refine RW.box hM (.agg #[.int .i64 x0.Site, .slice A1 n1 c1, .slice A2 n2 c2, .slice A3 n3 c3]) [.int .i64 x0.Site, .slice A1 n1 c1, .slice A2 n2 c2, .slice A3 n3 c3] rfl rfl rfl rfl ?_; intro b4 w hM
 refine RW.st (Ex.assign (.int .i64 0) rfl) rfl <| RW.nil <| CW.seq <| CW.block <| CW.sr <| RW.st (Ex.fieldAddr fa27_0 rfl) rfl <| RW.st (Ex.load1 hM 0 to3 rfl rfl rfl) rfl ?_
 refine RW.callP hM (delta_in_lift x0.Site 0 hm) en92 rfl rfl rfl rfl ?_; rintro _ w H6 _ hle7 ⟨v5, hm, rfl, rfl⟩ hM
 refine RW.st (Ex.not (p := v5 = true) (bvar _)) rfl <| RW.st (Ex.assign (.bool (decide (¬ (v5 = true)))) rfl) rfl <| RW.nil ?_
 refine CW.cond_dec (p := ¬ (v5 = true)) rfl (fun hc8 => ?_) (fun hc8 => ?_)
 ·
  replace hm := And.left hm hc8
  refine CW.sr <| RW.st (Ex.assign (.int .i64 2) rfl) rfl <| RW.nil <| CW.ret ?_
  refine bqr (tqr ?_)
  refine end_tmp (.inl rfl) rfl (.int .i64 2) rfl ?_
  exact ⟨_, _, (hM.pick [] rfl rfl), 2, hm, rfl, rfl⟩
 ·
  replace hm := And.right hm hc8
  refine CW.sr <| RW.st (Ex.fieldAddr fa27_1 rfl) rfl <| RW.st (Ex.load1 hM 0 to22 rfl rfl rfl) rfl ?_
  refine RW.callP hM (delta_correct_lift x0.Lineage (hF1.mono hle7) hm) en93 rfl rfl rfl rfl ?_; rintro _ w H10 _ hle11 ⟨v9, hm, rfl, rfl⟩ hM
  refine RW.st (Ex.not (p := v9 = true) (bvar _)) rfl <| RW.st (Ex.assign (.bool (decide (¬ (v9 = true)))) rfl) rfl <| RW.nil ?_
  refine CW.cond_dec (p := ¬ (v9 = true)) rfl (fun hc12 => ?_) (fun hc12 => ?_)
  ·
   replace hm := And.left hm hc12
   refine CW.sr <| RW.st (Ex.assign (.int .i64 3) rfl) rfl <| RW.nil <| CW.ret ?_
   refine bqr (tqr ?_)
   refine end_tmp (.inl rfl) rfl (.int .i64 3) rfl ?_
   exact ⟨_, _, (hM.pick [] rfl rfl), 3, hm, rfl, rfl⟩
  ·
   replace hm := And.right hm hc12
   refine CW.skip <| CW.seq <| CW.sr <| RW.st (Ex.fieldAddr fa27_3 rfl) rfl <| RW.st (Ex.load1 hM 0 to25 rfl rfl rfl) rfl ?_
   refine RW.callP hM (image_Check_lift x0.Image (hF3.mono (hle7.trans hle11)) hm) en62 rfl rfl rfl rfl ?_; rintro _ w H14 _ hle15 ⟨v13, hm, rfl, rfl⟩ hM
   refine RW.st (Ex.assign (.int .i64 v13) rfl) rfl <| RW.nil <| CW.sr <| RW.st (Ex.move (.int .i64 v13) rfl) rfl <| RW.st (Ex.neq rfl rfl) rfl <| RW.nil ?_
   refine CW.cond_dec (p := v13 ≠ 0) rfl (fun hc16 => ?_) (fun hc16 => ?_)
   ·
    replace hm := And.left hm hc16
    refine CW.sr <| RW.st (Ex.move (.int .i64 v13) rfl) rfl <| RW.st (Ex.assign (.int .i64 v13) rfl) rfl <| RW.nil <| CW.ret ?_
    refine tqr ?_
    refine end_tmp (.inl rfl) rfl (.int .i64 v13) rfl ?_
    exact ⟨_, _, (hM.pick [] rfl rfl), v13, hm, rfl, rfl⟩
   ·
    replace hm := And.right hm hc16
    refine CW.skip <| CW.seq <| CW.sr <| RW.st (Ex.fieldAddr fa27_2 rfl) rfl <| RW.st (Ex.load1 hM 0 to23 rfl rfl rfl) rfl <| RW.st (Ex.lenN st23.1 rfl hF2.hn) rfl <| RW.st (Ex.fieldAddr fa27_3 rfl) rfl <| RW.st (Ex.load1 hM 0 to25 rfl rfl rfl) rfl <| RW.st (Ex.lenN st25.1 rfl hF3.hn) rfl <| RW.st (Ex.neq rfl rfl) rfl <| RW.nil ?_
    refine CW.cond_dec (p := (x0.Dirty.length : Int) ≠ (x0.Image.length : Int)) rfl (fun hc17 => ?_) (fun hc17 => ?_)
    ·
     replace hm := And.left hm hc17
     refine CW.sr <| RW.st (Ex.assign (.int .i64 6) rfl) rfl <| RW.nil <| CW.ret ?_
     refine tqr ?_
     refine end_tmp (.inl rfl) rfl (.int .i64 6) rfl ?_
     exact ⟨_, _, (hM.pick [] rfl rfl), 6, hm, rfl, rfl⟩
    ·
     replace hm := And.right hm hc17
     refine CW.skip <| CW.seq <| CW.sr <| RW.st (Ex.fieldAddr fa27_2 rfl) rfl <| RW.st (Ex.load1 hM 0 to23 rfl rfl rfl) rfl <| RW.st (Ex.lenN st23.1 rfl hF2.hn) rfl <| RW.st (Ex.move (.int .i64 0) rfl) rfl <| RW.nil <| CW.block ?_
     obtain ⟨m37, hm⟩ := hm
     skip
     refine CW.loop (β := Nat) (fun n σ w => ∃ (v20 : Int), ∃ Hk18, H14.le Hk18 ∧ (∃ τ, σ = sl [(1, .pointer (some ⟨b4, 0, none⟩)), (31, .slice A2 n2 c2), (32, .int .i64 ((x0.Dirty.length : Int))), (33, .int .i64 v20)] τ) ∧ Mem w0 H w Hk18 [.box b4 27 [.int .i64 x0.Site, .slice A1 n1 c1, .slice A2 n2 c2, .slice A3 n3 c3]] ∧ LoopN (delta_Check_L1 x0 Φ) n (v20)) (fun n => n) m37 ⟨0, H14, (Hp.le.refl _), slc ⟨rfl, rfl, rfl, rfl, trivial⟩, hM, hm⟩ ?_
     rintro k21 _ w ⟨v20, Hk18, hle19, ⟨τ, rfl⟩, hM, hm⟩
     obtain _ | k21 := k21
     · exact hm.elim
     replace hm : (delta_Check_L1 x0 Φ) (v20) (LoopN (delta_Check_L1 x0 Φ) k21) := hm
     generalize hrec22 : LoopN (delta_Check_L1 x0 Φ) k21 = rec1 at hm
     refine CW.sr <| RW.st (Ex.lss rfl rfl) rfl <| RW.nil <| CW.seq ?_
     refine CW.cond_dec (p := v20 < (x0.Dirty.length : Int)) rfl (fun hc23 => ?_) (fun hc23 => ?_)
     ·
      replace hm := And.left hm hc23
      refine CW.skip <| CW.seq <| CW.block <| CW.sr <| RW.st (Ex.move (.int .i64 v20) rfl) rfl ?_
      obtain ⟨hg24, hm⟩ := hm
      refine RW.st (Ex.index st23 rfl rfl v20.toNat (hF2.ne hg24) hg24.nat (hF2.lt hg24)) rfl ?_
      obtain ⟨_, ⟨A25, n25, c25, s25, rfl, hF25⟩, hx26⟩ := DtL.getI (α := api_Bitmap) (hF2.mono (((hle7.trans hle11).trans hle15).trans hle19)).dat hg24
      refine RW.st (Ex.loadEA hM (((hle7.trans hle11).trans hle15).trans hle19) hF2.rdc [.int .i64 ((ix x0.Dirty v20).Size), .slice A25 n25 c25] ta65 rfl (hF2.ne hg24) rfl (chunk_sub (off := 0) (n := 2) hx26 rfl)) rfl ?_
      refine RW.alloc hM tz65 [.int .i64 0, .slice none 0 0] rfl rfl rfl ?_; intro b27 w hM
      refine RW.st (Ex.assign (.int .i64 v20) rfl) rfl ?_
      refine RW.store hM 0 (.agg #[.int .i64 ((ix x0.Dirty v20).Size), .slice A25 n25 c25]) [.int .i64 ((ix x0.Dirty v20).Size), .slice A25 n25 c25] [.int .i64 ((ix x0.Dirty v20).Size), .slice A25 n25 c25] sz65 rfl rfl rfl (oneAll ⟨rfl, rfl, trivial⟩) rfl (nb rfl) rfl [.box b27 65 [.int .i64 ((ix x0.Dirty v20).Size), .slice A25 n25 c25], .box b4 27 [.int .i64 x0.Site, .slice A1 n1 c1, .slice A2 n2 c2, .slice A3 n3 c3]] rfl rfl rfl ?_; intro w hM
      refine RW.nil <| CW.seq <| CW.sr <| RW.st (Ex.loadA hM 0 [.int .i64 ((ix x0.Dirty v20).Size), .slice A25 n25 c25] ta65 rfl rfl rfl rfl) rfl ?_
      refine RW.callP hM (bitmap_Check_lift (ix x0.Dirty v20) hF25 hm) en94 rfl rfl rfl rfl ?_; rintro _ w H29 _ hle30 ⟨v28, hm, rfl, rfl⟩ hM
      refine RW.st (Ex.assign (.int .i64 v28) rfl) rfl <| RW.nil <| CW.sr <| RW.st (Ex.move (.int .i64 v28) rfl) rfl <| RW.st (Ex.neq rfl rfl) rfl <| RW.nil ?_
      refine CW.cond_dec (p := v28 ≠ 0) rfl (fun hc31 => ?_) (fun hc31 => ?_)
      ·
       replace hm := And.left hm hc31
       refine CW.sr <| RW.st (Ex.move (.int .i64 v28) rfl) rfl <| RW.st (Ex.assign (.int .i64 v28) rfl) rfl <| RW.nil <| CW.ret ?_
       refine tqr (bqr (tqr (tqr (bqr (tqr ?_)))))
       refine end_tmp (.inl rfl) rfl (.int .i64 v28) rfl ?_
       exact ⟨_, _, (hM.pick [] rfl rfl), v28, hm, rfl, rfl⟩
      ·
       replace hm := And.right hm hc31
       refine CW.skip <| CW.seq ?_
       obtain ⟨hg32, hm⟩ := hm
       obtain ⟨_, ⟨A33, n33, c33, s33, rfl, hF33⟩, hx34⟩ := DtL.getI (α := List Sec) (hF3.mono ((((hle7.trans hle11).trans hle15).trans hle19).trans hle30)).dat hg32
       refine CW.drawE 9 [.pointer (some ⟨b27, 0, none⟩), .int .i64 ((ix x0.Dirty v20).Size), .pointer (some ⟨b4, 3, none⟩), .slice A3 n3 c3, .int .i64 v20, elp A3 (v20.toNat * 1 + 0), .slice A33 n33 c33, .int .i64 (((ix x0.Image v20).length : Int)), .bool (decide (((ix x0.Dirty v20).Size) ≠ ((ix x0.Image v20).length : Int)))]
        [[(5, none)], [(43, some 0)], [(1, none)], [(45, some 2)], [(4, none)], [(46, some 3), (47, some 4)], [(48, some 5)], [(49, some 6)], [(44, some 1), (50, some 7)]] [(1, none), (31, none), (32, none), (33, none), (51, some 8)] (by kernel_rfl) hM (by kernel_rfl) ⟨?_, ?_, ?_, ?_, ?_, ?_, ?_, ?_, ?_, trivial⟩ ?_
       · exact One.ex (fun H' τ w hled hM => Ex.fieldAddr fa65_0 rfl) rfl (fun _ => rfl) rfl
       · exact One.ex (fun H' τ w hled hM => Ex.load1 hM 0 to3 rfl rfl rfl) rfl (fun _ => rfl) rfl
       · exact One.ex (fun H' τ w hled hM => Ex.fieldAddr fa27_3 rfl) rfl (fun _ => rfl) rfl
       · exact One.ex (fun H' τ w hled hM => Ex.load1 hM 1 to25 rfl rfl rfl) rfl (fun _ => rfl) rfl
       · exact One.ex (fun H' τ w hled hM => Ex.move (.int .i64 v20) rfl) rfl (fun _ => rfl) rfl
       · exact One.ex (fun H' τ w hled hM => Ex.index st25 rfl rfl v20.toNat (hF3.ne hg32) hg32.nat (hF3.lt hg32)) rfl (fun _ => rfl) rfl
       · exact One.ex (fun H' τ w hled hM => Ex.loadE hM (((((hle7.trans hle11).trans hle15).trans hle19).trans hle30).trans hled) hF3.rdc to61 rfl (hx34 0 _ rfl)) rfl (fun _ => rfl) rfl
       · exact One.ex (fun H' τ w hled hM => Ex.lenN st61.1 rfl hF33.hn) rfl (fun _ => rfl) rfl
       · exact One.ex (fun H' τ w hled hM => Ex.neq rfl rfl) rfl (fun _ => rfl) rfl
       intro τ w hM
       change RW _ _ _ _ _ _ _ _ (sl [(1, .pointer (some ⟨b4, 0, none⟩)), (31, .slice A2 n2 c2), (32, .int .i64 ((x0.Dirty.length : Int))), (33, .int .i64 v20), (51, .bool (decide (((ix x0.Dirty v20).Size) ≠ ((ix x0.Image v20).length : Int))))] τ) _
       refine RW.nil ?_
       refine CW.cond_dec (p := ((ix x0.Dirty v20).Size) ≠ ((ix x0.Image v20).length : Int)) rfl (fun hc35 => ?_) (fun hc35 => ?_)
       ·
        replace hm := And.left hm hc35
        refine CW.sr <| RW.st (Ex.assign (.int .i64 22) rfl) rfl <| RW.nil <| CW.ret ?_
        refine bqr (tqr (tqr (bqr (tqr ?_))))
        refine end_tmp (.inl rfl) rfl (.int .i64 22) rfl ?_
        exact ⟨_, _, (hM.pick [] rfl rfl), 22, hm, rfl, rfl⟩
       ·
        replace hm := And.right hm hc35
        refine CW.skip <| CW.region ?_
        obtain ⟨hg36, hm⟩ := hm
        refine RW.st (Ex.add rfl rfl hg36.1 hg36.2) rfl <| RW.st (Ex.move (.int .i64 (v20 + 1)) rfl) rfl <| RW.nil ?_
        exact And.intro rfl ⟨k21, ⟨v20 + 1, H29, hle19.trans hle30, slc ⟨rfl, rfl, rfl, rfl, trivial⟩, (hM.pick [1] rfl rfl), (by rw [hrec22]; exact hm)⟩, Nat.lt_succ_self _⟩
     ·
      replace hm := And.right hm hc23
      refine CW.exit ?_
      refine CW.sr <| RW.st (Ex.assign (.int .i64 0) rfl) rfl <| RW.nil <| CW.ret ?_
      refine end_tmp (.inl rfl) rfl (.int .i64 0) rfl ?_
      exact ⟨_, _, (hM.pick [] rfl rfl), 0, hm, rfl, rfl⟩
theorem image_Fits_lift {H : Hp} (x0 : List (List Sec)) (x1 : api_Write) {A1 : Option Addr} {n1 c1 : Nat} {s1 : List Value} (hF1 : Fz (α := List Sec) H A1 n1 c1 x0 s1) {A2 : Option Addr} {n2 c2 : Nat} {s2 : List Value} (hF2 : Fz (α := Sec) H A2 n2 c2 x1.Data s2) {Φ : Int → Prop} (hm : image_Fits_W x0 x1 Φ) : RetP Tryd.prog 144 #[.slice A1 n1 c1, .agg #[.int .i64 x1.Volume, .int .i64 x1.Start, .slice A2 n2 c2]] H (fun _ v L => ∃ y, Φ y ∧ v = .int .i64 (y) ∧ L = []) := by
 refine RetP.of_code Tryd.func144 rfl (nb rfl) fun w0 hM => ?_
 refine CW.sr ?_
 refine RW.box hM (.agg #[.int .i64 x1.Volume, .int .i64 x1.Start, .slice A2 n2 c2]) [.int .i64 x1.Volume, .int .i64 x1.Start, .slice A2 n2 c2] rfl rfl rfl rfl ?_; intro b3 w hM
 refine RW.st (Ex.assign (.int .i64 0) rfl) rfl <| RW.nil <| CW.seq <| CW.sr <| RW.st (Ex.move (.slice A1 n1 c1) rfl) rfl ?_
 refine RW.callP hM (image_Check_lift x0 hF1 hm) en62 rfl rfl rfl rfl ?_; rintro _ w H5 _ hle6 ⟨v4, hm, rfl, rfl⟩ hM
 refine RW.st (Ex.assign (.int .i64 v4) rfl) rfl <| RW.nil <| CW.sr <| RW.st (Ex.move (.int .i64 v4) rfl) rfl <| RW.st (Ex.neq rfl rfl) rfl <| RW.nil ?_
 refine CW.cond_dec (p := v4 ≠ 0) rfl (fun hc7 => ?_) (fun hc7 => ?_)
 ·
  replace hm := And.left hm hc7
  refine CW.sr <| RW.st (Ex.move (.int .i64 v4) rfl) rfl <| RW.st (Ex.assign (.int .i64 v4) rfl) rfl <| RW.nil <| CW.ret ?_
  refine tqr ?_
  refine end_tmp (.inl rfl) rfl (.int .i64 v4) rfl ?_
  exact ⟨_, _, (hM.pick [] rfl rfl), v4, hm, rfl, rfl⟩
 ·
  replace hm := And.right hm hc7
  refine CW.skip <| CW.sr <| RW.st (Ex.move (.slice A1 n1 c1) rfl) rfl <| RW.st (Ex.loadA hM 0 [.int .i64 x1.Volume, .int .i64 x1.Start, .slice A2 n2 c2] ta100 rfl rfl rfl rfl) rfl ?_
  refine RW.callP hM (image_fits_lift x0 x1 (hF1.mono hle6) (hF2.mono hle6) hm) en113 rfl rfl rfl rfl ?_; rintro _ w H9 _ hle10 ⟨v8, hm, rfl, rfl⟩ hM
  refine RW.st (Ex.assign (.int .i64 v8) rfl) rfl <| RW.nil <| CW.ret ?_
  refine end_tmp (.inl rfl) rfl (.int .i64 v8) rfl ?_
  exact ⟨_, _, (hM.pick [] rfl rfl), v8, hm, rfl, rfl⟩
theorem tracker_Check_lift {H : Hp} (x0 : api_Tracker) {A1 : Option Addr} {n1 c1 : Nat} {s1 : List Value} (hF1 : Fz (α := Int) H A1 n1 c1 x0.Sizes s1) {A2 : Option Addr} {n2 c2 : Nat} {s2 : List Value} (hF2 : Fz (α := api_Peer) H A2 n2 c2 x0.Peers s2) {Φ : Int → Prop} (hm : tracker_Check_W x0 Φ) : RetP Tryd.prog 78 #[.agg #[.slice A1 n1 c1, .slice A2 n2 c2]] H (fun _ v L => ∃ y, Φ y ∧ v = .int .i64 (y) ∧ L = []) := by
 refine RetP.of_code Tryd.func78 rfl (nb rfl) fun w0 hM => ?_
 refine CW.sr ?_
 refine RW.box hM (.agg #[.slice A1 n1 c1, .slice A2 n2 c2]) [.slice A1 n1 c1, .slice A2 n2 c2] rfl rfl rfl rfl ?_; intro b3 w hM
 refine RW.st (Ex.assign (.int .i64 0) rfl) rfl <| RW.nil <| CW.seq <| CW.sr <| RW.st (Ex.fieldAddr fa85_0 rfl) rfl <| RW.st (Ex.load1 hM 0 to40 rfl rfl rfl) rfl ?_
 refine RW.callP hM (image_New_lift x0.Sizes hF1 hm) en102 rfl rfl rfl rfl ?_; rintro _ w H5 _ hle6 ⟨v4, hm, A7, n7, c7, s7, rfl, hF7, rfl⟩ hM
 refine RW.st (Ex.move (.tuple #[.slice A7 n7 c7, .int .i64 v4.2]) rfl) rfl <| RW.st (Ex.extract rfl rfl) rfl <| RW.st (Ex.extract rfl rfl) rfl <| RW.st (Ex.assign (.slice A7 n7 c7) rfl) rfl <| RW.st (Ex.assign (.int .i64 v4.2) rfl) rfl <| RW.nil <| CW.sr <| RW.st (Ex.move (.int .i64 v4.2) rfl) rfl <| RW.st (Ex.neq rfl rfl) rfl <| RW.nil ?_
 refine CW.cond_dec (p := v4.2 ≠ 0) rfl (fun hc8 => ?_) (fun hc8 => ?_)
 ·
  replace hm := And.left hm hc8
  refine CW.sr <| RW.st (Ex.move (.int .i64 v4.2) rfl) rfl <| RW.st (Ex.assign (.int .i64 v4.2) rfl) rfl <| RW.nil <| CW.ret ?_
  refine tqr ?_
  refine end_tmp (.inl rfl) rfl (.int .i64 v4.2) rfl ?_
  exact ⟨_, _, (hM.pick [] rfl rfl), v4.2, hm, rfl, rfl⟩
 ·
  replace hm := And.right hm hc8
  refine CW.skip <| CW.seq <| CW.sr <| RW.st (Ex.fieldAddr fa85_1 rfl) rfl <| RW.st (Ex.load1 hM 0 to83 rfl rfl rfl) rfl <| RW.st (Ex.lenN st83.1 rfl hF2.hn) rfl <| RW.st (Ex.gtr rfl rfl) rfl <| RW.nil ?_
  refine CW.cond_dec (p := 4 < (x0.Peers.length : Int)) rfl (fun hc9 => ?_) (fun hc9 => ?_)
  ·
   replace hm := And.left hm hc9
   refine CW.sr <| RW.st (Ex.assign (.int .i64 6) rfl) rfl <| RW.nil <| CW.ret ?_
   refine tqr ?_
   refine end_tmp (.inl rfl) rfl (.int .i64 6) rfl ?_
   exact ⟨_, _, (hM.pick [] rfl rfl), 6, hm, rfl, rfl⟩
  ·
   replace hm := And.right hm hc9
   refine CW.skip <| CW.sr <| RW.st (Ex.assign (.int .i64 ((-1))) rfl) rfl <| RW.nil <| CW.seq <| CW.sr <| RW.st (Ex.fieldAddr fa85_1 rfl) rfl <| RW.st (Ex.load1 hM 0 to83 rfl rfl rfl) rfl <| RW.st (Ex.lenN st83.1 rfl hF2.hn) rfl <| RW.st (Ex.move (.int .i64 0) rfl) rfl <| RW.nil <| CW.block ?_
   obtain ⟨m35, hm⟩ := hm
   skip
   refine CW.loop (β := Nat) (fun n σ w => ∃ (v12 : Int), ∃ (v13 : Int), ∃ Hk10, H5.le Hk10 ∧ (∃ τ, σ = sl [(1, .pointer (some ⟨b3, 0, none⟩)), (5, .int .i64 v12), (23, .slice A2 n2 c2), (24, .int .i64 ((x0.Peers.length : Int))), (25, .int .i64 v13)] τ) ∧ Mem w0 H w Hk10 [.box b3 85 [.slice A1 n1 c1, .slice A2 n2 c2]] ∧ LoopN (tracker_Check_L1 x0 Φ) n (v12, v13)) (fun n => n) m35 ⟨(-1), 0, H5, (Hp.le.refl _), slc ⟨rfl, rfl, rfl, rfl, rfl, trivial⟩, hM, hm⟩ ?_
   rintro k14 _ w ⟨v12, v13, Hk10, hle11, ⟨τ, rfl⟩, hM, hm⟩
   obtain _ | k14 := k14
   · exact hm.elim
   replace hm : (tracker_Check_L1 x0 Φ) (v12, v13) (LoopN (tracker_Check_L1 x0 Φ) k14) := hm
   generalize hrec15 : LoopN (tracker_Check_L1 x0 Φ) k14 = rec1 at hm
   refine CW.sr <| RW.st (Ex.lss rfl rfl) rfl <| RW.nil <| CW.seq ?_
   refine CW.cond_dec (p := v13 < (x0.Peers.length : Int)) rfl (fun hc16 => ?_) (fun hc16 => ?_)
   ·
    replace hm := And.left hm hc16
    refine CW.skip <| CW.seq <| CW.block <| CW.sr ?_
    obtain ⟨hg17, hm⟩ := hm
    refine RW.st (Ex.index st83 rfl rfl v13.toNat (hF2.ne hg17) hg17.nat (hF2.lt hg17)) rfl ?_
    obtain ⟨_, ⟨A18, n18, c18, s18, rfl, hF18⟩, hx19⟩ := DtL.getI (α := api_Peer) (hF2.mono (hle6.trans hle11)).dat hg17
    refine RW.st (Ex.loadEA hM (hle6.trans hle11) hF2.rdc [.int .i64 ((ix x0.Peers v13).Site), .int .i64 ((ix x0.Peers v13).Common), .slice A18 n18 c18] ta142 rfl (hF2.ne hg17) rfl (chunk_sub (off := 0) (n := 3) hx19 rfl)) rfl ?_
    refine RW.alloc hM tz142 [.int .i64 0, .int .i64 0, .slice none 0 0] rfl rfl rfl ?_; intro b20 w hM
    refine RW.store hM 0 (.agg #[.int .i64 ((ix x0.Peers v13).Site), .int .i64 ((ix x0.Peers v13).Common), .slice A18 n18 c18]) [.int .i64 ((ix x0.Peers v13).Site), .int .i64 ((ix x0.Peers v13).Common), .slice A18 n18 c18] [.int .i64 ((ix x0.Peers v13).Site), .int .i64 ((ix x0.Peers v13).Common), .slice A18 n18 c18] sz142 rfl rfl rfl (oneAll ⟨rfl, rfl, rfl, trivial⟩) rfl (nb rfl) rfl [.box b20 142 [.int .i64 ((ix x0.Peers v13).Site), .int .i64 ((ix x0.Peers v13).Common), .slice A18 n18 c18], .box b3 85 [.slice A1 n1 c1, .slice A2 n2 c2]] rfl rfl rfl ?_; intro w hM
    refine RW.nil <| CW.seq <| CW.block <| CW.sr <| RW.st (Ex.fieldAddr fa142_0 rfl) rfl <| RW.st (Ex.load1 hM 0 to3 rfl rfl rfl) rfl ?_
    refine RW.callP hM (tracker_site_lift ((ix x0.Peers v13).Site) hm) en120 rfl rfl rfl rfl ?_; rintro _ w H22 _ hle23 ⟨v21, hm, rfl, rfl⟩ hM
    refine RW.st (Ex.not (p := v21 = true) (bvar _)) rfl <| RW.st (Ex.assign (.bool (decide (¬ (v21 = true)))) rfl) rfl <| RW.nil ?_
    refine CW.cond_dec (p := ¬ (v21 = true)) rfl (fun hc24 => ?_) (fun hc24 => ?_)
    ·
     replace hm := And.left hm hc24
     refine CW.sr <| RW.st (Ex.assign (.int .i64 2) rfl) rfl <| RW.nil <| CW.ret ?_
     refine bqr (tqr (bqr (tqr (tqr (bqr (tqr ?_))))))
     refine end_tmp (.inl rfl) rfl (.int .i64 2) rfl ?_
     exact ⟨_, _, (hM.pick [] rfl rfl), 2, hm, rfl, rfl⟩
    ·
     replace hm := And.right hm hc24
     refine CW.sr <| RW.st (Ex.fieldAddr fa142_0 rfl) rfl <| RW.st (Ex.load1 hM 0 to3 rfl rfl rfl) rfl <| RW.st (Ex.move (.int .i64 v12) rfl) rfl <| RW.st (Ex.leq rfl rfl) rfl <| RW.st (Ex.assign (.bool (decide (((ix x0.Peers v13).Site) ≤ v12))) rfl) rfl <| RW.nil ?_
     refine CW.cond_dec (p := ((ix x0.Peers v13).Site) ≤ v12) rfl (fun hc25 => ?_) (fun hc25 => ?_)
     ·
      replace hm := And.left hm hc25
      refine CW.sr <| RW.st (Ex.assign (.int .i64 8) rfl) rfl <| RW.nil <| CW.ret ?_
      refine bqr (tqr (bqr (tqr (tqr (bqr (tqr ?_))))))
      refine end_tmp (.inl rfl) rfl (.int .i64 8) rfl ?_
      exact ⟨_, _, (hM.pick [] rfl rfl), 8, hm, rfl, rfl⟩
     ·
      replace hm := And.right hm hc25
      refine CW.sr <| RW.st (Ex.fieldAddr fa142_1 rfl) rfl <| RW.st (Ex.load1 hM 0 to3 rfl rfl rfl) rfl ?_
      refine RW.callP hM (tracker_between_lift ((ix x0.Peers v13).Common) 0 1073741824 hm) en121 rfl rfl rfl rfl ?_; rintro _ w H27 _ hle28 ⟨v26, hm, rfl, rfl⟩ hM
      refine RW.st (Ex.not (p := v26 = true) (bvar _)) rfl <| RW.st (Ex.assign (.bool (decide (¬ (v26 = true)))) rfl) rfl <| RW.nil ?_
      refine CW.cond_dec (p := ¬ (v26 = true)) rfl (fun hc29 => ?_) (fun hc29 => ?_)
      ·
       replace hm := And.left hm hc29
       refine CW.sr <| RW.st (Ex.assign (.int .i64 2) rfl) rfl <| RW.nil <| CW.ret ?_
       refine bqr (tqr (bqr (tqr (tqr (bqr (tqr ?_))))))
       refine end_tmp (.inl rfl) rfl (.int .i64 2) rfl ?_
       exact ⟨_, _, (hM.pick [] rfl rfl), 2, hm, rfl, rfl⟩
      ·
       replace hm := And.right hm hc29
       refine CW.skip <| CW.seq <| CW.sr <| RW.st (Ex.fieldAddr fa142_2 rfl) rfl <| RW.st (Ex.load1 hM 0 to23 rfl rfl rfl) rfl <| RW.st (Ex.fieldAddr fa85_0 rfl) rfl <| RW.st (Ex.load1 hM 1 to40 rfl rfl rfl) rfl ?_
       refine RW.callP hM (tracker_checkBitmaps_lift ((ix x0.Peers v13).Dirty) x0.Sizes (hF18.mono (hle23.trans hle28)) (hF1.mono (((hle6.trans hle11).trans hle23).trans hle28)) hm) en122 rfl rfl rfl rfl ?_; rintro _ w H31 _ hle32 ⟨v30, hm, rfl, rfl⟩ hM
       refine RW.st (Ex.assign (.int .i64 v30) rfl) rfl <| RW.nil <| CW.sr <| RW.st (Ex.move (.int .i64 v30) rfl) rfl <| RW.st (Ex.neq rfl rfl) rfl <| RW.nil ?_
       refine CW.cond_dec (p := v30 ≠ 0) rfl (fun hc33 => ?_) (fun hc33 => ?_)
       ·
        replace hm := And.left hm hc33
        refine CW.sr <| RW.st (Ex.move (.int .i64 v30) rfl) rfl <| RW.st (Ex.assign (.int .i64 v30) rfl) rfl <| RW.nil <| CW.ret ?_
        refine tqr (bqr (tqr (tqr (bqr (tqr ?_)))))
        refine end_tmp (.inl rfl) rfl (.int .i64 v30) rfl ?_
        exact ⟨_, _, (hM.pick [] rfl rfl), v30, hm, rfl, rfl⟩
       ·
        replace hm := And.right hm hc33
        refine CW.skip <| CW.region <| RW.st (Ex.fieldAddr fa142_0 rfl) rfl <| RW.st (Ex.load1 hM 0 to3 rfl rfl rfl) rfl <| RW.st (Ex.assign (.int .i64 ((ix x0.Peers v13).Site)) rfl) rfl <| RW.nil <| CW.region ?_
        obtain ⟨hg34, hm⟩ := hm
        refine RW.st (Ex.add rfl rfl hg34.1 hg34.2) rfl <| RW.st (Ex.move (.int .i64 (v13 + 1)) rfl) rfl <| RW.nil ?_
        exact And.intro rfl ⟨k14, ⟨(ix x0.Peers v13).Site, v13 + 1, H31, hle11.trans ((hle23.trans hle28).trans hle32), slc ⟨rfl, rfl, rfl, rfl, rfl, trivial⟩, (hM.pick [1] rfl rfl), (by rw [hrec15]; exact hm)⟩, Nat.lt_succ_self _⟩
   ·
    replace hm := And.right hm hc16
    refine CW.exit ?_
    refine CW.sr <| RW.st (Ex.assign (.int .i64 0) rfl) rfl <| RW.nil <| CW.ret ?_
    refine end_tmp (.inl rfl) rfl (.int .i64 0) rfl ?_
    exact ⟨_, _, (hM.pick [] rfl rfl), 0, hm, rfl, rfl⟩
theorem reverse_Turn_lift {H : Hp} (x0 : api_Tracker) (x1 : Int) (x2 : Int) (x3 : List (List api_Extent)) {A1 : Option Addr} {n1 c1 : Nat} {s1 : List Value} (hF1 : Fz (α := Int) H A1 n1 c1 x0.Sizes s1) {A2 : Option Addr} {n2 c2 : Nat} {s2 : List Value} (hF2 : Fz (α := api_Peer) H A2 n2 c2 x0.Peers s2) {A3 : Option Addr} {n3 c3 : Nat} {s3 : List Value} (hF3 : Fz (α := List api_Extent) H A3 n3 c3 x3 s3) {Φ : api_Tracker × Int → Prop} (hm : reverse_Turn_W x0 x1 x2 x3 Φ) : RetP Tryd.prog 34 #[.agg #[.slice A1 n1 c1, .slice A2 n2 c2], .int .i64 x1, .int .i64 x2, .slice A3 n3 c3] H (fun H' v L => ∃ y, Φ y ∧ ∃ A242, ∃ n242, ∃ c242, ∃ s242, ∃ A243, ∃ n243, ∃ c243, ∃ s243, v = .tuple #[.agg #[.slice A242 n242 c242, .slice A243 n243 c243], .int .i64 (y.2)] ∧ DtL (α := Int) H' s242 y.1.Sizes ∧ n242 = y.1.Sizes.length ∧ DtL (α := api_Peer) H' s243 y.1.Peers ∧ n243 = y.1.Peers.length ∧ L = [.row (.slice A242 n242 c242) 3 1 n242 s242, .row (.slice A243 n243 c243) 142 3 n243 s243]) := by
 refine RetP.of_code Tryd.func34 rfl (nb rfl) fun w0 hM => ?_
 refine CW.sr ?_
 refine RW.box hM (.agg #[.slice A1 n1 c1, .slice A2 n2 c2]) [.slice A1 n1 c1, .slice A2 n2 c2] rfl rfl rfl rfl ?_; intro b4 w hM
 refine RW.box hM (.int .i64 x1) [.int .i64 x1] rfl rfl rfl rfl ?_; intro b5 w hM
 refine RW.alloc hM tz85 [.slice none 0 0, .slice none 0 0] rfl rfl rfl ?_; intro b6 w hM
 refine RW.st (Ex.assign (.int .i64 0) rfl) rfl <| RW.nil ?_
 refine CW.scope 0 (fun D σ w => D = [] ∧ ∃ (v9 : Int), ∃ Hk7, H.le Hk7 ∧ (∃ τ, σ = sl [(8, .pointer (some ⟨b6, 0, none⟩)), (10, .int .i64 v9)] τ) ∧ Mem w0 H w Hk7 [.box b6 85 [.slice none 0 0, .slice none 0 0]] ∧ reverse_Turn_J1 Φ v9) rfl ?_ ?_
 ·
  refine CW.sr <| RW.st (Ex.loadA hM 2 [.slice A1 n1 c1, .slice A2 n2 c2] ta85 rfl rfl rfl rfl) rfl ?_
  refine RW.callP hM (tracker_Check_lift x0 hF1 hF2 hm) en78 rfl rfl rfl rfl ?_; rintro _ w H11 _ hle12 ⟨v10, hm, rfl, rfl⟩ hM
  refine RW.st (Ex.assign (.int .i64 v10) rfl) rfl <| RW.nil <| CW.sr <| RW.st (Ex.fieldAddr fa85_1 rfl) rfl <| RW.st (Ex.load1 hM 2 to83 rfl rfl rfl) rfl <| RW.st (Ex.makeFunc (fs := []) (cs := [.pointer (some ⟨b5, 0, none⟩)]) rfl rfl) rfl ?_
  have hM1 := hM
  obtain ⟨H13, hM, hle14, hb15⟩ := hM.giveBox 1 rfl
  refine RW.callB hM1 hM (slices_IndexFunc_api_Peer_api_Peer__reverse_Turn_1_lift x0.Peers x1 (hF2.mono (hle12.trans hle14)) hb15 hm) en79 rfl rfl rfl rfl ?_; clear hM hM1; intro v16 w hm hM
  refine RW.st (Ex.assign (.int .i64 v16) rfl) rfl <| RW.nil <| CW.sr <| RW.st (Ex.assign (.slice none 0 0) rfl) rfl <| RW.nil <| CW.sr <| RW.st (Ex.fieldAddr fa85_0 rfl) rfl <| RW.st (Ex.load1 hM 2 to40 rfl rfl rfl) rfl ?_
  refine RW.callP hM (slices_Clone_int_int_lift x0.Sizes (hF1.mono hle12) hm) en51 rfl rfl rfl rfl ?_; rintro _ w H20 _ hle21 ⟨v19, hm, A22, n22, c22, s22, rfl, hd23, hn24, rfl⟩ hM
  refine RW.st (Ex.build bs85 [(0, .slice A22 n22 c22)] [.slice A22 n22 c22, .slice none 0 0] rfl rfl) rfl ?_
  refine RW.alloc hM tz85 [.slice none 0 0, .slice none 0 0] rfl rfl rfl ?_; intro b25 w hM
  refine RW.store hM 0 (.agg #[.slice A22 n22 c22, .slice none 0 0]) [.slice A22 n22 c22, .slice none 0 0] [.slice A22 n22 c22, .slice none 0 0] sz85 rfl rfl rfl (oneAll ⟨rfl, rfl, trivial⟩) rfl (nb rfl) rfl [.box b25 85 [.slice A22 n22 c22, .slice none 0 0], .row (.slice A22 n22 c22) 3 1 n22 s22, .box b6 85 [.slice none 0 0, .slice none 0 0], .box b5 3 [.int .i64 x1], .box b4 85 [.slice A1 n1 c1, .slice A2 n2 c2]] rfl rfl rfl ?_; intro w hM
  refine RW.nil <| CW.seq <| CW.block <| CW.sr <| RW.st (Ex.move (.int .i64 v10) rfl) rfl <| RW.st (Ex.neq rfl rfl) rfl <| RW.st (Ex.assign (.bool (decide (v10 ≠ 0))) rfl) rfl <| RW.nil ?_
  refine CW.cond_dec (p := v10 ≠ 0) rfl (fun hc26 => ?_) (fun hc26 => ?_)
  ·
   replace hm := And.left hm hc26
   refine CW.goto ?_
   exact And.intro rfl (And.intro rfl ⟨v10, H20, (hle12.trans hle21), slc ⟨rfl, rfl, trivial⟩, (hM.pick [2] rfl rfl), hm⟩)
  ·
   replace hm := And.right hm hc26
   refine CW.sr <| RW.st (Ex.move (.int .i64 v16) rfl) rfl <| RW.st (Ex.lss rfl rfl) rfl <| RW.st (Ex.assign (.bool (decide (v16 < 0))) rfl) rfl <| RW.nil ?_
   refine CW.cond_dec (p := v16 < 0) rfl (fun hc27 => ?_) (fun hc27 => ?_)
   ·
    replace hm := And.left hm hc27
    refine CW.sr <| RW.st (Ex.assign (.int .i64 7) rfl) rfl <| RW.nil ?_
    refine CW.goto ?_
    exact And.intro rfl (And.intro rfl ⟨7, H20, (hle12.trans hle21), slc ⟨rfl, rfl, trivial⟩, (hM.pick [2] rfl rfl), hm⟩)
   ·
    replace hm := And.right hm hc27
    skip
    refine CW.cut (fun D σ w => D = [] ∧ (∃ τ, σ = sl [(2, .int .i64 x2), (3, .slice A3 n3 c3), (4, .pointer (some ⟨b4, 0, none⟩)), (5, .pointer (some ⟨b5, 0, none⟩)), (8, .pointer (some ⟨b6, 0, none⟩)), (11, .int .i64 v16), (12, .slice none 0 0), (13, .pointer (some ⟨b25, 0, none⟩)), (36, .bool (decide ((x2 < 0) ∨ (1073741824 < x2))))] τ) ∧ Mem w0 H w H20 [.box b25 85 [.slice A22 n22 c22, .slice none 0 0], .row (.slice A22 n22 c22) 3 1 n22 s22, .box b6 85 [.slice none 0 0, .slice none 0 0], .box b5 3 [.int .i64 x1], .box b4 85 [.slice A1 n1 c1, .slice A2 n2 c2]]) ?_ ?_
    ·
     skip
     refine CW.region <| RW.st (Ex.move (.int .i64 x2) rfl) rfl <| RW.st (Ex.lss rfl rfl) rfl <| RW.st (Ex.move (.bool (decide (x2 < 0))) rfl) rfl ?_
     refine RW.split 39 (p := x2 < 0) rfl (fun hc28 => ?_) (fun hc28 => ?_)
     ·
      skip
      refine RW.pp <| RW.st (Ex.pickT (.bool true) rfl rfl) rfl <| RW.st (Ex.assign (.bool true) rfl) rfl <| RW.nil ?_
      exact And.intro rfl (And.intro (slc ⟨rfl, rfl, rfl, rfl, rfl, rfl, rfl, rfl, (congrArg Value.bool (decide_eq_true (.inl hc28)).symm), trivial⟩) hM)
     ·
      skip
      refine RW.st (Ex.move (.int .i64 x2) rfl) rfl <| RW.st (Ex.gtr rfl rfl) rfl <| RW.st (Ex.pickF (.bool (decide (1073741824 < x2))) rfl rfl) rfl <| RW.st (Ex.assign (.bool (decide (1073741824 < x2))) rfl) rfl <| RW.nil ?_
      exact And.intro rfl (And.intro (slc ⟨rfl, rfl, rfl, rfl, rfl, rfl, rfl, rfl, (congrArg Value.bool (decide_eq_decide.2 (imOr hc28 Iff.rfl))), trivial⟩) hM)
    rintro _ _ w ⟨rfl, ⟨τ, rfl⟩, hM⟩
    refine CW.cond_dec (p := (x2 < 0) ∨ (1073741824 < x2)) rfl (fun hc29 => ?_) (fun hc29 => ?_)
    ·
     replace hm := And.left hm hc29
     refine CW.sr <| RW.st (Ex.assign (.int .i64 2) rfl) rfl <| RW.nil ?_
     refine CW.goto ?_
     exact And.intro rfl (And.intro rfl ⟨2, H20, (hle12.trans hle21), slc ⟨rfl, rfl, trivial⟩, (hM.pick [2] rfl rfl), hm⟩)
    ·
     replace hm := And.right hm hc29
     refine CW.sr <| RW.st (Ex.move (.slice A3 n3 c3) rfl) rfl <| RW.st (Ex.lenN st30.1 rfl hF3.hn) rfl <| RW.st (Ex.fieldAddr fa85_0 rfl) rfl <| RW.st (Ex.load1 hM 4 to40 rfl rfl rfl) rfl <| RW.st (Ex.lenN st40.1 rfl hF1.hn) rfl <| RW.st (Ex.neq rfl rfl) rfl <| RW.st (Ex.assign (.bool (decide ((x3.length : Int) ≠ (x0.Sizes.length : Int)))) rfl) rfl <| RW.nil ?_
     refine CW.cond_dec (p := (x3.length : Int) ≠ (x0.Sizes.length : Int)) rfl (fun hc30 => ?_) (fun hc30 => ?_)
     ·
      replace hm := And.left hm hc30
      refine CW.sr <| RW.st (Ex.assign (.int .i64 6) rfl) rfl <| RW.nil ?_
      refine CW.goto ?_
      exact And.intro rfl (And.intro rfl ⟨6, H20, (hle12.trans hle21), slc ⟨rfl, rfl, trivial⟩, (hM.pick [2] rfl rfl), hm⟩)
     ·
      replace hm := And.right hm hc30
      refine CW.skip <| CW.seq <| CW.sr <| RW.st (Ex.fieldAddr fa85_0 rfl) rfl <| RW.st (Ex.load1 hM 4 to40 rfl rfl rfl) rfl <| RW.st (Ex.lenN st40.1 rfl hF1.hn) rfl <| RW.st (Ex.move (.int .i64 0) rfl) rfl <| RW.nil <| CW.block ?_
      obtain ⟨m241, hm⟩ := hm
      skip
      replace hM := hM.nilRow 65 2
      refine CW.loop (β := Nat) (fun n σ w => ∃ (v33 : List api_Bitmap), ∃ (A34 : Option Addr), ∃ (n35 : Nat), ∃ (c36 : Nat), ∃ (s37 : List Value), ∃ (v40 : Int), ∃ Hk31, H20.le Hk31 ∧ (∃ τ, σ = sl [(2, .int .i64 x2), (3, .slice A3 n3 c3), (4, .pointer (some ⟨b4, 0, none⟩)), (5, .pointer (some ⟨b5, 0, none⟩)), (8, .pointer (some ⟨b6, 0, none⟩)), (11, .int .i64 v16), (12, .slice A34 n35 c36), (13, .pointer (some ⟨b25, 0, none⟩)), (51, .slice A1 n1 c1), (52, .int .i64 ((x0.Sizes.length : Int))), (53, .int .i64 v40)] τ) ∧ Mem w0 H w Hk31 [.box b4 85 [.slice A1 n1 c1, .slice A2 n2 c2], .box b5 3 [.int .i64 x1], .box b6 85 [.slice none 0 0, .slice none 0 0], .box b25 85 [.slice A22 n22 c22, .slice none 0 0], .row (.slice A34 n35 c36) 65 2 n35 s37, .row (.slice A22 n22 c22) 3 1 n22 s22] ∧ (DtL (α := api_Bitmap) Hk31 s37 v33) ∧ (n35 = v33.length) ∧ LoopN (reverse_Turn_L2 x0 x1 x2 x3 v16 v19 Φ) n (v33, v40)) (fun n => n) m241 ⟨([] : List api_Bitmap), none, 0, 0, [], 0, H20, (Hp.le.refl _), slc ⟨rfl, rfl, rfl, rfl, rfl, rfl, rfl, rfl, rfl, rfl, rfl, trivial⟩, (hM.pick [5, 4, 3, 1, 0, 2] rfl rfl), (DtL.nil : DtL _ [] ([] : List api_Bitmap)), rfl, hm⟩ ?_
      rintro k41 _ w ⟨v33, A34, n35, c36, s37, v40, Hk31, hle32, ⟨τ, rfl⟩, hM, hd38, hn39, hm⟩
      obtain _ | k41 := k41
      · exact hm.elim
      replace hm : (reverse_Turn_L2 x0 x1 x2 x3 v16 v19 Φ) (v33, v40) (LoopN (reverse_Turn_L2 x0 x1 x2 x3 v16 v19 Φ) k41) := hm
      generalize hrec42 : LoopN (reverse_Turn_L2 x0 x1 x2 x3 v16 v19 Φ) k41 = rec2 at hm
      refine CW.sr <| RW.st (Ex.lss rfl rfl) rfl <| RW.nil <| CW.seq ?_
      refine CW.cond_dec (p := v40 < (x0.Sizes.length : Int)) rfl (fun hc43 => ?_) (fun hc43 => ?_)
      ·
       replace hm := And.left hm hc43
       refine CW.skip <| CW.seq <| CW.block <| CW.sr <| RW.st (Ex.move (.int .i64 v40) rfl) rfl ?_
       obtain ⟨hg54, hm⟩ := hm
       refine RW.st (Ex.index st40 rfl rfl v40.toNat (hF1.ne hg54) hg54.nat (hF1.lt hg54)) rfl ?_
       obtain ⟨_, rfl, hx55⟩ := DtL.getI (α := Int) (hF1.mono ((hle12.trans hle21).trans hle32)).dat hg54
       refine RW.st (Ex.loadE hM ((hle12.trans hle21).trans hle32) hF1.rdc to3 rfl (hx55 0 _ rfl)) rfl <| RW.st (Ex.assign (.int .i64 v40) rfl) rfl <| RW.st (Ex.assign (.int .i64 ((ix x0.Sizes v40))) rfl) rfl <| RW.nil <| CW.sr <| RW.st (Ex.move (.int .i64 ((ix x0.Sizes v40))) rfl) rfl <| RW.st (Ex.move (.slice A3 n3 c3) rfl) rfl <| RW.st (Ex.move (.int .i64 v40) rfl) rfl ?_
       obtain ⟨hg56, hm⟩ := hm
       refine RW.st (Ex.index st30 rfl rfl v40.toNat (hF3.ne hg56) hg56.nat (hF3.lt hg56)) rfl ?_
       obtain ⟨_, ⟨A57, n57, c57, s57, rfl, hF57⟩, hx58⟩ := DtL.getI (α := List api_Extent) (hF3.mono ((hle12.trans hle21).trans hle32)).dat hg56
       refine RW.st (Ex.loadE hM ((hle12.trans hle21).trans hle32) hF3.rdc to68 rfl (hx58 0 _ rfl)) rfl ?_
       refine RW.callP hM (bitmap_FromExtents_lift (ix x0.Sizes v40) (ix x3 v40) hF57 hm) en81 rfl rfl rfl rfl ?_; rintro _ w H60 _ hle61 ⟨v59, hm, A62, n62, c62, s62, rfl, hF62, rfl⟩ hM
       refine RW.st (Ex.move (.tuple #[.agg #[.int .i64 v59.1.Size, .slice A62 n62 c62], .int .i64 v59.2]) rfl) rfl <| RW.st (Ex.extract rfl rfl) rfl <| RW.st (Ex.extract rfl rfl) rfl ?_
       refine RW.alloc hM tz65 [.int .i64 0, .slice none 0 0] rfl rfl rfl ?_; intro b63 w hM
       refine RW.store hM 0 (.agg #[.int .i64 v59.1.Size, .slice A62 n62 c62]) [.int .i64 v59.1.Size, .slice A62 n62 c62] [.int .i64 v59.1.Size, .slice A62 n62 c62] sz65 rfl rfl rfl (oneAll ⟨rfl, rfl, trivial⟩) rfl (nb rfl) rfl [.box b63 65 [.int .i64 v59.1.Size, .slice A62 n62 c62], .box b4 85 [.slice A1 n1 c1, .slice A2 n2 c2], .box b5 3 [.int .i64 x1], .box b6 85 [.slice none 0 0, .slice none 0 0], .box b25 85 [.slice A22 n22 c22, .slice none 0 0], .row (.slice A34 n35 c36) 65 2 n35 s37, .row (.slice A22 n22 c22) 3 1 n22 s22] rfl rfl rfl ?_; intro w hM
       refine RW.st (Ex.assign (.int .i64 v59.2) rfl) rfl <| RW.nil ?_
       refine CW.cut (fun D σ w => D = [] ∧ ∃ (v66 : Int), ∃ (v67 : List (BitVec 64)), ∃ (A68 : Option Addr), ∃ (n69 : Nat), ∃ (c70 : Nat), ∃ (s71 : List Value), ∃ (v73 : Int), ∃ Hk64, H60.le Hk64 ∧ (∃ τ, σ = sl [(2, .int .i64 x2), (3, .slice A3 n3 c3), (4, .pointer (some ⟨b4, 0, none⟩)), (5, .pointer (some ⟨b5, 0, none⟩)), (8, .pointer (some ⟨b6, 0, none⟩)), (11, .int .i64 v16), (12, .slice A34 n35 c36), (13, .pointer (some ⟨b25, 0, none⟩)), (16, .pointer (some ⟨b63, 0, none⟩)), (17, .int .i64 v73), (51, .slice A1 n1 c1), (52, .int .i64 ((x0.Sizes.length : Int))), (53, .int .i64 v40)] τ) ∧ Mem w0 H w Hk64 [.box b4 85 [.slice A1 n1 c1, .slice A2 n2 c2], .box b5 3 [.int .i64 x1], .box b6 85 [.slice none 0 0, .slice none 0 0], .box b25 85 [.slice A22 n22 c22, .slice none 0 0], .box b63 65 [.int .i64 v66, .slice A68 n69 c70], .row (.slice A34 n35 c36) 65 2 n35 s37, .row (.slice A22 n22 c22) 3 1 n22 s22] ∧ (Fz (α := BitVec 64) Hk64 A68 n69 c70 v67 s71) ∧ reverse_Turn_J4 v33 v40 rec2 Φ v66 v67 v73) ?_ ?_
       ·
        refine CW.sr <| RW.st (Ex.move (.int .i64 v59.2) rfl) rfl <| RW.st (Ex.eql rfl rfl) rfl <| RW.nil ?_
        refine CW.cond_dec (p := v59.2 = 0) rfl (fun hc85 => ?_) (fun hc85 => ?_)
        ·
         replace hm := And.left hm hc85
         obtain ⟨hg98, hm⟩ := hm
         obtain ⟨_, ⟨A99, n99, c99, s99, rfl, hF99⟩, hx100⟩ := DtL.getI (α := api_Peer) (hF2.mono (((hle12.trans hle21).trans hle32).trans hle61)).dat hg98
         obtain ⟨hg101, hm⟩ := hm
         obtain ⟨_, ⟨A102, n102, c102, s102, rfl, hF102⟩, hx103⟩ := DtL.getI (α := api_Bitmap) hF99.dat hg101
         obtain ⟨v104, hW105, hm⟩ := hm
         refine CW.drawL 14 [13] [(fun Hq us E => us = [.agg #[.int .i64 v59.1.Size, .slice A62 n62 c62]] ∧ E = [] ∧ True), (fun Hq us E => us = [.pointer (some ⟨b4, 1, none⟩)] ∧ E = [] ∧ True), (fun Hq us E => us = [.slice A2 n2 c2] ∧ E = [] ∧ True), (fun Hq us E => us = [.int .i64 v16] ∧ E = [] ∧ True), (fun Hq us E => us = [elp A2 (v16.toNat * 3 + 0)] ∧ E = [] ∧ True), (fun Hq us E => us = [elp A2 (v16.toNat * 3 + 2)] ∧ E = [] ∧ True), (fun Hq us E => us = [.slice A99 n99 c99] ∧ E = [] ∧ True), (fun Hq us E => us = [.int .i64 v40] ∧ E = [] ∧ True), (fun Hq us E => us = [elp A99 (v40.toNat * 2 + 0)] ∧ E = [] ∧ True), (fun Hq us E => us = [.agg #[.int .i64 ((ix ((ix x0.Peers v16).Dirty) v40).Size), .slice A102 n102 c102]] ∧ E = [] ∧ True), (fun Hq us E => ∃ (A106 : Option Addr), ∃ (n106 : Nat), ∃ (c106 : Nat), ∃ (s106 : List Value), us = [.tuple #[.agg #[.int .i64 v104.1.Size, .slice A106 n106 c106], .int .i64 v104.2]] ∧ E = [] ∧ Fz (α := BitVec 64) Hq A106 n106 c106 v104.1.Words s106 ∧ True), (fun Hq us E => ∃ (A106 : Option Addr), ∃ (n106 : Nat), ∃ (c106 : Nat), ∃ (s106 : List Value), us = [.tuple #[.agg #[.int .i64 v104.1.Size, .slice A106 n106 c106], .int .i64 v104.2], .tuple #[.agg #[.int .i64 v104.1.Size, .slice A106 n106 c106], .int .i64 v104.2]] ∧ E = [] ∧ Fz (α := BitVec 64) Hq A106 n106 c106 v104.1.Words s106 ∧ True), (fun Hq us E => ∃ (A106 : Option Addr), ∃ (n106 : Nat), ∃ (c106 : Nat), ∃ (s106 : List Value), us = [.tuple #[.agg #[.int .i64 v104.1.Size, .slice A106 n106 c106], .int .i64 v104.2], .agg #[.int .i64 v104.1.Size, .slice A106 n106 c106]] ∧ E = [] ∧ Fz (α := BitVec 64) Hq A106 n106 c106 v104.1.Words s106 ∧ True), (fun Hq us E => us = [.int .i64 v104.2] ∧ E = [] ∧ True)]
          (fun k => [[0], [1], [2], [3], [4], [5], [6], [7], [8], [9], [10], [10, 11], [11, 12], [13]].getD k []) (fun _ => none) (by kernel_rfl) hM (by kernel_rfl) (by kernel_rfl) (by kernel_rfl) rfl (by simp only [List.forall_mem_cons]; exact ⟨fun _ _ _ _ hle ⟨e1, e2, _⟩ => ⟨e1, e2, trivial⟩, fun _ _ _ _ hle ⟨e1, e2, _⟩ => ⟨e1, e2, trivial⟩, fun _ _ _ _ hle ⟨e1, e2, _⟩ => ⟨e1, e2, trivial⟩, fun _ _ _ _ hle ⟨e1, e2, _⟩ => ⟨e1, e2, trivial⟩, fun _ _ _ _ hle ⟨e1, e2, _⟩ => ⟨e1, e2, trivial⟩, fun _ _ _ _ hle ⟨e1, e2, _⟩ => ⟨e1, e2, trivial⟩, fun _ _ _ _ hle ⟨e1, e2, _⟩ => ⟨e1, e2, trivial⟩, fun _ _ _ _ hle ⟨e1, e2, _⟩ => ⟨e1, e2, trivial⟩, fun _ _ _ _ hle ⟨e1, e2, _⟩ => ⟨e1, e2, trivial⟩, fun _ _ _ _ hle ⟨e1, e2, _⟩ => ⟨e1, e2, trivial⟩, fun _ _ _ _ hle ⟨A106, n106, c106, s106, e1, e2, hF109, _⟩ => ⟨A106, n106, c106, s106, e1, e2, hF109.mono hle, trivial⟩, fun _ _ _ _ hle ⟨A106, n106, c106, s106, e1, e2, hF109, _⟩ => ⟨A106, n106, c106, s106, e1, e2, hF109.mono hle, trivial⟩, fun _ _ _ _ hle ⟨A106, n106, c106, s106, e1, e2, hF109, _⟩ => ⟨A106, n106, c106, s106, e1, e2, hF109.mono hle, trivial⟩, fun _ _ _ _ hle ⟨e1, e2, _⟩ => ⟨e1, e2, trivial⟩, by simp⟩) ⟨?_, ?_, ?_, ?_, ?_, ?_, ?_, ?_, ?_, ?_, ?_, ?_, ?_, ?_, trivial⟩ ?_
         ·
          intro H' σ' w R E hle hMR hE0 hE hp hf
          obtain rfl := hE0 rfl
          obtain ⟨τ, rfl⟩ := slc (σ := σ') (l := [(16, .pointer (some ⟨b63, 0, none⟩))]) ⟨(hf 16 (by kernel_rfl)).trans rfl, trivial⟩
          have hM := Mem.subR (R := R) hMR
          exact RW.step (Ex.loadA hM 0 [.int .i64 v59.1.Size, .slice A62 n62 c62] ta65 rfl rfl rfl rfl) rfl rfl rfl (RW.nil ⟨rfl, rfl, _, rfl, H', [], Hp.le.refl _, hMR, rfl, rfl, trivial⟩)
         ·
          intro H' σ' w R E hle hMR hE0 hE hp hf
          obtain rfl := hE0 rfl
          obtain ⟨τ, rfl⟩ := slc (σ := σ') (l := [(4, .pointer (some ⟨b4, 0, none⟩))]) ⟨(hf 4 (by kernel_rfl)).trans rfl, trivial⟩
          have hM := Mem.subR (R := R) hMR
          exact RW.step (Ex.fieldAddr fa85_1 rfl) rfl rfl rfl (RW.nil ⟨rfl, rfl, _, rfl, H', [], Hp.le.refl _, hMR, rfl, rfl, trivial⟩)
         ·
          intro H' σ' w R E hle hMR hE0 hE hp hf
          obtain rfl := hE0 rfl
          obtain ⟨_, hg⟩ := hp 1 (by decide) (by kernel_rfl)
          obtain ⟨e110, _, _⟩ := hg.get rfl
          have e111 : σ' 71 = .pointer (some ⟨b4, 1, none⟩) := (List.cons.inj e110).1
          obtain ⟨τ, rfl⟩ := slc (σ := σ') (l := [(71, .pointer (some ⟨b4, 1, none⟩))]) ⟨e111, trivial⟩
          have hM := Mem.subR (R := R) hMR
          exact RW.step (Ex.load1 hM 1 to83 rfl rfl rfl) rfl rfl rfl (RW.nil ⟨rfl, rfl, _, rfl, H', [], Hp.le.refl _, hMR, rfl, rfl, trivial⟩)
         ·
          intro H' σ' w R E hle hMR hE0 hE hp hf
          obtain rfl := hE0 rfl
          obtain ⟨τ, rfl⟩ := slc (σ := σ') (l := [(11, .int .i64 v16)]) ⟨(hf 11 (by kernel_rfl)).trans rfl, trivial⟩
          have hM := Mem.subR (R := R) hMR
          exact RW.step (Ex.move (.int .i64 v16) rfl) rfl rfl rfl (RW.nil ⟨rfl, rfl, _, rfl, H', [], Hp.le.refl _, hMR, rfl, rfl, trivial⟩)
         ·
          intro H' σ' w R E hle hMR hE0 hE hp hf
          obtain rfl := hE0 rfl
          obtain ⟨_, hg⟩ := hp 2 (by decide) (by kernel_rfl)
          obtain ⟨e112, _, _⟩ := hg.get rfl
          have e113 : σ' 72 = .slice A2 n2 c2 := (List.cons.inj e112).1
          obtain ⟨_, hg⟩ := hp 3 (by decide) (by kernel_rfl)
          obtain ⟨e114, _, _⟩ := hg.get rfl
          have e115 : σ' 73 = .int .i64 v16 := (List.cons.inj e114).1
          obtain ⟨τ, rfl⟩ := slc (σ := σ') (l := [(72, .slice A2 n2 c2), (73, .int .i64 v16)]) ⟨e113, e115, trivial⟩
          have hM := Mem.subR (R := R) hMR
          exact RW.step (Ex.index st83 rfl rfl v16.toNat (hF2.ne hg98) hg98.nat (hF2.lt hg98)) rfl rfl rfl (RW.nil ⟨rfl, rfl, _, rfl, H', [], Hp.le.refl _, hMR, rfl, rfl, trivial⟩)
         ·
          intro H' σ' w R E hle hMR hE0 hE hp hf
          obtain rfl := hE0 rfl
          obtain ⟨_, hg⟩ := hp 4 (by decide) (by kernel_rfl)
          obtain ⟨e116, _, _⟩ := hg.get rfl
          have e117 : σ' 74 = elp A2 (v16.toNat * 3 + 0) := (List.cons.inj e116).1
          obtain ⟨τ, rfl⟩ := slc (σ := σ') (l := [(74, elp A2 (v16.toNat * 3 + 0))]) ⟨e117, trivial⟩
          have hM := Mem.subR (R := R) hMR
          exact RW.step (Ex.fieldE fa142_2 (hF2.ne hg98) rfl) rfl rfl rfl (RW.nil ⟨rfl, rfl, _, rfl, H', [], Hp.le.refl _, hMR, rfl, rfl, trivial⟩)
         ·
          intro H' σ' w R E hle hMR hE0 hE hp hf
          obtain rfl := hE0 rfl
          obtain ⟨_, hg⟩ := hp 5 (by decide) (by kernel_rfl)
          obtain ⟨e118, _, _⟩ := hg.get rfl
          have e119 : σ' 75 = elp A2 (v16.toNat * 3 + 2) := (List.cons.inj e118).1
          obtain ⟨τ, rfl⟩ := slc (σ := σ') (l := [(75, elp A2 (v16.toNat * 3 + 2))]) ⟨e119, trivial⟩
          have hM := Mem.subR (R := R) hMR
          exact RW.step (Ex.loadE hM ((((hle12.trans hle21).trans hle32).trans hle61).trans hle) hF2.rdc to23 rfl (hx100 2 _ rfl)) rfl rfl rfl (RW.nil ⟨rfl, rfl, _, rfl, H', [], Hp.le.refl _, hMR, rfl, rfl, trivial⟩)
         ·
          intro H' σ' w R E hle hMR hE0 hE hp hf
          obtain rfl := hE0 rfl
          obtain ⟨τ, rfl⟩ := slc (σ := σ') (l := [(14, .int .i64 v40)]) ⟨(hf 14 (by kernel_rfl)).trans rfl, trivial⟩
          have hM := Mem.subR (R := R) hMR
          exact RW.step (Ex.move (.int .i64 v40) rfl) rfl rfl rfl (RW.nil ⟨rfl, rfl, _, rfl, H', [], Hp.le.refl _, hMR, rfl, rfl, trivial⟩)
         ·
          intro H' σ' w R E hle hMR hE0 hE hp hf
          obtain rfl := hE0 rfl
          obtain ⟨_, hg⟩ := hp 6 (by decide) (by kernel_rfl)
          obtain ⟨e120, _, _⟩ := hg.get rfl
          have e121 : σ' 76 = .slice A99 n99 c99 := (List.cons.inj e120).1
          obtain ⟨_, hg⟩ := hp 7 (by decide) (by kernel_rfl)
          obtain ⟨e122, _, _⟩ := hg.get rfl
          have e123 : σ' 77 = .int .i64 v40 := (List.cons.inj e122).1
          obtain ⟨τ, rfl⟩ := slc (σ := σ') (l := [(76, .slice A99 n99 c99), (77, .int .i64 v40)]) ⟨e121, e123, trivial⟩
          have hM := Mem.subR (R := R) hMR
          exact RW.step (Ex.index st23 rfl rfl v40.toNat (hF99.ne hg101) hg101.nat (hF99.lt hg101)) rfl rfl rfl (RW.nil ⟨rfl, rfl, _, rfl, H', [], Hp.le.refl _, hMR, rfl, rfl, trivial⟩)
         ·
          intro H' σ' w R E hle hMR hE0 hE hp hf
          obtain rfl := hE0 rfl
          obtain ⟨_, hg⟩ := hp 8 (by decide) (by kernel_rfl)
          obtain ⟨e124, _, _⟩ := hg.get rfl
          have e125 : σ' 78 = elp A99 (v40.toNat * 2 + 0) := (List.cons.inj e124).1
          obtain ⟨τ, rfl⟩ := slc (σ := σ') (l := [(78, elp A99 (v40.toNat * 2 + 0))]) ⟨e125, trivial⟩
          have hM := Mem.subR (R := R) hMR
          exact RW.step (Ex.loadEA hM hle hF99.rdc [.int .i64 ((ix ((ix x0.Peers v16).Dirty) v40).Size), .slice A102 n102 c102] ta65 rfl (hF99.ne hg101) rfl (chunk_sub (off := 0) (n := 2) hx103 rfl)) rfl rfl rfl (RW.nil ⟨rfl, rfl, _, rfl, H', [], Hp.le.refl _, hMR, rfl, rfl, trivial⟩)
         ·
          intro H' σ' w R E hle hMR hE0 hE hp hf
          obtain rfl := hE0 rfl
          obtain ⟨_, hg⟩ := hp 0 (by decide) (by kernel_rfl)
          obtain ⟨e126, _, _⟩ := hg.get rfl
          have e127 : σ' 70 = .agg #[.int .i64 v59.1.Size, .slice A62 n62 c62] := (List.cons.inj e126).1
          obtain ⟨_, hg⟩ := hp 9 (by decide) (by kernel_rfl)
          obtain ⟨e128, _, _⟩ := hg.get rfl
          have e129 : σ' 79 = .agg #[.int .i64 ((ix ((ix x0.Peers v16).Dirty) v40).Size), .slice A102 n102 c102] := (List.cons.inj e128).1
          obtain ⟨τ, rfl⟩ := slc (σ := σ') (l := [(70, .agg #[.int .i64 v59.1.Size, .slice A62 n62 c62]), (79, .agg #[.int .i64 ((ix ((ix x0.Peers v16).Dirty) v40).Size), .slice A102 n102 c102])]) ⟨e127, e129, trivial⟩
          have hM := Mem.subR (R := R) hMR
          refine RW.callP hMR (bitmap_Or_lift v59.1 (ix ((ix x0.Peers v16).Dirty) v40) (hF62.mono hle) (hF102.mono hle) hW105) en82 rfl rfl rfl rfl ?_; rintro _ w HS9 _ hleS ⟨_, rfl, A106, n106, c106, s106, rfl, hd107, hn108, rfl⟩ hMR
          obtain ⟨HS90, hMR, hleS0, hF109⟩ := hMR.giveF (α := BitVec 64) 0 rfl hd107 hn108
          exact RW.nil ⟨rfl, rfl, _, rfl, HS90, [], (hleS.trans hleS0), hMR, A106, n106, c106, s106, rfl, rfl, hF109, trivial⟩
         ·
          intro H' σ' w R E hle hMR hE0 hE hp hf
          obtain rfl := hE0 rfl
          obtain ⟨_, hg⟩ := hp 10 (by decide) (by kernel_rfl)
          obtain ⟨A106, n106, c106, s106, e130, _, hF109, _⟩ := hg.get rfl
          have e131 : σ' 80 = .tuple #[.agg #[.int .i64 v104.1.Size, .slice A106 n106 c106], .int .i64 v104.2] := (List.cons.inj e130).1
          obtain ⟨τ, rfl⟩ := slc (σ := σ') (l := [(80, .tuple #[.agg #[.int .i64 v104.1.Size, .slice A106 n106 c106], .int .i64 v104.2])]) ⟨e131, trivial⟩
          have hM := Mem.subR (R := R) hMR
          exact RW.step (Ex.move (.tuple #[.agg #[.int .i64 v104.1.Size, .slice A106 n106 c106], .int .i64 v104.2]) rfl) rfl rfl rfl (RW.nil ⟨rfl, rfl, _, rfl, H', [], Hp.le.refl _, hMR, A106, n106, c106, s106, rfl, rfl, hF109, trivial⟩)
         ·
          intro H' σ' w R E hle hMR hE0 hE hp hf
          obtain rfl := hE0 rfl
          obtain ⟨_, hg⟩ := hp 11 (by decide) (by kernel_rfl)
          obtain ⟨A106, n106, c106, s106, e132, _, hF109, _⟩ := hg.get rfl
          have e133 : σ' 80 = .tuple #[.agg #[.int .i64 v104.1.Size, .slice A106 n106 c106], .int .i64 v104.2] := (List.cons.inj e132).1
          have e134 : σ' 69 = .tuple #[.agg #[.int .i64 v104.1.Size, .slice A106 n106 c106], .int .i64 v104.2] := (List.cons.inj (List.cons.inj e132).2).1
          obtain ⟨τ, rfl⟩ := slc (σ := σ') (l := [(69, .tuple #[.agg #[.int .i64 v104.1.Size, .slice A106 n106 c106], .int .i64 v104.2])]) ⟨e134, trivial⟩
          have hM := Mem.subR (R := R) hMR
          exact RW.step (Ex.extract rfl rfl) rfl rfl rfl (RW.nil ⟨rfl, rfl, _, rfl, H', [], Hp.le.refl _, hMR, A106, n106, c106, s106, rfl, rfl, hF109, trivial⟩)
         ·
          intro H' σ' w R E hle hMR hE0 hE hp hf
          obtain rfl := hE0 rfl
          obtain ⟨_, hg⟩ := hp 11 (by decide) (by kernel_rfl)
          obtain ⟨A106, n106, c106, s106, e135, _, hF109, _⟩ := hg.get rfl
          have e136 : σ' 80 = .tuple #[.agg #[.int .i64 v104.1.Size, .slice A106 n106 c106], .int .i64 v104.2] := (List.cons.inj e135).1
          have e137 : σ' 69 = .tuple #[.agg #[.int .i64 v104.1.Size, .slice A106 n106 c106], .int .i64 v104.2] := (List.cons.inj (List.cons.inj e135).2).1
          obtain ⟨τ, rfl⟩ := slc (σ := σ') (l := [(69, .tuple #[.agg #[.int .i64 v104.1.Size, .slice A106 n106 c106], .int .i64 v104.2])]) ⟨e137, trivial⟩
          have hM := Mem.subR (R := R) hMR
          exact RW.step (Ex.extract rfl rfl) rfl rfl rfl (RW.nil ⟨rfl, rfl, _, rfl, H', [], Hp.le.refl _, hMR, rfl, rfl, trivial⟩)
         ·
          intro HR8 σ' w X miss hms hleR hM hX hX0 hf
          simp [subs] at hms
          rcases hms with rfl | rfl
          ·
           obtain ⟨H138, hH8⟩ : ∃ x, x = HR8 := ⟨_, rfl⟩
           subst hH8
           have hle139 := hleR
           obtain ⟨_, g0, y0⟩ := hX 0 (by decide) (by kernel_rfl)
           obtain ⟨_, rfl, _⟩ := g0.get rfl
           replace y0 : X 0 = [] := y0
           obtain ⟨_, g0, y1⟩ := hX 1 (by decide) (by kernel_rfl)
           obtain ⟨_, rfl, _⟩ := g0.get rfl
           replace y1 : X 1 = [] := y1
           obtain ⟨_, g0, y2⟩ := hX 2 (by decide) (by kernel_rfl)
           obtain ⟨_, rfl, _⟩ := g0.get rfl
           replace y2 : X 2 = [] := y2
           obtain ⟨_, g0, y3⟩ := hX 3 (by decide) (by kernel_rfl)
           obtain ⟨_, rfl, _⟩ := g0.get rfl
           replace y3 : X 3 = [] := y3
           obtain ⟨_, g0, y4⟩ := hX 4 (by decide) (by kernel_rfl)
           obtain ⟨_, rfl, _⟩ := g0.get rfl
           replace y4 : X 4 = [] := y4
           obtain ⟨_, g0, y5⟩ := hX 5 (by decide) (by kernel_rfl)
           obtain ⟨_, rfl, _⟩ := g0.get rfl
           replace y5 : X 5 = [] := y5
           obtain ⟨_, g0, y6⟩ := hX 6 (by decide) (by kernel_rfl)
           obtain ⟨_, rfl, _⟩ := g0.get rfl
           replace y6 : X 6 = [] := y6
           obtain ⟨_, g0, y7⟩ := hX 7 (by decide) (by kernel_rfl)
           obtain ⟨_, rfl, _⟩ := g0.get rfl
           replace y7 : X 7 = [] := y7
           obtain ⟨_, g0, y8⟩ := hX 8 (by decide) (by kernel_rfl)
           obtain ⟨_, rfl, _⟩ := g0.get rfl
           replace y8 : X 8 = [] := y8
           obtain ⟨_, g0, y9⟩ := hX 9 (by decide) (by kernel_rfl)
           obtain ⟨_, rfl, _⟩ := g0.get rfl
           replace y9 : X 9 = [] := y9
           obtain ⟨_, g0, y10⟩ := hX 10 (by decide) (by kernel_rfl)
           obtain ⟨A106, n106, c106, s106, e140, rfl, hF109, _⟩ := g0.get rfl
           have e141 : σ' 80 = .tuple #[.agg #[.int .i64 v104.1.Size, .slice A106 n106 c106], .int .i64 v104.2] := (List.cons.inj e140).1
           replace y10 : X 10 = [] := y10
           obtain ⟨_, g0, y11⟩ := hX 11 (by decide) (by kernel_rfl)
           obtain ⟨A106q, n106q, c106q, s106q, e142, rfl, _, _⟩ := g0.get rfl
           have e143 : σ' 80 = .tuple #[.agg #[.int .i64 v104.1.Size, .slice A106q n106q c106q], .int .i64 v104.2] := (List.cons.inj e142).1
           have he_ := e141.symm.trans e143
           have ⟨e144, e145, e146⟩ : A106 = A106q ∧ n106 = n106q ∧ c106 = c106q := by simp at he_; simp [he_]
           subst e144
           subst e145
           subst e146
           have e147 : σ' 69 = .tuple #[.agg #[.int .i64 v104.1.Size, .slice A106 n106 c106], .int .i64 v104.2] := (List.cons.inj (List.cons.inj e142).2).1
           replace y11 : X 11 = [] := y11
           obtain ⟨_, g0, y12⟩ := hX 12 (by decide) (by kernel_rfl)
           obtain ⟨A106q, n106q, c106q, s106q, e148, rfl, _, _⟩ := g0.get rfl
           have e149 : σ' 69 = .tuple #[.agg #[.int .i64 v104.1.Size, .slice A106q n106q c106q], .int .i64 v104.2] := (List.cons.inj e148).1
           have he_ := e147.symm.trans e149
           have ⟨e150, e151, e152⟩ : A106 = A106q ∧ n106 = n106q ∧ c106 = c106q := by simp at he_; simp [he_]
           subst e150
           subst e151
           subst e152
           have e153 : σ' 81 = .agg #[.int .i64 v104.1.Size, .slice A106 n106 c106] := (List.cons.inj (List.cons.inj e148).2).1
           replace y12 : X 12 = [] := y12
           obtain ⟨_, g0, y13⟩ := hX 13 (by decide) (by kernel_rfl)
           obtain ⟨e154, rfl, _⟩ := g0.get rfl
           have e155 : σ' 82 = .int .i64 v104.2 := (List.cons.inj e154).1
           replace y13 : X 13 = [] := y13
           have hfl : flatX X 14 = [] := by
            show X 0 ++ (X 1 ++ (X 2 ++ (X 3 ++ (X 4 ++ (X 5 ++ (X 6 ++ (X 7 ++ (X 8 ++ (X 9 ++ (X 10 ++ (X 11 ++ (X 12 ++ (X 13 ++ []))))))))))))) = _
            rw [y0, y1, y2, y3, y4, y5, y6, y7, y8, y9, y10, y11, y12, y13]; rfl
           rw [hfl] at hM
           obtain ⟨τ, rfl⟩ := slc (σ := σ') (l := [(2, .int .i64 x2), (3, .slice A3 n3 c3), (4, .pointer (some ⟨b4, 0, none⟩)), (5, .pointer (some ⟨b5, 0, none⟩)), (8, .pointer (some ⟨b6, 0, none⟩)), (11, .int .i64 v16), (12, .slice A34 n35 c36), (13, .pointer (some ⟨b25, 0, none⟩)), (16, .pointer (some ⟨b63, 0, none⟩)), (17, .int .i64 v59.2), (51, .slice A1 n1 c1), (52, .int .i64 ((x0.Sizes.length : Int))), (53, .int .i64 v40), (81, .agg #[.int .i64 v104.1.Size, .slice A106 n106 c106]), (82, .int .i64 v104.2)]) ⟨(hf 2 (by kernel_rfl)).trans rfl, (hf 3 (by kernel_rfl)).trans rfl, (hf 4 (by kernel_rfl)).trans rfl, (hf 5 (by kernel_rfl)).trans rfl, (hf 8 (by kernel_rfl)).trans rfl, (hf 11 (by kernel_rfl)).trans rfl, (hf 12 (by kernel_rfl)).trans rfl, (hf 13 (by kernel_rfl)).trans rfl, (hf 16 (by kernel_rfl)).trans rfl, (hf 17 (by kernel_rfl)).trans rfl, (hf 51 (by kernel_rfl)).trans rfl, (hf 52 (by kernel_rfl)).trans rfl, (hf 53 (by kernel_rfl)).trans rfl, e153, e155, trivial⟩
           change RA _ _ _ _ _ _ _ (sl [(2, .int .i64 x2), (3, .slice A3 n3 c3), (4, .pointer (some ⟨b4, 0, none⟩)), (5, .pointer (some ⟨b5, 0, none⟩)), (8, .pointer (some ⟨b6, 0, none⟩)), (11, .int .i64 v16), (12, .slice A34 n35 c36), (13, .pointer (some ⟨b25, 0, none⟩)), (16, .pointer (some ⟨b63, 0, none⟩)), (17, .int .i64 v59.2), (51, .slice A1 n1 c1), (52, .int .i64 ((x0.Sizes.length : Int))), (53, .int .i64 v40), (81, .agg #[.int .i64 v104.1.Size, .slice A106 n106 c106]), (82, .int .i64 v104.2)] τ) _ 16 _
           refine RA.step [14] (by kernel_rfl) rfl ⟨⟨_, rfl, ?_⟩, trivial⟩
           refine RW.store hM 0 (.agg #[.int .i64 v104.1.Size, .slice A106 n106 c106]) [.int .i64 v104.1.Size, .slice A106 n106 c106] [.int .i64 v104.1.Size, .slice A106 n106 c106] sz65 rfl rfl rfl (oneAll ⟨rfl, rfl, trivial⟩) rfl (nb rfl) rfl [.box b63 65 [.int .i64 v104.1.Size, .slice A106 n106 c106], .box b4 85 [.slice A1 n1 c1, .slice A2 n2 c2], .box b5 3 [.int .i64 x1], .box b6 85 [.slice none 0 0, .slice none 0 0], .box b25 85 [.slice A22 n22 c22, .slice none 0 0], .row (.slice A34 n35 c36) 65 2 n35 s37, .row (.slice A22 n22 c22) 3 1 n22 s22] rfl rfl rfl ?_; intro w hM
           refine RW.nil ?_
           refine And.intro rfl ?_
           refine RA.step [15] (by kernel_rfl) rfl ⟨⟨_, rfl, ?_⟩, trivial⟩
           refine RW.st (Ex.assign (.int .i64 v104.2) rfl) rfl <| RW.nil ?_
           refine And.intro rfl ?_
           refine RA.done (by kernel_rfl) ?_
           exact And.intro rfl ⟨v104.1.Size, v104.1.Words, A106, n106, c106, s106, v104.2, H138, hle139, slc ⟨rfl, rfl, rfl, rfl, rfl, rfl, rfl, rfl, rfl, rfl, rfl, rfl, rfl, trivial⟩, (hM.pick [1, 2, 3, 4, 0, 5, 6] rfl rfl), hF109, hm⟩
          ·
           obtain ⟨H138, hH8⟩ : ∃ x, x = HR8 := ⟨_, rfl⟩
           subst hH8
           have hle139 := hleR
           obtain ⟨_, g0, y0⟩ := hX 0 (by decide) (by kernel_rfl)
           obtain ⟨_, rfl, _⟩ := g0.get rfl
           replace y0 : X 0 = [] := y0
           obtain ⟨_, g0, y1⟩ := hX 1 (by decide) (by kernel_rfl)
           obtain ⟨_, rfl, _⟩ := g0.get rfl
           replace y1 : X 1 = [] := y1
           obtain ⟨_, g0, y2⟩ := hX 2 (by decide) (by kernel_rfl)
           obtain ⟨_, rfl, _⟩ := g0.get rfl
           replace y2 : X 2 = [] := y2
           obtain ⟨_, g0, y3⟩ := hX 3 (by decide) (by kernel_rfl)
           obtain ⟨_, rfl, _⟩ := g0.get rfl
           replace y3 : X 3 = [] := y3
           obtain ⟨_, g0, y4⟩ := hX 4 (by decide) (by kernel_rfl)
           obtain ⟨_, rfl, _⟩ := g0.get rfl
           replace y4 : X 4 = [] := y4
           obtain ⟨_, g0, y5⟩ := hX 5 (by decide) (by kernel_rfl)
           obtain ⟨_, rfl, _⟩ := g0.get rfl
           replace y5 : X 5 = [] := y5
           obtain ⟨_, g0, y6⟩ := hX 6 (by decide) (by kernel_rfl)
           obtain ⟨_, rfl, _⟩ := g0.get rfl
           replace y6 : X 6 = [] := y6
           obtain ⟨_, g0, y7⟩ := hX 7 (by decide) (by kernel_rfl)
           obtain ⟨_, rfl, _⟩ := g0.get rfl
           replace y7 : X 7 = [] := y7
           obtain ⟨_, g0, y8⟩ := hX 8 (by decide) (by kernel_rfl)
           obtain ⟨_, rfl, _⟩ := g0.get rfl
           replace y8 : X 8 = [] := y8
           obtain ⟨_, g0, y9⟩ := hX 9 (by decide) (by kernel_rfl)
           obtain ⟨_, rfl, _⟩ := g0.get rfl
           replace y9 : X 9 = [] := y9
           obtain ⟨_, g0, y10⟩ := hX 10 (by decide) (by kernel_rfl)
           obtain ⟨A106, n106, c106, s106, e140, rfl, hF109, _⟩ := g0.get rfl
           have e141 : σ' 80 = .tuple #[.agg #[.int .i64 v104.1.Size, .slice A106 n106 c106], .int .i64 v104.2] := (List.cons.inj e140).1
           replace y10 : X 10 = [] := y10
           obtain ⟨_, g0, y11⟩ := hX 11 (by decide) (by kernel_rfl)
           obtain ⟨A106q, n106q, c106q, s106q, e142, rfl, _, _⟩ := g0.get rfl
           have e143 : σ' 80 = .tuple #[.agg #[.int .i64 v104.1.Size, .slice A106q n106q c106q], .int .i64 v104.2] := (List.cons.inj e142).1
           have he_ := e141.symm.trans e143
           have ⟨e144, e145, e146⟩ : A106 = A106q ∧ n106 = n106q ∧ c106 = c106q := by simp at he_; simp [he_]
           subst e144
           subst e145
           subst e146
           have e147 : σ' 69 = .tuple #[.agg #[.int .i64 v104.1.Size, .slice A106 n106 c106], .int .i64 v104.2] := (List.cons.inj (List.cons.inj e142).2).1
           replace y11 : X 11 = [] := y11
           obtain ⟨_, g0, y12⟩ := hX 12 (by decide) (by kernel_rfl)
           obtain ⟨A106q, n106q, c106q, s106q, e148, rfl, _, _⟩ := g0.get rfl
           have e149 : σ' 69 = .tuple #[.agg #[.int .i64 v104.1.Size, .slice A106q n106q c106q], .int .i64 v104.2] := (List.cons.inj e148).1
           have he_ := e147.symm.trans e149
           have ⟨e150, e151, e152⟩ : A106 = A106q ∧ n106 = n106q ∧ c106 = c106q := by simp at he_; simp [he_]
           subst e150
           subst e151
           subst e152
           have e153 : σ' 81 = .agg #[.int .i64 v104.1.Size, .slice A106 n106 c106] := (List.cons.inj (List.cons.inj e148).2).1
           replace y12 : X 12 = [] := y12
           have y13 : X 13 = [] := hX0 13 (by decide) (by kernel_rfl)
           have hfl : flatX X 14 = [] := by
            show X 0 ++ (X 1 ++ (X 2 ++ (X 3 ++ (X 4 ++ (X 5 ++ (X 6 ++ (X 7 ++ (X 8 ++ (X 9 ++ (X 10 ++ (X 11 ++ (X 12 ++ (X 13 ++ []))))))))))))) = _
            rw [y0, y1, y2, y3, y4, y5, y6, y7, y8, y9, y10, y11, y12, y13]; rfl
           rw [hfl] at hM
           obtain ⟨τ, rfl⟩ := slc (σ := σ') (l := [(2, .int .i64 x2), (3, .slice A3 n3 c3), (4, .pointer (some ⟨b4, 0, none⟩)), (5, .pointer (some ⟨b5, 0, none⟩)), (8, .pointer (some ⟨b6, 0, none⟩)), (11, .int .i64 v16), (12, .slice A34 n35 c36), (13, .pointer (some ⟨b25, 0, none⟩)), (16, .pointer (some ⟨b63, 0, none⟩)), (17, .int .i64 v59.2), (51, .slice A1 n1 c1), (52, .int .i64 ((x0.Sizes.length : Int))), (53, .int .i64 v40), (69, .tuple #[.agg #[.int .i64 v104.1.Size, .slice A106 n106 c106], .int .i64 v104.2]), (81, .agg #[.int .i64 v104.1.Size, .slice A106 n106 c106])]) ⟨(hf 2 (by kernel_rfl)).trans rfl, (hf 3 (by kernel_rfl)).trans rfl, (hf 4 (by kernel_rfl)).trans rfl, (hf 5 (by kernel_rfl)).trans rfl, (hf 8 (by kernel_rfl)).trans rfl, (hf 11 (by kernel_rfl)).trans rfl, (hf 12 (by kernel_rfl)).trans rfl, (hf 13 (by kernel_rfl)).trans rfl, (hf 16 (by kernel_rfl)).trans rfl, (hf 17 (by kernel_rfl)).trans rfl, (hf 51 (by kernel_rfl)).trans rfl, (hf 52 (by kernel_rfl)).trans rfl, (hf 53 (by kernel_rfl)).trans rfl, e147, e153, trivial⟩
           change RA _ _ _ _ _ _ _ (sl [(2, .int .i64 x2), (3, .slice A3 n3 c3), (4, .pointer (some ⟨b4, 0, none⟩)), (5, .pointer (some ⟨b5, 0, none⟩)), (8, .pointer (some ⟨b6, 0, none⟩)), (11, .int .i64 v16), (12, .slice A34 n35 c36), (13, .pointer (some ⟨b25, 0, none⟩)), (16, .pointer (some ⟨b63, 0, none⟩)), (17, .int .i64 v59.2), (51, .slice A1 n1 c1), (52, .int .i64 ((x0.Sizes.length : Int))), (53, .int .i64 v40), (69, .tuple #[.agg #[.int .i64 v104.1.Size, .slice A106 n106 c106], .int .i64 v104.2]), (81, .agg #[.int .i64 v104.1.Size, .slice A106 n106 c106])] τ) _ 16 _
           refine RA.step [13, 14] (by kernel_rfl) rfl ⟨⟨_, rfl, ?_⟩, ⟨_, rfl, ?_⟩, trivial⟩
           ·
            refine RW.st (Ex.extract rfl rfl) rfl <| RW.nil ?_
            refine And.intro rfl ?_
            refine RA.step [14] (by kernel_rfl) rfl ⟨⟨_, rfl, ?_⟩, trivial⟩
            refine RW.store hM 0 (.agg #[.int .i64 v104.1.Size, .slice A106 n106 c106]) [.int .i64 v104.1.Size, .slice A106 n106 c106] [.int .i64 v104.1.Size, .slice A106 n106 c106] sz65 rfl rfl rfl (oneAll ⟨rfl, rfl, trivial⟩) rfl (nb rfl) rfl [.box b63 65 [.int .i64 v104.1.Size, .slice A106 n106 c106], .box b4 85 [.slice A1 n1 c1, .slice A2 n2 c2], .box b5 3 [.int .i64 x1], .box b6 85 [.slice none 0 0, .slice none 0 0], .box b25 85 [.slice A22 n22 c22, .slice none 0 0], .row (.slice A34 n35 c36) 65 2 n35 s37, .row (.slice A22 n22 c22) 3 1 n22 s22] rfl rfl rfl ?_; intro w hM
            refine RW.nil ?_
            refine And.intro rfl ?_
            refine RA.step [15] (by kernel_rfl) rfl ⟨⟨_, rfl, ?_⟩, trivial⟩
            refine RW.st (Ex.assign (.int .i64 v104.2) rfl) rfl <| RW.nil ?_
            refine And.intro rfl ?_
            refine RA.done (by kernel_rfl) ?_
            exact And.intro rfl ⟨v104.1.Size, v104.1.Words, A106, n106, c106, s106, v104.2, H138, hle139, slc ⟨rfl, rfl, rfl, rfl, rfl, rfl, rfl, rfl, rfl, rfl, rfl, rfl, rfl, trivial⟩, (hM.pick [1, 2, 3, 4, 0, 5, 6] rfl rfl), hF109, hm⟩
           ·
            refine RW.store hM 0 (.agg #[.int .i64 v104.1.Size, .slice A106 n106 c106]) [.int .i64 v104.1.Size, .slice A106 n106 c106] [.int .i64 v104.1.Size, .slice A106 n106 c106] sz65 rfl rfl rfl (oneAll ⟨rfl, rfl, trivial⟩) rfl (nb rfl) rfl [.box b63 65 [.int .i64 v104.1.Size, .slice A106 n106 c106], .box b4 85 [.slice A1 n1 c1, .slice A2 n2 c2], .box b5 3 [.int .i64 x1], .box b6 85 [.slice none 0 0, .slice none 0 0], .box b25 85 [.slice A22 n22 c22, .slice none 0 0], .row (.slice A34 n35 c36) 65 2 n35 s37, .row (.slice A22 n22 c22) 3 1 n22 s22] rfl rfl rfl ?_; intro w hM
            refine RW.nil ?_
            refine And.intro rfl ?_
            refine RA.step [13] (by kernel_rfl) rfl ⟨⟨_, rfl, ?_⟩, trivial⟩
            refine RW.st (Ex.extract rfl rfl) rfl <| RW.nil ?_
            refine And.intro rfl ?_
            refine RA.step [15] (by kernel_rfl) rfl ⟨⟨_, rfl, ?_⟩, trivial⟩
            refine RW.st (Ex.assign (.int .i64 v104.2) rfl) rfl <| RW.nil ?_
            refine And.intro rfl ?_
            refine RA.done (by kernel_rfl) ?_
            exact And.intro rfl ⟨v104.1.Size, v104.1.Words, A106, n106, c106, s106, v104.2, H138, hle139, slc ⟨rfl, rfl, rfl, rfl, rfl, rfl, rfl, rfl, rfl, rfl, rfl, rfl, rfl, trivial⟩, (hM.pick [1, 2, 3, 4, 0, 5, 6] rfl rfl), hF109, hm⟩
        ·
         replace hm := And.right hm hc85
         refine CW.skip ?_
         exact And.intro rfl ⟨v59.1.Size, v59.1.Words, A62, n62, c62, s62, v59.2, H60, (Hp.le.refl _), slc ⟨rfl, rfl, rfl, rfl, rfl, rfl, rfl, rfl, rfl, rfl, rfl, rfl, rfl, trivial⟩, (hM.pick [1, 2, 3, 4, 0, 5, 6] rfl rfl), hF62, hm⟩
       rintro _ _ w ⟨rfl, v66, v67, A68, n69, c70, s71, v73, Hk64, hle65, ⟨τ, rfl⟩, hM, hF72, hm⟩
       refine CW.seq <| CW.sr <| RW.st (Ex.move (.int .i64 v73) rfl) rfl <| RW.st (Ex.assign (.int .i64 v73) rfl) rfl <| RW.nil <| CW.sr <| RW.st (Ex.move (.int .i64 v73) rfl) rfl <| RW.st (Ex.neq rfl rfl) rfl <| RW.nil ?_
       refine CW.cond_dec (p := v73 ≠ 0) rfl (fun hc74 => ?_) (fun hc74 => ?_)
       ·
        replace hm := And.left hm hc74
        refine CW.goto ?_
        exact And.intro rfl (And.intro rfl ⟨v73, Hk64, ((((hle12.trans hle21).trans hle32).trans hle61).trans hle65), slc ⟨rfl, rfl, trivial⟩, (hM.pick [2] rfl rfl), hm⟩)
       ·
        replace hm := And.right hm hc74
        refine CW.skip <| CW.region <| RW.st (Ex.move (.slice A34 n35 c36) rfl) rfl <| RW.st (Ex.loadA hM 4 [.int .i64 v66, .slice A68 n69 c70] ta65 rfl rfl rfl rfl) rfl ?_
        refine RW.buildSlice hM st23 tz65 [(0, .agg #[.int .i64 v66, .slice A68 n69 c70])] [.int .i64 v66, .slice A68 n69 c70] (by decide) rfl rfl rfl (by decide) rfl rfl ?_; intro b75 w hM
        have hd76 : DtL Hk64 [.int .i64 v66, .slice A68 n69 c70] ([(api_Bitmap.mk v66 v67)] : List api_Bitmap) := (DtL.cons (c1 := [.int .i64 v66, .slice A68 n69 c70]) ⟨_, _, _, _, rfl, hF72⟩ DtL.nil)
        obtain ⟨hg83, hm⟩ := hm
        refine RW.appendD (α := api_Bitmap) (xs := v33) (ys := ([(api_Bitmap.mk v66 v67)] : List api_Bitmap)) hM 6 st23 rfl rfl (hd38.mono (hle61.trans hle65)) hn39 rfl (fun j u hj => hM.rowCell (k := 0) rfl rfl hj) hd76 rfl hg83 rfl rfl ?_; intro A77 n78 c79 s80 w hd81 hn82 hM
        refine RW.st (Ex.assign (.slice A77 n78 c79) rfl) rfl <| RW.nil <| CW.region ?_
        obtain ⟨hg84, hm⟩ := hm
        refine RW.st (Ex.add rfl rfl hg84.1 hg84.2) rfl <| RW.st (Ex.move (.int .i64 (v40 + 1)) rfl) rfl <| RW.nil ?_
        exact And.intro rfl ⟨k41, ⟨(v33 ++ ([(api_Bitmap.mk v66 v67)] : List api_Bitmap)), A77, n78, c79, s80, v40 + 1, Hk64, hle32.trans (hle61.trans hle65), slc ⟨rfl, rfl, rfl, rfl, rfl, rfl, rfl, rfl, rfl, rfl, rfl, trivial⟩, (hM.pick [1, 2, 3, 4, 6, 7] rfl rfl), hd81, hn82, (by rw [hrec42]; exact hm)⟩, Nat.lt_succ_self _⟩
      ·
       replace hm := And.right hm hc43
       refine CW.exit ?_
       refine CW.seq <| CW.sr <| RW.st (Ex.fieldAddr fa85_1 rfl) rfl <| RW.st (Ex.load1 hM 0 to83 rfl rfl rfl) rfl <| RW.st (Ex.lenN st83.1 rfl hF2.hn) rfl <| RW.st (Ex.move (.int .i64 0) rfl) rfl <| RW.nil <| CW.block ?_
       obtain ⟨m240, hm⟩ := hm
       skip
       obtain ⟨H170, hM, hle171, hF172⟩ := hM.giveF (α := api_Bitmap) 4 rfl hd38 hn39
       replace hM := hM.nilRow 142 3
       refine CW.loop (β := Nat) (fun n σ w => ∃ (v156 : List api_Bitmap), ∃ (A157 : Option Addr), ∃ (n158 : Nat), ∃ (c159 : Nat), ∃ (s160 : List Value), ∃ (v162 : List api_Peer), ∃ (A163 : Option Addr), ∃ (n164 : Nat), ∃ (c165 : Nat), ∃ (s166 : List Value), ∃ (v169 : Int), ∃ Hk154, Hk31.le Hk154 ∧ (∃ τ, σ = sl [(2, .int .i64 x2), (5, .pointer (some ⟨b5, 0, none⟩)), (8, .pointer (some ⟨b6, 0, none⟩)), (11, .int .i64 v16), (12, .slice A157 n158 c159), (13, .pointer (some ⟨b25, 0, none⟩)), (92, .slice A2 n2 c2), (93, .int .i64 ((x0.Peers.length : Int))), (94, .int .i64 v169)] τ) ∧ Mem w0 H w Hk154 [.box b5 3 [.int .i64 x1], .box b6 85 [.slice none 0 0, .slice none 0 0], .box b25 85 [.slice A22 n22 c22, .slice A163 n164 c165], .row (.slice A22 n22 c22) 3 1 n22 s22, .row (.slice A163 n164 c165) 142 3 n164 s166] ∧ (Fz (α := api_Bitmap) Hk154 A157 n158 c159 v156 s160) ∧ (DtL (α := api_Peer) Hk154 s166 v162) ∧ (n164 = v162.length) ∧ LoopN (reverse_Turn_L5 x0 x1 x2 v16 v19 Φ) n (v156, v162, v169)) (fun n => n) m240 ⟨v33, A34, n35, c36, s37, ([] : List api_Peer), none, 0, 0, [], 0, H170, hle171, slc ⟨rfl, rfl, rfl, rfl, rfl, rfl, rfl, rfl, rfl, trivial⟩, (hM.pick [2, 3, 4, 5, 0] rfl rfl), hF172, (DtL.nil : DtL _ [] ([] : List api_Peer)), rfl, hm⟩ ?_
       rintro k173 _ w ⟨v156, A157, n158, c159, s160, v162, A163, n164, c165, s166, v169, Hk154, hle155, ⟨τ, rfl⟩, hM, hF161, hd167, hn168, hm⟩
       obtain _ | k173 := k173
       · exact hm.elim
       replace hm : (reverse_Turn_L5 x0 x1 x2 v16 v19 Φ) (v156, v162, v169) (LoopN (reverse_Turn_L5 x0 x1 x2 v16 v19 Φ) k173) := hm
       generalize hrec174 : LoopN (reverse_Turn_L5 x0 x1 x2 v16 v19 Φ) k173 = rec5 at hm
       refine CW.sr <| RW.st (Ex.lss rfl rfl) rfl <| RW.nil <| CW.seq ?_
       refine CW.cond_dec (p := v169 < (x0.Peers.length : Int)) rfl (fun hc175 => ?_) (fun hc175 => ?_)
       ·
        replace hm := And.left hm hc175
        refine CW.skip <| CW.seq <| CW.block <| CW.sr <| RW.st (Ex.move (.int .i64 v169) rfl) rfl ?_
        obtain ⟨hg186, hm⟩ := hm
        refine RW.st (Ex.index st83 rfl rfl v169.toNat (hF2.ne hg186) hg186.nat (hF2.lt hg186)) rfl ?_
        obtain ⟨_, ⟨A187, n187, c187, s187, rfl, hF187⟩, hx188⟩ := DtL.getI (α := api_Peer) (hF2.mono (((hle12.trans hle21).trans hle32).trans hle155)).dat hg186
        refine RW.st (Ex.loadEA hM (((hle12.trans hle21).trans hle32).trans hle155) hF2.rdc [.int .i64 ((ix x0.Peers v169).Site), .int .i64 ((ix x0.Peers v169).Common), .slice A187 n187 c187] ta142 rfl (hF2.ne hg186) rfl (chunk_sub (off := 0) (n := 3) hx188 rfl)) rfl ?_
        refine RW.alloc hM tz142 [.int .i64 0, .int .i64 0, .slice none 0 0] rfl rfl rfl ?_; intro b189 w hM
        refine RW.st (Ex.assign (.int .i64 v169) rfl) rfl ?_
        refine RW.store hM 0 (.agg #[.int .i64 ((ix x0.Peers v169).Site), .int .i64 ((ix x0.Peers v169).Common), .slice A187 n187 c187]) [.int .i64 ((ix x0.Peers v169).Site), .int .i64 ((ix x0.Peers v169).Common), .slice A187 n187 c187] [.int .i64 ((ix x0.Peers v169).Site), .int .i64 ((ix x0.Peers v169).Common), .slice A187 n187 c187] sz142 rfl rfl rfl (oneAll ⟨rfl, rfl, rfl, trivial⟩) rfl (nb rfl) rfl [.box b189 142 [.int .i64 ((ix x0.Peers v169).Site), .int .i64 ((ix x0.Peers v169).Common), .slice A187 n187 c187], .box b5 3 [.int .i64 x1], .box b6 85 [.slice none 0 0, .slice none 0 0], .box b25 85 [.slice A22 n22 c22, .slice A163 n164 c165], .row (.slice A22 n22 c22) 3 1 n22 s22, .row (.slice A163 n164 c165) 142 3 n164 s166] rfl rfl rfl ?_; intro w hM
        refine RW.nil <| CW.seq <| CW.sr <| RW.st (Ex.move (.int .i64 v169) rfl) rfl <| RW.st (Ex.move (.int .i64 v16) rfl) rfl <| RW.st (Ex.eql rfl rfl) rfl <| RW.nil ?_
        refine CW.cond_dec (p := v169 = v16) rfl (fun hc210 => ?_) (fun hc210 => ?_)
        ·
         replace hm := And.left hm hc210
         refine CW.region <| RW.st (Ex.load1 hM 1 to3 rfl rfl rfl) rfl <| RW.st (Ex.move (.int .i64 x2) rfl) rfl <| RW.st (Ex.move (.slice A157 n158 c159) rfl) rfl <| RW.st (Ex.build bs142 [(0, .int .i64 x1), (1, .int .i64 x2), (2, .slice A157 n158 c159)] [.int .i64 x1, .int .i64 x2, .slice A157 n158 c159] rfl rfl) rfl ?_
         refine RW.store hM 0 (.agg #[.int .i64 x1, .int .i64 x2, .slice A157 n158 c159]) [.int .i64 x1, .int .i64 x2, .slice A157 n158 c159] [.int .i64 x1, .int .i64 x2, .slice A157 n158 c159] sz142 rfl rfl rfl (oneAll ⟨rfl, rfl, rfl, trivial⟩) rfl (nb rfl) rfl [.box b189 142 [.int .i64 x1, .int .i64 x2, .slice A157 n158 c159], .box b5 3 [.int .i64 x1], .box b6 85 [.slice none 0 0, .slice none 0 0], .box b25 85 [.slice A22 n22 c22, .slice A163 n164 c165], .row (.slice A22 n22 c22) 3 1 n22 s22, .row (.slice A163 n164 c165) 142 3 n164 s166] rfl rfl rfl ?_; intro w hM
         refine RW.nil <| CW.region <| RW.st (Ex.fieldAddr fa85_1 rfl) rfl <| RW.st (Ex.load1 hM 3 to83 rfl rfl rfl) rfl <| RW.st (Ex.loadA hM 0 [.int .i64 x1, .int .i64 x2, .slice A157 n158 c159] ta142 rfl rfl rfl rfl) rfl ?_
         refine RW.buildSlice hM st83 tz142 [(0, .agg #[.int .i64 x1, .int .i64 x2, .slice A157 n158 c159])] [.int .i64 x1, .int .i64 x2, .slice A157 n158 c159] (by decide) rfl rfl rfl (by decide) rfl rfl ?_; intro b211 w hM
         have hd212 : DtL Hk154 [.int .i64 x1, .int .i64 x2, .slice A157 n158 c159] ([(api_Peer.mk x1 x2 v156)] : List api_Peer) := (DtL.cons (c1 := [.int .i64 x1, .int .i64 x2, .slice A157 n158 c159]) ⟨_, _, _, _, rfl, hF161⟩ DtL.nil)
         obtain ⟨hg219, hm⟩ := hm
         refine RW.appendD (α := api_Peer) (xs := v162) (ys := ([(api_Peer.mk x1 x2 v156)] : List api_Peer)) hM 6 st83 rfl rfl hd167 hn168 rfl (fun j u hj => hM.rowCell (k := 0) rfl rfl hj) hd212 rfl hg219 rfl rfl ?_; intro A213 n214 c215 s216 w hd217 hn218 hM
         refine RW.st (Ex.fieldAddr fa85_1 rfl) rfl ?_
         refine RW.store hM 4 (.slice A213 n214 c215) [.slice A213 n214 c215] [.slice A22 n22 c22, .slice A213 n214 c215] sz83 rfl rfl rfl (oneAll ⟨rfl, trivial⟩) rfl (nb rfl) rfl [.row (.slice (some ⟨b211, 0, none⟩) 1 1) 142 3 1 [.int .i64 x1, .int .i64 x2, .slice A157 n158 c159], .box b189 142 [.int .i64 x1, .int .i64 x2, .slice A157 n158 c159], .box b5 3 [.int .i64 x1], .box b6 85 [.slice none 0 0, .slice none 0 0], .box b25 85 [.slice A22 n22 c22, .slice A213 n214 c215], .row (.slice A22 n22 c22) 3 1 n22 s22, .row (.slice A213 n214 c215) 142 3 n214 s216] rfl rfl rfl ?_; intro w hM
         refine RW.nil <| CW.region ?_
         obtain ⟨hg220, hm⟩ := hm
         refine RW.st (Ex.add rfl rfl hg220.1 hg220.2) rfl <| RW.st (Ex.move (.int .i64 (v169 + 1)) rfl) rfl <| RW.nil ?_
         exact And.intro rfl ⟨k173, ⟨v156, A157, n158, c159, s160, (v162 ++ ([(api_Peer.mk x1 x2 v156)] : List api_Peer)), A213, n214, c215, s216, v169 + 1, Hk154, hle155.trans (Hp.le.refl _), slc ⟨rfl, rfl, rfl, rfl, rfl, rfl, rfl, rfl, rfl, trivial⟩, (hM.pick [2, 3, 4, 5, 6] rfl rfl), hF161, hd217, hn218, (by rw [hrec174]; exact hm)⟩, Nat.lt_succ_self _⟩
        ·
         replace hm := And.right hm hc210
         refine CW.region <| RW.st (Ex.fieldAddr fa142_2 rfl) rfl <| RW.st (Ex.load1 hM 0 to23 rfl rfl rfl) rfl ?_
         refine RW.callP hM (reverse_volumes_api_Bitmap__reverse_Turn_2_lift ((ix x0.Peers v169).Dirty) hF187 hm) en83 rfl rfl rfl rfl ?_; rintro _ w H222 _ hle223 ⟨v221, hm, A224, n224, c224, s224, rfl, hd225, hn226, rfl⟩ hM
         refine RW.st (Ex.fieldAddr fa142_2 rfl) rfl ?_
         refine RW.store hM 1 (.slice A224 n224 c224) [.slice A224 n224 c224] [.int .i64 ((ix x0.Peers v169).Site), .int .i64 ((ix x0.Peers v169).Common), .slice A224 n224 c224] sz23 rfl rfl rfl (oneAll ⟨rfl, trivial⟩) rfl (nb rfl) rfl [.row (.slice A224 n224 c224) 65 2 n224 s224, .box b189 142 [.int .i64 ((ix x0.Peers v169).Site), .int .i64 ((ix x0.Peers v169).Common), .slice A224 n224 c224], .box b5 3 [.int .i64 x1], .box b6 85 [.slice none 0 0, .slice none 0 0], .box b25 85 [.slice A22 n22 c22, .slice A163 n164 c165], .row (.slice A22 n22 c22) 3 1 n22 s22, .row (.slice A163 n164 c165) 142 3 n164 s166] rfl rfl rfl ?_; intro w hM
         refine RW.nil <| CW.region <| RW.st (Ex.fieldAddr fa85_1 rfl) rfl <| RW.st (Ex.load1 hM 4 to83 rfl rfl rfl) rfl <| RW.st (Ex.loadA hM 1 [.int .i64 ((ix x0.Peers v169).Site), .int .i64 ((ix x0.Peers v169).Common), .slice A224 n224 c224] ta142 rfl rfl rfl rfl) rfl ?_
         obtain ⟨H227, hM, hle228, hF229⟩ := hM.giveF (α := api_Bitmap) 0 rfl hd225 hn226
         refine RW.buildSlice hM st83 tz142 [(0, .agg #[.int .i64 ((ix x0.Peers v169).Site), .int .i64 ((ix x0.Peers v169).Common), .slice A224 n224 c224])] [.int .i64 ((ix x0.Peers v169).Site), .int .i64 ((ix x0.Peers v169).Common), .slice A224 n224 c224] (by decide) rfl rfl rfl (by decide) rfl rfl ?_; intro b230 w hM
         have hd231 : DtL H227 [.int .i64 ((ix x0.Peers v169).Site), .int .i64 ((ix x0.Peers v169).Common), .slice A224 n224 c224] ([(api_Peer.mk ((ix x0.Peers v169).Site) ((ix x0.Peers v169).Common) v221)] : List api_Peer) := (DtL.cons (c1 := [.int .i64 ((ix x0.Peers v169).Site), .int .i64 ((ix x0.Peers v169).Common), .slice A224 n224 c224]) ⟨_, _, _, _, rfl, hF229⟩ DtL.nil)
         obtain ⟨hg238, hm⟩ := hm
         refine RW.appendD (α := api_Peer) (xs := v162) (ys := ([(api_Peer.mk ((ix x0.Peers v169).Site) ((ix x0.Peers v169).Common) v221)] : List api_Peer)) hM 6 st83 rfl rfl (hd167.mono (hle223.trans hle228)) hn168 rfl (fun j u hj => hM.rowCell (k := 0) rfl rfl hj) hd231 rfl hg238 rfl rfl ?_; intro A232 n233 c234 s235 w hd236 hn237 hM
         refine RW.st (Ex.fieldAddr fa85_1 rfl) rfl ?_
         refine RW.store hM 4 (.slice A232 n233 c234) [.slice A232 n233 c234] [.slice A22 n22 c22, .slice A232 n233 c234] sz83 rfl rfl rfl (oneAll ⟨rfl, trivial⟩) rfl (nb rfl) rfl [.row (.slice (some ⟨b230, 0, none⟩) 1 1) 142 3 1 [.int .i64 ((ix x0.Peers v169).Site), .int .i64 ((ix x0.Peers v169).Common), .slice A224 n224 c224], .box b189 142 [.int .i64 ((ix x0.Peers v169).Site), .int .i64 ((ix x0.Peers v169).Common), .slice A224 n224 c224], .box b5 3 [.int .i64 x1], .box b6 85 [.slice none 0 0, .slice none 0 0], .box b25 85 [.slice A22 n22 c22, .slice A232 n233 c234], .row (.slice A22 n22 c22) 3 1 n22 s22, .row (.slice A232 n233 c234) 142 3 n233 s235] rfl rfl rfl ?_; intro w hM
         refine RW.nil <| CW.region ?_
         obtain ⟨hg239, hm⟩ := hm
         refine RW.st (Ex.add rfl rfl hg239.1 hg239.2) rfl <| RW.st (Ex.move (.int .i64 (v169 + 1)) rfl) rfl <| RW.nil ?_
         exact And.intro rfl ⟨k173, ⟨v156, A157, n158, c159, s160, (v162 ++ ([(api_Peer.mk ((ix x0.Peers v169).Site) ((ix x0.Peers v169).Common) v221)] : List api_Peer)), A232, n233, c234, s235, v169 + 1, H227, hle155.trans (hle223.trans hle228), slc ⟨rfl, rfl, rfl, rfl, rfl, rfl, rfl, rfl, rfl, trivial⟩, (hM.pick [2, 3, 4, 5, 6] rfl rfl), (hF161.mono (hle223.trans hle228)), hd236, hn237, (by rw [hrec174]; exact hm)⟩, Nat.lt_succ_self _⟩
       ·
        replace hm := And.right hm hc175
        refine CW.exit ?_
        refine CW.seq <| CW.sr <| RW.st (Ex.loadA hM 2 [.slice A22 n22 c22, .slice A163 n164 c165] ta85 rfl rfl rfl rfl) rfl ?_
        refine RW.store hM 1 (.agg #[.slice A22 n22 c22, .slice A163 n164 c165]) [.slice A22 n22 c22, .slice A163 n164 c165] [.slice A22 n22 c22, .slice A163 n164 c165] sz85 rfl rfl rfl (oneAll ⟨rfl, rfl, trivial⟩) rfl (nb rfl) rfl [.box b5 3 [.int .i64 x1], .box b6 85 [.slice A22 n22 c22, .slice A163 n164 c165], .box b25 85 [.slice A22 n22 c22, .slice A163 n164 c165], .row (.slice A22 n22 c22) 3 1 n22 s22, .row (.slice A163 n164 c165) 142 3 n164 s166] rfl rfl rfl ?_; intro w hM
        refine RW.st (Ex.assign (.int .i64 0) rfl) rfl <| RW.nil <| CW.ret ?_
        refine tqr (scopeQ_ret ?_)
        refine ect (k := 1) (.inl rfl) rfl hM rfl (.int .i64 0) rfl ta85 [.slice A22 n22 c22, .slice A163 n164 c165] rfl rfl ?_
        exact ⟨_, _, (hM.pick [3, 4] rfl rfl), ((api_Tracker.mk v19 v162), 0), hm, A22, n22, c22, s22, A163, n164, c165, s166, rfl, (hd23.mono (hle32.trans hle155)), hn24, hd167, hn168, rfl⟩
 rintro _ _ w ⟨rfl, v9, Hk7, hle8, ⟨τ, rfl⟩, hM, hm⟩
 refine CW.seq <| CW.skip <| CW.sr <| RW.st (Ex.build bs85 [] [.slice none 0 0, .slice none 0 0] rfl rfl) rfl <| RW.st (Ex.move (.int .i64 v9) rfl) rfl ?_
 refine RW.store hM 0 (.agg #[.slice none 0 0, .slice none 0 0]) [.slice none 0 0, .slice none 0 0] [.slice none 0 0, .slice none 0 0] sz85 rfl rfl rfl (oneAll ⟨rfl, rfl, trivial⟩) rfl (nb rfl) rfl [.box b6 85 [.slice none 0 0, .slice none 0 0]] rfl rfl rfl ?_; intro w hM
 refine RW.st (Ex.assign (.int .i64 v9) rfl) rfl <| RW.nil <| CW.ret ?_
 refine noGotoQ_ret ?_
 refine ect (k := 0) (.inl rfl) rfl hM rfl (.int .i64 v9) rfl ta85 [.slice none 0 0, .slice none 0 0] rfl rfl ?_
 replace hM := hM.nilRow 3 1
 replace hM := hM.nilRow 142 3
 exact ⟨_, _, (hM.pick [1, 0] rfl rfl), ((api_Tracker.mk ([] : List Int) ([] : List api_Peer)), v9), hm, none, 0, 0, [], none, 0, 0, [], rfl, (DtL.nil : DtL _ [] ([] : List Int)), rfl, (DtL.nil : DtL _ [] ([] : List api_Peer)), rfl, rfl⟩
theorem reverse_Undo_lift {H : Hp} (hT : TabH H 0) (x0 : api_Point) (x1 : Int) {A1 : Option Addr} {n1 c1 : Nat} {s1 : List Value} (hF1 : Fz (α := api_Span) H A1 n1 c1 x0.Lineage s1) {A2 : Option Addr} {n2 c2 : Nat} {s2 : List Value} (hF2 : Fz (α := api_Bitmap) H A2 n2 c2 x0.Dirty s2) {A3 : Option Addr} {n3 c3 : Nat} {s3 : List Value} (hF3 : Fz (α := List Sec) H A3 n3 c3 x0.Image s3) {Φ : List (List api_Extent) × Int → Prop} (hm : reverse_Undo_W x0 x1 Φ) : RetP Tryd.prog 12 #[.agg #[.int .i64 x0.Site, .slice A1 n1 c1, .slice A2 n2 c2, .slice A3 n3 c3], .int .i64 x1] H (fun H' v L => ∃ y, Φ y ∧ ∃ A38, ∃ n38, ∃ c38, ∃ s38, v = .tuple #[.slice A38 n38 c38, .int .i64 (y.2)] ∧ DtL (α := List api_Extent) H' s38 y.1 ∧ n38 = y.1.length ∧ L = [.row (.slice A38 n38 c38) 68 1 n38 s38]) := by
 refine RetP.of_code Tryd.func12 rfl (nb rfl) fun w0 hM => ?_
 refine CW.sr ?_
 refine RW.box hM (.agg #[.int .i64 x0.Site, .slice A1 n1 c1, .slice A2 n2 c2, .slice A3 n3 c3]) [.int .i64 x0.Site, .slice A1 n1 c1, .slice A2 n2 c2, .slice A3 n3 c3] rfl rfl rfl rfl ?_; intro b4 w hM
 refine RW.st (Ex.assign (.slice none 0 0) rfl) rfl <| RW.st (Ex.assign (.int .i64 0) rfl) rfl <| RW.nil <| CW.seq <| CW.sr <| RW.st (Ex.loadA hM 0 [.int .i64 x0.Site, .slice A1 n1 c1, .slice A2 n2 c2, .slice A3 n3 c3] ta27 rfl rfl rfl rfl) rfl ?_
 refine RW.callP hM (delta_Check_lift x0 hF1 hF2 hF3 hm) en40 rfl rfl rfl rfl ?_; rintro _ w H6 _ hle7 ⟨v5, hm, rfl, rfl⟩ hM
 refine RW.st (Ex.assign (.int .i64 v5) rfl) rfl <| RW.nil <| CW.sr <| RW.st (Ex.move (.int .i64 v5) rfl) rfl <| RW.st (Ex.neq rfl rfl) rfl <| RW.nil ?_
 refine CW.cond_dec (p := v5 ≠ 0) rfl (fun hc8 => ?_) (fun hc8 => ?_)
 ·
  replace hm := And.left hm hc8
  refine CW.sr <| RW.st (Ex.move (.int .i64 v5) rfl) rfl <| RW.st (Ex.assign (.slice none 0 0) rfl) rfl <| RW.st (Ex.assign (.int .i64 v5) rfl) rfl <| RW.nil <| CW.ret ?_
  refine tqr ?_
  refine end_tmp2 (.inl rfl) rfl (.slice none 0 0) (.int .i64 v5) rfl rfl ?_
  replace hM := hM.nilRow 68 1
  exact ⟨_, _, (hM.pick [0] rfl rfl), (([] : List (List api_Extent)), v5), hm, none, 0, 0, [], rfl, (DtL.nil : DtL _ [] ([] : List (List api_Extent))), rfl, rfl⟩
 ·
  replace hm := And.right hm hc8
  refine CW.skip <| CW.seq <| CW.sr <| RW.st (Ex.move (.int .i64 x1) rfl) rfl <| RW.st (Ex.lss rfl rfl) rfl <| RW.st (Ex.move (.bool (decide (x1 < 0))) rfl) rfl ?_
  refine RW.split 14 (p := x1 < 0) rfl (fun hc27 => ?_) (fun hc27 => ?_)
  ·
   replace hm := And.left hm hc27
   refine RW.pp <| RW.pp <| RW.pass rfl rfl <| RW.st (Ex.pickT (.bool true) rfl rfl) rfl <| RW.nil <| CW.cond_true rfl <| CW.sr <| RW.st (Ex.assign (.slice none 0 0) rfl) rfl <| RW.st (Ex.assign (.int .i64 2) rfl) rfl <| RW.nil <| CW.ret ?_
   refine tqr ?_
   refine end_tmp2 (.inl rfl) rfl (.slice none 0 0) (.int .i64 2) rfl rfl ?_
   replace hM := hM.nilRow 68 1
   exact ⟨_, _, (hM.pick [0] rfl rfl), (([] : List (List api_Extent)), 2), hm, none, 0, 0, [], rfl, (DtL.nil : DtL _ [] ([] : List (List api_Extent))), rfl, rfl⟩
  ·
   replace hm := And.right hm hc27
   refine RW.st (Ex.move (.int .i64 x1) rfl) rfl <| RW.st (Ex.fieldAddr fa27_1 rfl) rfl <| RW.st (Ex.load1 hM 0 to22 rfl rfl rfl) rfl ?_
   refine RW.callP hM (reverse_last_lift x0.Lineage (hF1.mono hle7) hm) en41 rfl rfl rfl rfl ?_; rintro _ w H29 _ hle30 ⟨v28, hm, rfl, rfl⟩ hM
   refine RW.st (Ex.gtr rfl rfl) rfl <| RW.st (Ex.pickF (.bool (decide (v28 < x1))) rfl rfl) rfl <| RW.nil ?_
   refine CW.cond_dec (p := v28 < x1) rfl (fun hc31 => ?_) (fun hc31 => ?_)
   ·
    replace hm := And.left hm hc31
    refine CW.sr <| RW.st (Ex.assign (.slice none 0 0) rfl) rfl <| RW.st (Ex.assign (.int .i64 2) rfl) rfl <| RW.nil <| CW.ret ?_
    refine tqr ?_
    refine end_tmp2 (.inl rfl) rfl (.slice none 0 0) (.int .i64 2) rfl rfl ?_
    replace hM := hM.nilRow 68 1
    exact ⟨_, _, (hM.pick [0] rfl rfl), (([] : List (List api_Extent)), 2), hm, none, 0, 0, [], rfl, (DtL.nil : DtL _ [] ([] : List (List api_Extent))), rfl, rfl⟩
   ·
    replace hm := And.right hm hc31
    refine CW.skip <| CW.sr <| RW.st (Ex.fieldAddr fa27_2 rfl) rfl <| RW.st (Ex.load1 hM 0 to23 rfl rfl rfl) rfl ?_
    refine RW.callP hM (reverse_volumes_api_Extent__reverse_Undo_1_lift (hT.mono (hle7.trans hle30)) x0.Dirty (hF2.mono (hle7.trans hle30)) hm) en42 rfl rfl rfl rfl ?_; rintro _ w H33 _ hle34 ⟨v32, hm, A35, n35, c35, s35, rfl, hd36, hn37, rfl⟩ hM
    refine RW.st (Ex.assign (.slice A35 n35 c35) rfl) rfl <| RW.st (Ex.assign (.int .i64 0) rfl) rfl <| RW.nil <| CW.ret ?_
    refine end_tmp2 (.inl rfl) rfl (.slice A35 n35 c35) (.int .i64 0) rfl rfl ?_
    exact ⟨_, _, (hM.pick [0] rfl rfl), (v32, 0), hm, A35, n35, c35, s35, rfl, hd36, hn37, rfl⟩
theorem delta_Between_lift {H : Hp} (hT : TabH H 0) (x0 : api_Point) (x1 : api_Point) {A1 : Option Addr} {n1 c1 : Nat} {s1 : List Value} (hF1 : Fz (α := api_Span) H A1 n1 c1 x0.Lineage s1) {A2 : Option Addr} {n2 c2 : Nat} {s2 : List Value} (hF2 : Fz (α := api_Bitmap) H A2 n2 c2 x0.Dirty s2) {A3 : Option Addr} {n3 c3 : Nat} {s3 : List Value} (hF3 : Fz (α := List Sec) H A3 n3 c3 x0.Image s3) {A4 : Option Addr} {n4 c4 : Nat} {s4 : List Value} (hF4 : Fz (α := api_Span) H A4 n4 c4 x1.Lineage s4) {A5 : Option Addr} {n5 c5 : Nat} {s5 : List Value} (hF5 : Fz (α := api_Bitmap) H A5 n5 c5 x1.Dirty s5) {A6 : Option Addr} {n6 c6 : Nat} {s6 : List Value} (hF6 : Fz (α := List Sec) H A6 n6 c6 x1.Image s6) {Φ : List (List api_Extent) × Int → Prop} (hm : delta_Between_W x0 x1 Φ) : RetP Tryd.prog 47 #[.agg #[.int .i64 x0.Site, .slice A1 n1 c1, .slice A2 n2 c2, .slice A3 n3 c3], .agg #[.int .i64 x1.Site, .slice A4 n4 c4, .slice A5 n5 c5, .slice A6 n6 c6]] H (fun H' v L => ∃ y, Φ y ∧ ∃ A39, ∃ n39, ∃ c39, ∃ s39, v = .tuple #[.slice A39 n39 c39, .int .i64 (y.2)] ∧ DtL (α := List api_Extent) H' s39 y.1 ∧ n39 = y.1.length ∧ L = [.row (.slice A39 n39 c39) 68 1 n39 s39]) := by
 refine RetP.of_code Tryd.func47 rfl (nb rfl) fun w0 hM => ?_
 refine CW.sr ?_
 refine RW.box hM (.agg #[.int .i64 x0.Site, .slice A1 n1 c1, .slice A2 n2 c2, .slice A3 n3 c3]) [.int .i64 x0.Site, .slice A1 n1 c1, .slice A2 n2 c2, .slice A3 n3 c3] rfl rfl rfl rfl ?_; intro b7 w hM
 refine RW.box hM (.agg #[.int .i64 x1.Site, .slice A4 n4 c4, .slice A5 n5 c5, .slice A6 n6 c6]) [.int .i64 x1.Site, .slice A4 n4 c4, .slice A5 n5 c5, .slice A6 n6 c6] rfl rfl rfl rfl ?_; intro b8 w hM
 refine RW.st (Ex.assign (.slice none 0 0) rfl) rfl <| RW.st (Ex.assign (.int .i64 0) rfl) rfl <| RW.nil <| CW.seq <| CW.sr <| RW.st (Ex.loadA hM 1 [.int .i64 x0.Site, .slice A1 n1 c1, .slice A2 n2 c2, .slice A3 n3 c3] ta27 rfl rfl rfl rfl) rfl <| RW.st (Ex.loadA hM 0 [.int .i64 x1.Site, .slice A4 n4 c4, .slice A5 n5 c5, .slice A6 n6 c6] ta27 rfl rfl rfl rfl) rfl ?_
 refine RW.buildSlice hM st166 tz27 [(0, .agg #[.int .i64 x0.Site, .slice A1 n1 c1, .slice A2 n2 c2, .slice A3 n3 c3]), (1, .agg #[.int .i64 x1.Site, .slice A4 n4 c4, .slice A5 n5 c5, .slice A6 n6 c6])] [.int .i64 x0.Site, .slice A1 n1 c1, .slice A2 n2 c2, .slice A3 n3 c3, .int .i64 x1.Site, .slice A4 n4 c4, .slice A5 n5 c5, .slice A6 n6 c6] (by decide) rfl rfl rfl (by decide) rfl rfl ?_; intro b9 w hM
 have hd10 : DtL H [.int .i64 x0.Site, .slice A1 n1 c1, .slice A2 n2 c2, .slice A3 n3 c3, .int .i64 x1.Site, .slice A4 n4 c4, .slice A5 n5 c5, .slice A6 n6 c6] ([x0, x1] : List api_Point) := (DtL.cons (c1 := [.int .i64 x0.Site, .slice A1 n1 c1, .slice A2 n2 c2, .slice A3 n3 c3]) ⟨_, _, _, _, _, _, _, _, _, _, _, _, rfl, hF1, hF2, hF3⟩ (DtL.cons (c1 := [.int .i64 x1.Site, .slice A4 n4 c4, .slice A5 n5 c5, .slice A6 n6 c6]) ⟨_, _, _, _, _, _, _, _, _, _, _, _, rfl, hF4, hF5, hF6⟩ DtL.nil))
 refine RW.st (Ex.lenN st166.1 rfl rfl) rfl <| RW.st (Ex.move (.int .i64 0) rfl) rfl <| RW.nil <| CW.block ?_
 obtain ⟨m38, hm⟩ := hm
 skip
 refine CW.loop (β := Nat) (fun n σ w => ∃ (v13 : Int), ∃ Hk11, H.le Hk11 ∧ (∃ τ, σ = sl [(2, .pointer (some ⟨b7, 0, none⟩)), (3, .pointer (some ⟨b8, 0, none⟩)), (11, .slice (some ⟨b9, 0, none⟩) 2 2), (12, .int .i64 ((([x0, x1] : List api_Point).length : Int))), (13, .int .i64 v13)] τ) ∧ Mem w0 H w Hk11 [.box b7 27 [.int .i64 x0.Site, .slice A1 n1 c1, .slice A2 n2 c2, .slice A3 n3 c3], .box b8 27 [.int .i64 x1.Site, .slice A4 n4 c4, .slice A5 n5 c5, .slice A6 n6 c6], .row (.slice (some ⟨b9, 0, none⟩) 2 2) 27 4 2 [.int .i64 x0.Site, .slice A1 n1 c1, .slice A2 n2 c2, .slice A3 n3 c3, .int .i64 x1.Site, .slice A4 n4 c4, .slice A5 n5 c5, .slice A6 n6 c6]] ∧ LoopN (delta_Between_L1 x0 x1 Φ) n (v13)) (fun n => n) m38 ⟨0, H, (Hp.le.refl _), slc ⟨rfl, rfl, rfl, rfl, rfl, trivial⟩, (hM.pick [2, 1, 0] rfl rfl), hm⟩ ?_
 rintro k14 _ w ⟨v13, Hk11, hle12, ⟨τ, rfl⟩, hM, hm⟩
 obtain _ | k14 := k14
 · exact hm.elim
 replace hm : (delta_Between_L1 x0 x1 Φ) (v13) (LoopN (delta_Between_L1 x0 x1 Φ) k14) := hm
 generalize hrec15 : LoopN (delta_Between_L1 x0 x1 Φ) k14 = rec1 at hm
 refine CW.sr <| RW.st (Ex.lss rfl rfl) rfl <| RW.nil <| CW.seq ?_
 refine CW.cond_dec (p := v13 < (([x0, x1] : List api_Point).length : Int)) rfl (fun hc16 => ?_) (fun hc16 => ?_)
 ·
  replace hm := And.left hm hc16
  refine CW.skip <| CW.seq <| CW.block <| CW.sr ?_
  obtain ⟨hg17, hm⟩ := hm
  refine RW.st (Ex.index st166 rfl rfl v13.toNat (hM.rowNeD (α := api_Point) (p := 2) rfl rfl hg17) hg17.nat (Nat.lt_of_lt_of_eq hg17.lt (rfl).symm)) rfl ?_
  obtain ⟨_, ⟨A18, n18, c18, s18, A19, n19, c19, s19, A20, n20, c20, s20, rfl, hF18, hF19, hF20⟩, hx21⟩ := DtL.getI (α := api_Point) (hd10.mono hle12) hg17
  refine RW.st (Ex.loadRA hM 2 rfl [.int .i64 ((ix ([x0, x1] : List api_Point) v13).Site), .slice A18 n18 c18, .slice A19 n19 c19, .slice A20 n20 c20] ta27 (hM.rowNeD (α := api_Point) (p := 2) rfl rfl hg17) rfl rfl (chunk_sub (off := 0) (n := 4) hx21 rfl)) rfl ?_
  refine RW.alloc hM tz27 [.int .i64 0, .slice none 0 0, .slice none 0 0, .slice none 0 0] rfl rfl rfl ?_; intro b22 w hM
  refine RW.store hM 0 (.agg #[.int .i64 ((ix ([x0, x1] : List api_Point) v13).Site), .slice A18 n18 c18, .slice A19 n19 c19, .slice A20 n20 c20]) [.int .i64 ((ix ([x0, x1] : List api_Point) v13).Site), .slice A18 n18 c18, .slice A19 n19 c19, .slice A20 n20 c20] [.int .i64 ((ix ([x0, x1] : List api_Point) v13).Site), .slice A18 n18 c18, .slice A19 n19 c19, .slice A20 n20 c20] sz27 rfl rfl rfl (oneAll ⟨rfl, rfl, rfl, rfl, trivial⟩) rfl (nb rfl) rfl [.box b22 27 [.int .i64 ((ix ([x0, x1] : List api_Point) v13).Site), .slice A18 n18 c18, .slice A19 n19 c19, .slice A20 n20 c20], .box b7 27 [.int .i64 x0.Site, .slice A1 n1 c1, .slice A2 n2 c2, .slice A3 n3 c3], .box b8 27 [.int .i64 x1.Site, .slice A4 n4 c4, .slice A5 n5 c5, .slice A6 n6 c6], .row (.slice (some ⟨b9, 0, none⟩) 2 2) 27 4 2 [.int .i64 x0.Site, .slice A1 n1 c1, .slice A2 n2 c2, .slice A3 n3 c3, .int .i64 x1.Site, .slice A4 n4 c4, .slice A5 n5 c5, .slice A6 n6 c6]] rfl rfl rfl ?_; intro w hM
  refine RW.nil <| CW.sr <| RW.st (Ex.loadA hM 0 [.int .i64 ((ix ([x0, x1] : List api_Point) v13).Site), .slice A18 n18 c18, .slice A19 n19 c19, .slice A20 n20 c20] ta27 rfl rfl rfl rfl) rfl ?_
  refine RW.callP hM (delta_Check_lift (ix ([x0, x1] : List api_Point) v13) hF18 hF19 hF20 hm) en40 rfl rfl rfl rfl ?_; rintro _ w H24 _ hle25 ⟨v23, hm, rfl, rfl⟩ hM
  refine RW.st (Ex.assign (.int .i64 v23) rfl) rfl <| RW.nil <| CW.sr <| RW.st (Ex.move (.int .i64 v23) rfl) rfl <| RW.st (Ex.neq rfl rfl) rfl <| RW.nil ?_
  refine CW.cond_dec (p := v23 ≠ 0) rfl (fun hc26 => ?_) (fun hc26 => ?_)
  ·
   replace hm := And.left hm hc26
   refine CW.sr <| RW.st (Ex.move (.int .i64 v23) rfl) rfl <| RW.st (Ex.assign (.slice none 0 0) rfl) rfl <| RW.st (Ex.assign (.int .i64 v23) rfl) rfl <| RW.nil <| CW.ret ?_
   refine bqr (tqr (tqr (bqr (tqr ?_))))
   refine end_tmp2 (.inl rfl) rfl (.slice none 0 0) (.int .i64 v23) rfl rfl ?_
   replace hM := hM.nilRow 68 1
   exact ⟨_, _, (hM.pick [0] rfl rfl), (([] : List (List api_Extent)), v23), hm, none, 0, 0, [], rfl, (DtL.nil : DtL _ [] ([] : List (List api_Extent))), rfl, rfl⟩
  ·
   replace hm := And.right hm hc26
   refine CW.skip <| CW.region ?_
   obtain ⟨hg27, hm⟩ := hm
   refine RW.st (Ex.add rfl rfl hg27.1 hg27.2) rfl <| RW.st (Ex.move (.int .i64 (v13 + 1)) rfl) rfl <| RW.nil ?_
   exact And.intro rfl ⟨k14, ⟨v13 + 1, H24, hle12.trans hle25, slc ⟨rfl, rfl, rfl, rfl, rfl, trivial⟩, (hM.pick [1, 2, 3] rfl rfl), (by rw [hrec15]; exact hm)⟩, Nat.lt_succ_self _⟩
 ·
  replace hm := And.right hm hc16
  refine CW.exit ?_
  refine CW.seq <| CW.sr <| RW.st (Ex.fieldAddr fa27_3 rfl) rfl <| RW.st (Ex.load1 hM 0 to25 rfl rfl rfl) rfl <| RW.st (Ex.fieldAddr fa27_3 rfl) rfl <| RW.st (Ex.load1 hM 1 to25 rfl rfl rfl) rfl ?_
  refine RW.callP hM (delta_alike_lift x0.Image x1.Image (hF3.mono hle12) (hF6.mono hle12) hm) en98 rfl rfl rfl rfl ?_; rintro _ w H29 _ hle30 ⟨v28, hm, rfl, rfl⟩ hM
  refine RW.st (Ex.not (p := v28 = true) (bvar _)) rfl <| RW.nil ?_
  refine CW.cond_dec (p := ¬ (v28 = true)) rfl (fun hc31 => ?_) (fun hc31 => ?_)
  ·
   replace hm := And.left hm hc31
   refine CW.sr <| RW.st (Ex.assign (.slice none 0 0) rfl) rfl <| RW.st (Ex.assign (.int .i64 22) rfl) rfl <| RW.nil <| CW.ret ?_
   refine tqr ?_
   refine end_tmp2 (.inl rfl) rfl (.slice none 0 0) (.int .i64 22) rfl rfl ?_
   replace hM := hM.nilRow 68 1
   exact ⟨_, _, (hM.pick [0] rfl rfl), (([] : List (List api_Extent)), 22), hm, none, 0, 0, [], rfl, (DtL.nil : DtL _ [] ([] : List (List api_Extent))), rfl, rfl⟩
  ·
   replace hm := And.right hm hc31
   refine CW.skip <| CW.sr <| RW.st (Ex.loadA hM 0 [.int .i64 x0.Site, .slice A1 n1 c1, .slice A2 n2 c2, .slice A3 n3 c3] ta27 rfl rfl rfl rfl) rfl <| RW.st (Ex.loadA hM 1 [.int .i64 x1.Site, .slice A4 n4 c4, .slice A5 n5 c5, .slice A6 n6 c6] ta27 rfl rfl rfl rfl) rfl ?_
   refine RW.callP hM (delta_marked_lift (hT.mono (hle12.trans hle30)) x0 x1 (hF1.mono (hle12.trans hle30)) (hF2.mono (hle12.trans hle30)) (hF3.mono (hle12.trans hle30)) (hF4.mono (hle12.trans hle30)) (hF5.mono (hle12.trans hle30)) (hF6.mono (hle12.trans hle30)) hm) en99 rfl rfl rfl rfl ?_; rintro _ w H33 _ hle34 ⟨v32, hm, A35, n35, c35, s35, rfl, hd36, hn37, rfl⟩ hM
   refine RW.st (Ex.assign (.slice A35 n35 c35) rfl) rfl <| RW.st (Ex.assign (.int .i64 0) rfl) rfl <| RW.nil <| CW.ret ?_
   refine end_tmp2 (.inl rfl) rfl (.slice A35 n35 c35) (.int .i64 0) rfl rfl ?_
   exact ⟨_, _, (hM.pick [0] rfl rfl), (v32, 0), hm, A35, n35, c35, s35, rfl, hd36, hn37, rfl⟩
theorem coalesce_Check_1_lift {H : Hp} (x0 : api_Write) (y800 : List (List Sec)) {A1 : Option Addr} {n1 c1 : Nat} {s1 : List Value} (hF1 : Fz (α := Sec) H A1 n1 c1 x0.Data s1) {A2 : Option Addr} {n2 c2 : Nat} {s2 : List Value} (hF2 : Fz (α := List Sec) H A2 n2 c2 y800 s2) {b800 : Nat} (hb800 : H b800 = some (.cells [.slice A2 n2 c2].toArray 25 (0, 0))) {Φ : Int → Prop} (hm : coalesce_Check_1_W x0 y800 Φ) : RetP Tryd.prog 143 #[.agg #[.int .i64 x0.Volume, .int .i64 x0.Start, .slice A1 n1 c1], .pointer (some ⟨b800, 0, none⟩)] H (fun _ v L => ∃ y, Φ y ∧ v = .int .i64 (y) ∧ L = []) := by
 refine RetP.of_code Tryd.func143 rfl (nb rfl) fun w0 hM => ?_
 refine CW.sr ?_
 refine RW.box hM (.agg #[.int .i64 x0.Volume, .int .i64 x0.Start, .slice A1 n1 c1]) [.int .i64 x0.Volume, .int .i64 x0.Start, .slice A1 n1 c1] rfl rfl rfl rfl ?_; intro b3 w hM
 refine RW.st (Ex.assign (.int .i64 0) rfl) rfl <| RW.nil <| CW.sr <| RW.st (Ex.loadH hM (Hp.le.refl _) hb800 to25 rfl rfl) rfl <| RW.st (Ex.loadA hM 0 [.int .i64 x0.Volume, .int .i64 x0.Start, .slice A1 n1 c1] ta100 rfl rfl rfl rfl) rfl ?_
 refine RW.callP hM (image_Fits_lift y800 x0 hF2 hF1 hm) en144 rfl rfl rfl rfl ?_; rintro _ w H5 _ hle6 ⟨v4, hm, rfl, rfl⟩ hM
 refine RW.st (Ex.assign (.int .i64 v4) rfl) rfl <| RW.nil <| CW.ret ?_
 refine end_tmp (.inl rfl) rfl (.int .i64 v4) rfl ?_
 exact ⟨_, _, (hM.pick [] rfl rfl), v4, hm, rfl, rfl⟩
theorem reverse_Extents_lift {H : Hp} (hT : TabH H 0) (x0 : api_Point) (x1 : api_Point) {A1 : Option Addr} {n1 c1 : Nat} {s1 : List Value} (hF1 : Fz (α := api_Span) H A1 n1 c1 x0.Lineage s1) {A2 : Option Addr} {n2 c2 : Nat} {s2 : List Value} (hF2 : Fz (α := api_Bitmap) H A2 n2 c2 x0.Dirty s2) {A3 : Option Addr} {n3 c3 : Nat} {s3 : List Value} (hF3 : Fz (α := List Sec) H A3 n3 c3 x0.Image s3) {A4 : Option Addr} {n4 c4 : Nat} {s4 : List Value} (hF4 : Fz (α := api_Span) H A4 n4 c4 x1.Lineage s4) {A5 : Option Addr} {n5 c5 : Nat} {s5 : List Value} (hF5 : Fz (α := api_Bitmap) H A5 n5 c5 x1.Dirty s5) {A6 : Option Addr} {n6 c6 : Nat} {s6 : List Value} (hF6 : Fz (α := List Sec) H A6 n6 c6 x1.Image s6) {Φ : List (List api_Extent) × Int → Prop} (hm : reverse_Extents_W x0 x1 Φ) : RetP Tryd.prog 14 #[.agg #[.int .i64 x0.Site, .slice A1 n1 c1, .slice A2 n2 c2, .slice A3 n3 c3], .agg #[.int .i64 x1.Site, .slice A4 n4 c4, .slice A5 n5 c5, .slice A6 n6 c6]] H (fun H' v L => ∃ y, Φ y ∧ ∃ A15, ∃ n15, ∃ c15, ∃ s15, v = .tuple #[.slice A15 n15 c15, .int .i64 (y.2)] ∧ DtL (α := List api_Extent) H' s15 y.1 ∧ n15 = y.1.length ∧ L = [.row (.slice A15 n15 c15) 68 1 n15 s15]) := by
 refine RetP.of_code Tryd.func14 rfl (nb rfl) fun w0 hM => ?_
 refine CW.sr ?_
 refine RW.box hM (.agg #[.int .i64 x0.Site, .slice A1 n1 c1, .slice A2 n2 c2, .slice A3 n3 c3]) [.int .i64 x0.Site, .slice A1 n1 c1, .slice A2 n2 c2, .slice A3 n3 c3] rfl rfl rfl rfl ?_; intro b7 w hM
 refine RW.box hM (.agg #[.int .i64 x1.Site, .slice A4 n4 c4, .slice A5 n5 c5, .slice A6 n6 c6]) [.int .i64 x1.Site, .slice A4 n4 c4, .slice A5 n5 c5, .slice A6 n6 c6] rfl rfl rfl rfl ?_; intro b8 w hM
 refine RW.st (Ex.assign (.slice none 0 0) rfl) rfl <| RW.st (Ex.assign (.int .i64 0) rfl) rfl <| RW.nil <| CW.sr <| RW.st (Ex.loadA hM 1 [.int .i64 x0.Site, .slice A1 n1 c1, .slice A2 n2 c2, .slice A3 n3 c3] ta27 rfl rfl rfl rfl) rfl <| RW.st (Ex.loadA hM 0 [.int .i64 x1.Site, .slice A4 n4 c4, .slice A5 n5 c5, .slice A6 n6 c6] ta27 rfl rfl rfl rfl) rfl ?_
 refine RW.callP hM (delta_Between_lift hT x0 x1 hF1 hF2 hF3 hF4 hF5 hF6 hm) en47 rfl rfl rfl rfl ?_; rintro _ w H10 _ hle11 ⟨v9, hm, A12, n12, c12, s12, rfl, hd13, hn14, rfl⟩ hM
 refine RW.st (Ex.extract rfl rfl) rfl <| RW.st (Ex.extract rfl rfl) rfl <| RW.st (Ex.assign (.slice A12 n12 c12) rfl) rfl <| RW.st (Ex.assign (.int .i64 v9.2) rfl) rfl <| RW.nil <| CW.ret ?_
 refine end_tmp2 (.inl rfl) rfl (.slice A12 n12 c12) (.int .i64 v9.2) rfl rfl ?_
 exact ⟨_, _, (hM.pick [0] rfl rfl), (v9.1, v9.2), hm, A12, n12, c12, s12, rfl, hd13, hn14, rfl⟩
theorem coalesce_check__coalesce_Check_1_lift {H : Hp} (x0 : List api_Write) (y910 : List (List Sec)) {A1 : Option Addr} {n1 c1 : Nat} {s1 : List Value} (hF1 : Fz (α := api_Write) H A1 n1 c1 x0 s1) {A2 : Option Addr} {n2 c2 : Nat} {s2 : List Value} (hF2 : Fz (α := List Sec) H A2 n2 c2 y910 s2) {b910 : Nat} (hb910 : H b910 = some (.cells [.slice A2 n2 c2].toArray 25 (0, 0))) {Φ : Int → Prop} (hm : coalesce_check__coalesce_Check_1_W x0 y910 Φ) : RetP Tryd.prog 142 #[.slice A1 n1 c1, .func (.func 143) #[] #[.pointer (some ⟨b910, 0, none⟩)]] H (fun _ v L => ∃ y, Φ y ∧ v = .int .i64 (y) ∧ L = []) := by
 refine RetP.of_code Tryd.func142 rfl (nb rfl) fun w0 hM => ?_
 refine CW.sr <| RW.st (Ex.assign (.int .i64 0) rfl) rfl <| RW.nil <| CW.seq <| CW.sr <| RW.st (Ex.move (.slice A1 n1 c1) rfl) rfl <| RW.st (Ex.lenN st43.1 rfl hF1.hn) rfl <| RW.st (Ex.move (.int .i64 0) rfl) rfl <| RW.nil <| CW.block ?_
 obtain ⟨m33, hm⟩ := hm
 skip
 refine CW.loop (β := Nat) (fun n σ w => ∃ (v5 : Int), ∃ Hk3, H.le Hk3 ∧ (∃ τ, σ = sl [(0, .slice A1 n1 c1), (1, .func (.func 143) #[] #[.pointer (some ⟨b910, 0, none⟩)]), (9, .slice A1 n1 c1), (10, .int .i64 ((x0.length : Int))), (11, .int .i64 v5)] τ) ∧ Mem w0 H w Hk3 [] ∧ LoopN (coalesce_check__coalesce_Check_1_L1 x0 y910 Φ) n (v5)) (fun n => n) m33 ⟨0, H, (Hp.le.refl _), slc ⟨rfl, rfl, rfl, rfl, rfl, trivial⟩, hM, hm⟩ ?_
 rintro k6 _ w ⟨v5, Hk3, hle4, ⟨τ, rfl⟩, hM, hm⟩
 obtain _ | k6 := k6
 · exact hm.elim
 replace hm : (coalesce_check__coalesce_Check_1_L1 x0 y910 Φ) (v5) (LoopN (coalesce_check__coalesce_Check_1_L1 x0 y910 Φ) k6) := hm
 generalize hrec7 : LoopN (coalesce_check__coalesce_Check_1_L1 x0 y910 Φ) k6 = rec1 at hm
 refine CW.sr <| RW.st (Ex.lss rfl rfl) rfl <| RW.nil <| CW.seq ?_
 refine CW.cond_dec (p := v5 < (x0.length : Int)) rfl (fun hc8 => ?_) (fun hc8 => ?_)
 ·
  replace hm := And.left hm hc8
  refine CW.skip <| CW.seq <| CW.block <| CW.sr <| RW.st (Ex.move (.int .i64 v5) rfl) rfl ?_
  obtain ⟨hg12, hm⟩ := hm
  refine RW.st (Ex.index st43 rfl rfl v5.toNat (hF1.ne hg12) hg12.nat (hF1.lt hg12)) rfl ?_
  obtain ⟨_, ⟨A13, n13, c13, s13, rfl, hF13⟩, hx14⟩ := DtL.getI (α := api_Write) (hF1.mono hle4).dat hg12
  refine RW.st (Ex.loadEA hM hle4 hF1.rdc [.int .i64 ((ix x0 v5).Volume), .int .i64 ((ix x0 v5).Start), .slice A13 n13 c13] ta100 rfl (hF1.ne hg12) rfl (chunk_sub (off := 0) (n := 3) hx14 rfl)) rfl ?_
  refine RW.alloc hM tz100 [.int .i64 0, .int .i64 0, .slice none 0 0] rfl rfl rfl ?_; intro b15 w hM
  refine RW.st (Ex.assign (.int .i64 v5) rfl) rfl ?_
  refine RW.store hM 0 (.agg #[.int .i64 ((ix x0 v5).Volume), .int .i64 ((ix x0 v5).Start), .slice A13 n13 c13]) [.int .i64 ((ix x0 v5).Volume), .int .i64 ((ix x0 v5).Start), .slice A13 n13 c13] [.int .i64 ((ix x0 v5).Volume), .int .i64 ((ix x0 v5).Start), .slice A13 n13 c13] sz100 rfl rfl rfl (oneAll ⟨rfl, rfl, rfl, trivial⟩) rfl (nb rfl) rfl [.box b15 100 [.int .i64 ((ix x0 v5).Volume), .int .i64 ((ix x0 v5).Start), .slice A13 n13 c13]] rfl rfl rfl ?_; intro w hM
  refine RW.nil <| CW.seq <| CW.sr <| RW.st (Ex.move (.func (.func 143) #[] #[.pointer (some ⟨b910, 0, none⟩)]) rfl) rfl <| RW.st (Ex.loadA hM 0 [.int .i64 ((ix x0 v5).Volume), .int .i64 ((ix x0 v5).Start), .slice A13 n13 c13] ta100 rfl rfl rfl rfl) rfl ?_
  refine RW.callP hM (coalesce_Check_1_lift (ix x0 v5) y910 hF13 (hF2.mono hle4) (hle4 _ _ hb910) hm) en143 rfl rfl rfl rfl ?_; rintro _ w H17 _ hle18 ⟨v16, hm, rfl, rfl⟩ hM
  refine RW.st (Ex.assign (.int .i64 v16) rfl) rfl <| RW.nil <| CW.sr <| RW.st (Ex.move (.int .i64 v16) rfl) rfl <| RW.st (Ex.neq rfl rfl) rfl <| RW.nil ?_
  refine CW.cond_dec (p := v16 ≠ 0) rfl (fun hc19 => ?_) (fun hc19 => ?_)
  ·
   replace hm := And.left hm hc19
   refine CW.sr <| RW.st (Ex.move (.int .i64 v16) rfl) rfl <| RW.st (Ex.assign (.int .i64 v16) rfl) rfl <| RW.nil <| CW.ret ?_
   refine tqr (bqr (tqr (tqr (bqr (tqr ?_)))))
   refine end_tmp (.inl rfl) rfl (.int .i64 v16) rfl ?_
   exact ⟨_, _, (hM.pick [] rfl rfl), v16, hm, rfl, rfl⟩
  ·
   replace hm := And.right hm hc19
   refine CW.skip <| CW.seq <| CW.sr <| RW.st (Ex.move (.int .i64 v5) rfl) rfl <| RW.st (Ex.eql rfl rfl) rfl <| RW.nil ?_
   refine CW.cond_dec (p := v5 = 0) rfl (fun hc20 => ?_) (fun hc20 => ?_)
   ·
    replace hm := And.left hm hc20
    refine CW.exit ?_
    refine CW.region ?_
    obtain ⟨hg21, hm⟩ := hm
    refine RW.st (Ex.add rfl rfl hg21.1 hg21.2) rfl <| RW.st (Ex.move (.int .i64 (v5 + 1)) rfl) rfl <| RW.nil ?_
    exact And.intro rfl ⟨k6, ⟨v5 + 1, H17, hle4.trans hle18, slc ⟨rfl, rfl, rfl, rfl, rfl, trivial⟩, (hM.pick [] rfl rfl), (by rw [hrec7]; exact hm)⟩, Nat.lt_succ_self _⟩
   ·
    replace hm := And.right hm hc20
    refine CW.skip <| CW.sr <| RW.st (Ex.move (.slice A1 n1 c1) rfl) rfl <| RW.st (Ex.move (.int .i64 v5) rfl) rfl ?_
    obtain ⟨hg22, hm⟩ := hm
    refine RW.st (Ex.sub rfl rfl hg22.1 hg22.2) rfl ?_
    obtain ⟨hg23, hm⟩ := hm
    refine RW.st (Ex.index st43 rfl rfl ((v5 - 1).toNat) (hF1.ne hg23) hg23.nat (hF1.lt hg23)) rfl ?_
    obtain ⟨_, ⟨A24, n24, c24, s24, rfl, hF24⟩, hx25⟩ := DtL.getI (α := api_Write) (hF1.mono (hle4.trans hle18)).dat hg23
    refine RW.st (Ex.loadEA hM (hle4.trans hle18) hF1.rdc [.int .i64 ((ix x0 (v5 - 1)).Volume), .int .i64 ((ix x0 (v5 - 1)).Start), .slice A24 n24 c24] ta100 rfl (hF1.ne hg23) rfl (chunk_sub (off := 0) (n := 3) hx25 rfl)) rfl ?_
    refine RW.alloc hM tz100 [.int .i64 0, .int .i64 0, .slice none 0 0] rfl rfl rfl ?_; intro b26 w hM
    refine RW.store hM 0 (.agg #[.int .i64 ((ix x0 (v5 - 1)).Volume), .int .i64 ((ix x0 (v5 - 1)).Start), .slice A24 n24 c24]) [.int .i64 ((ix x0 (v5 - 1)).Volume), .int .i64 ((ix x0 (v5 - 1)).Start), .slice A24 n24 c24] [.int .i64 ((ix x0 (v5 - 1)).Volume), .int .i64 ((ix x0 (v5 - 1)).Start), .slice A24 n24 c24] sz100 rfl rfl rfl (oneAll ⟨rfl, rfl, rfl, trivial⟩) rfl (nb rfl) rfl [.box b26 100 [.int .i64 ((ix x0 (v5 - 1)).Volume), .int .i64 ((ix x0 (v5 - 1)).Start), .slice A24 n24 c24], .box b15 100 [.int .i64 ((ix x0 v5).Volume), .int .i64 ((ix x0 v5).Start), .slice A13 n13 c13]] rfl rfl rfl ?_; intro w hM
    refine RW.nil ?_
    obtain ⟨hG32, hm⟩ := hm
    refine CW.cut (fun D σ w => D = [] ∧ (∃ τ, σ = sl [(0, .slice A1 n1 c1), (1, .func (.func 143) #[] #[.pointer (some ⟨b910, 0, none⟩)]), (9, .slice A1 n1 c1), (10, .int .i64 ((x0.length : Int))), (11, .int .i64 v5), (51, .bool (decide ((((ix x0 v5).Volume) < ((ix x0 (v5 - 1)).Volume)) ∨ ((((ix x0 v5).Volume) = ((ix x0 (v5 - 1)).Volume)) ∧ (((ix x0 v5).Start) ≤ (((ix x0 (v5 - 1)).Start) + (((ix x0 (v5 - 1)).Data).length : Int)))))))] τ) ∧ Mem w0 H w H17 [.box b26 100 [.int .i64 ((ix x0 (v5 - 1)).Volume), .int .i64 ((ix x0 (v5 - 1)).Start), .slice A24 n24 c24], .box b15 100 [.int .i64 ((ix x0 v5).Volume), .int .i64 ((ix x0 v5).Start), .slice A13 n13 c13]]) ?_ ?_
    ·
     replace hm := hG32
     refine CW.region <| RW.st (Ex.fieldAddr fa100_0 rfl) rfl <| RW.st (Ex.load1 hM 1 to3 rfl rfl rfl) rfl <| RW.st (Ex.fieldAddr fa100_0 rfl) rfl <| RW.st (Ex.load1 hM 0 to3 rfl rfl rfl) rfl <| RW.st (Ex.lss rfl rfl) rfl <| RW.st (Ex.move (.bool (decide (((ix x0 v5).Volume) < ((ix x0 (v5 - 1)).Volume)))) rfl) rfl ?_
     refine RW.split 34 (p := ((ix x0 v5).Volume) < ((ix x0 (v5 - 1)).Volume)) rfl (fun hc27 => ?_) (fun hc27 => ?_)
     ·
      skip
      refine RW.pp <| RW.pp <| RW.pp <| RW.pp <| RW.pp <| RW.pp <| RW.pass rfl rfl <| RW.pass rfl rfl ?_
      refine RW.pp <| RW.st (Ex.pickT (.bool true) rfl rfl) rfl <| RW.nil ?_
      exact And.intro rfl (And.intro (slc ⟨rfl, rfl, rfl, rfl, rfl, (congrArg Value.bool (decide_eq_true (.inl hc27)).symm), trivial⟩) hM)
     ·
      replace hm := hm hc27
      refine RW.st (Ex.fieldAddr fa100_0 rfl) rfl <| RW.st (Ex.load1 hM 1 to3 rfl rfl rfl) rfl <| RW.st (Ex.fieldAddr fa100_0 rfl) rfl <| RW.st (Ex.load1 hM 0 to3 rfl rfl rfl) rfl <| RW.st (Ex.eql rfl rfl) rfl <| RW.st (Ex.move (.bool (decide (((ix x0 v5).Volume) = ((ix x0 (v5 - 1)).Volume)))) rfl) rfl ?_
      refine RW.split 40 (p := ((ix x0 v5).Volume) = ((ix x0 (v5 - 1)).Volume)) rfl (fun hc28 => ?_) (fun hc28 => ?_)
      ·
       replace hm := hm hc28
       refine RW.st (Ex.fieldAddr fa100_1 rfl) rfl <| RW.st (Ex.load1 hM 1 to3 rfl rfl rfl) rfl <| RW.st (Ex.fieldAddr fa100_1 rfl) rfl <| RW.st (Ex.load1 hM 0 to3 rfl rfl rfl) rfl <| RW.st (Ex.fieldAddr fa100_2 rfl) rfl <| RW.st (Ex.load1 hM 0 to61 rfl rfl rfl) rfl <| RW.st (Ex.lenN st61.1 rfl hF24.hn) rfl ?_
       have hg29 := hm
       refine RW.st (Ex.add rfl rfl hg29.1 hg29.2) rfl <| RW.st (Ex.leq rfl rfl) rfl <| RW.st (Ex.pickT (.bool (decide (((ix x0 v5).Start) ≤ (((ix x0 (v5 - 1)).Start) + (((ix x0 (v5 - 1)).Data).length : Int))))) rfl rfl) rfl <| RW.st (Ex.pickF (.bool (decide (((ix x0 v5).Start) ≤ (((ix x0 (v5 - 1)).Start) + (((ix x0 (v5 - 1)).Data).length : Int))))) rfl rfl) rfl <| RW.nil ?_
       exact And.intro rfl (And.intro (slc ⟨rfl, rfl, rfl, rfl, rfl, (congrArg Value.bool (decide_eq_decide.2 (imOr hc27 (imAnd hc28 Iff.rfl)))), trivial⟩) hM)
      ·
       skip
       refine RW.pp <| RW.pp <| RW.pp <| RW.pp <| RW.pass rfl rfl <| RW.st (Ex.pickF (.bool false) rfl rfl) rfl <| RW.st (Ex.pickF (.bool false) rfl rfl) rfl <| RW.nil ?_
       exact And.intro rfl (And.intro (slc ⟨rfl, rfl, rfl, rfl, rfl, (congrArg Value.bool (decide_eq_false (fun q => q.elim hc27 (fun q => hc28 q.1))).symm), trivial⟩) hM)
    rintro _ _ w ⟨rfl, ⟨τ, rfl⟩, hM⟩
    refine CW.cond_dec (p := (((ix x0 v5).Volume) < ((ix x0 (v5 - 1)).Volume)) ∨ ((((ix x0 v5).Volume) = ((ix x0 (v5 - 1)).Volume)) ∧ (((ix x0 v5).Start) ≤ (((ix x0 (v5 - 1)).Start) + (((ix x0 (v5 - 1)).Data).length : Int))))) rfl (fun hc30 => ?_) (fun hc30 => ?_)
    ·
     replace hm := And.left hm hc30
     refine CW.sr <| RW.st (Ex.assign (.int .i64 3) rfl) rfl <| RW.nil <| CW.ret ?_
     refine bqr (tqr (tqr (bqr (tqr ?_))))
     refine end_tmp (.inl rfl) rfl (.int .i64 3) rfl ?_
     exact ⟨_, _, (hM.pick [] rfl rfl), 3, hm, rfl, rfl⟩
    ·
     replace hm := And.right hm hc30
     refine CW.skip <| CW.region ?_
     obtain ⟨hg31, hm⟩ := hm
     refine RW.st (Ex.add rfl rfl hg31.1 hg31.2) rfl <| RW.st (Ex.move (.int .i64 (v5 + 1)) rfl) rfl <| RW.nil ?_
     exact And.intro rfl ⟨k6, ⟨v5 + 1, H17, hle4.trans hle18, slc ⟨rfl, rfl, rfl, rfl, rfl, trivial⟩, (hM.pick [] rfl rfl), (by rw [hrec7]; exact hm)⟩, Nat.lt_succ_self _⟩
 ·
  replace hm := And.right hm hc8
  refine CW.exit ?_
  refine CW.sr <| RW.st (Ex.assign (.int .i64 0) rfl) rfl <| RW.nil <| CW.ret ?_
  refine end_tmp (.inl rfl) rfl (.int .i64 0) rfl ?_
  exact ⟨_, _, hM, 0, hm, rfl, rfl⟩
theorem coalesce_Check_lift {H : Hp} (x0 : List api_Write) (x1 : List Int) {A1 : Option Addr} {n1 c1 : Nat} {s1 : List Value} (hF1 : Fz (α := api_Write) H A1 n1 c1 x0 s1) {A2 : Option Addr} {n2 c2 : Nat} {s2 : List Value} (hF2 : Fz (α := Int) H A2 n2 c2 x1 s2) {Φ : Int → Prop} (hm : coalesce_Check_W x0 x1 Φ) : RetP Tryd.prog 105 #[.slice A1 n1 c1, .slice A2 n2 c2] H (fun _ v L => ∃ y, Φ y ∧ v = .int .i64 (y) ∧ L = []) := by
 refine RetP.of_code Tryd.func105 rfl (nb rfl) fun w0 hM => ?_
 refine CW.sr <| RW.st (Ex.assign (.int .i64 0) rfl) rfl <| RW.nil <| CW.sr <| RW.st (Ex.move (.slice A2 n2 c2) rfl) rfl ?_
 refine RW.callP hM (image_New_lift x1 hF2 hm) en102 rfl rfl rfl rfl ?_; rintro _ w H4 _ hle5 ⟨v3, hm, A6, n6, c6, s6, rfl, hF6, rfl⟩ hM
 refine RW.st (Ex.move (.tuple #[.slice A6 n6 c6, .int .i64 v3.2]) rfl) rfl <| RW.st (Ex.extract rfl rfl) rfl <| RW.st (Ex.extract rfl rfl) rfl ?_
 refine RW.alloc hM tz25 [.slice none 0 0] rfl rfl rfl ?_; intro b7 w hM
 refine RW.store hM 0 (.slice A6 n6 c6) [.slice A6 n6 c6] [.slice A6 n6 c6] sz25 rfl rfl rfl (oneAll ⟨rfl, trivial⟩) rfl (nb rfl) rfl [.box b7 25 [.slice A6 n6 c6]] rfl rfl rfl ?_; intro w hM
 refine RW.st (Ex.assign (.int .i64 v3.2) rfl) rfl <| RW.nil <| CW.seq <| CW.sr <| RW.st (Ex.move (.int .i64 v3.2) rfl) rfl <| RW.st (Ex.neq rfl rfl) rfl <| RW.nil ?_
 refine CW.cond_dec (p := v3.2 ≠ 0) rfl (fun hc8 => ?_) (fun hc8 => ?_)
 ·
  replace hm := And.left hm hc8
  refine CW.sr <| RW.st (Ex.move (.int .i64 v3.2) rfl) rfl <| RW.st (Ex.assign (.int .i64 v3.2) rfl) rfl <| RW.nil <| CW.ret ?_
  refine tqr ?_
  refine end_tmp (.inl rfl) rfl (.int .i64 v3.2) rfl ?_
  exact ⟨_, _, (hM.pick [] rfl rfl), v3.2, hm, rfl, rfl⟩
 ·
  replace hm := And.right hm hc8
  refine CW.skip <| CW.sr <| RW.st (Ex.move (.slice A1 n1 c1) rfl) rfl <| RW.st (Ex.makeFunc (fs := []) (cs := [.pointer (some ⟨b7, 0, none⟩)]) rfl rfl) rfl ?_
  have hM1 := hM
  obtain ⟨H9, hM, hle10, hb11⟩ := hM.giveBox 0 rfl
  refine RW.callB hM1 hM (coalesce_check__coalesce_Check_1_lift x0 v3.1 (hF1.mono (hle5.trans hle10)) (hF6.mono hle10) hb11 hm) en142 rfl rfl rfl rfl ?_; clear hM hM1; intro v12 w hm hM
  refine RW.st (Ex.assign (.int .i64 v12) rfl) rfl <| RW.nil <| CW.ret ?_
  refine end_tmp (.inl rfl) rfl (.int .i64 v12) rfl ?_
  exact ⟨_, _, (hM.pick [] rfl rfl), v12, hm, rfl, rfl⟩
theorem cycle_Check_lift {H : Hp} (x0 : api_Cycle) (x1 : List Int) {A1 : Option Addr} {n1 c1 : Nat} {s1 : List Value} (hF1 : Fz (α := Int) H A1 n1 c1 x0.Positions s1) {A2 : Option Addr} {n2 c2 : Nat} {s2 : List Value} (hF2 : Fz (α := api_Write) H A2 n2 c2 x0.Writes s2) {A3 : Option Addr} {n3 c3 : Nat} {s3 : List Value} (hF3 : Fz (α := Int) H A3 n3 c3 x1 s3) {Φ : Int → Prop} (hm : cycle_Check_W x0 x1 Φ) : RetP Tryd.prog 53 #[.agg #[.int .i64 x0.Base, .int .i64 x0.Number, .int .i64 x0.Time, .slice A1 n1 c1, .slice A2 n2 c2], .slice A3 n3 c3] H (fun _ v L => ∃ y, Φ y ∧ v = .int .i64 (y) ∧ L = []) := by
 refine RetP.of_code Tryd.func53 rfl (nb rfl) fun w0 hM => ?_
 refine CW.sr ?_
 refine RW.box hM (.agg #[.int .i64 x0.Base, .int .i64 x0.Number, .int .i64 x0.Time, .slice A1 n1 c1, .slice A2 n2 c2]) [.int .i64 x0.Base, .int .i64 x0.Number, .int .i64 x0.Time, .slice A1 n1 c1, .slice A2 n2 c2] rfl rfl rfl rfl ?_; intro b4 w hM
 refine RW.st (Ex.assign (.int .i64 0) rfl) rfl <| RW.nil <| CW.seq <| CW.sr <| RW.st (Ex.move (.slice A3 n3 c3) rfl) rfl ?_
 refine RW.callP hM (image_New_lift x1 hF3 hm) en102 rfl rfl rfl rfl ?_; rintro _ w H6 _ hle7 ⟨v5, hm, A8, n8, c8, s8, rfl, hF8, rfl⟩ hM
 refine RW.st (Ex.move (.tuple #[.slice A8 n8 c8, .int .i64 v5.2]) rfl) rfl <| RW.st (Ex.extract rfl rfl) rfl <| RW.st (Ex.extract rfl rfl) rfl <| RW.st (Ex.assign (.slice A8 n8 c8) rfl) rfl <| RW.st (Ex.assign (.int .i64 v5.2) rfl) rfl <| RW.nil <| CW.sr <| RW.st (Ex.move (.int .i64 v5.2) rfl) rfl <| RW.st (Ex.neq rfl rfl) rfl <| RW.nil ?_
 refine CW.cond_dec (p := v5.2 ≠ 0) rfl (fun hc9 => ?_) (fun hc9 => ?_)
 ·
  replace hm := And.left hm hc9
  refine CW.sr <| RW.st (Ex.move (.int .i64 v5.2) rfl) rfl <| RW.st (Ex.assign (.int .i64 v5.2) rfl) rfl <| RW.nil <| CW.ret ?_
  refine tqr ?_
  refine end_tmp (.inl rfl) rfl (.int .i64 v5.2) rfl ?_
  exact ⟨_, _, (hM.pick [] rfl rfl), v5.2, hm, rfl, rfl⟩
 ·
  replace hm := And.right hm hc9
  refine CW.skip <| CW.seq <| CW.block ?_
  skip
  refine CW.cut (fun D σ w => D = [] ∧ (∃ τ, σ = sl [(1, .slice A3 n3 c3), (2, .pointer (some ⟨b4, 0, none⟩)), (16, .bool (decide ((x0.Base < 0) ∨ ((x0.Number ≤ x0.Base) ∨ (1073741824 < x0.Number)))))] τ) ∧ Mem w0 H w H6 [.box b4 45 [.int .i64 x0.Base, .int .i64 x0.Number, .int .i64 x0.Time, .slice A1 n1 c1, .slice A2 n2 c2]]) ?_ ?_
  ·
   skip
   refine CW.region <| RW.st (Ex.fieldAddr fa45_0 rfl) rfl <| RW.st (Ex.load1 hM 0 to3 rfl rfl rfl) rfl <| RW.st (Ex.lss rfl rfl) rfl <| RW.st (Ex.move (.bool (decide (x0.Base < 0))) rfl) rfl ?_
   refine RW.split 20 (p := x0.Base < 0) rfl (fun hc10 => ?_) (fun hc10 => ?_)
   ·
    skip
    refine RW.pp <| RW.pp <| RW.pass rfl rfl <| RW.st (Ex.pickT (.bool true) rfl rfl) rfl <| RW.st (Ex.move (.bool true) rfl) rfl <| RW.pp <| RW.pass rfl rfl <| RW.st (Ex.pickT (.bool true) rfl rfl) rfl <| RW.st (Ex.assign (.bool true) rfl) rfl <| RW.nil ?_
    exact And.intro rfl (And.intro (slc ⟨rfl, rfl, (congrArg Value.bool (decide_eq_true (.inl hc10)).symm), trivial⟩) hM)
   ·
    skip
    refine RW.st (Ex.fieldAddr fa45_1 rfl) rfl <| RW.st (Ex.load1 hM 0 to3 rfl rfl rfl) rfl <| RW.st (Ex.fieldAddr fa45_0 rfl) rfl <| RW.st (Ex.load1 hM 0 to3 rfl rfl rfl) rfl <| RW.st (Ex.leq rfl rfl) rfl <| RW.st (Ex.pickF (.bool (decide (x0.Number ≤ x0.Base))) rfl rfl) rfl <| RW.st (Ex.move (.bool (decide (x0.Number ≤ x0.Base))) rfl) rfl ?_
    refine RW.split 27 (p := x0.Number ≤ x0.Base) rfl (fun hc11 => ?_) (fun hc11 => ?_)
    ·
     skip
     refine RW.pp <| RW.pass rfl rfl <| RW.st (Ex.pickT (.bool true) rfl rfl) rfl <| RW.st (Ex.assign (.bool true) rfl) rfl <| RW.nil ?_
     exact And.intro rfl (And.intro (slc ⟨rfl, rfl, (congrArg Value.bool (decide_eq_true (.inr (.inl hc11))).symm), trivial⟩) hM)
    ·
     skip
     refine RW.st (Ex.fieldAddr fa45_1 rfl) rfl <| RW.st (Ex.load1 hM 0 to3 rfl rfl rfl) rfl <| RW.st (Ex.gtr rfl rfl) rfl <| RW.st (Ex.pickF (.bool (decide (1073741824 < x0.Number))) rfl rfl) rfl <| RW.st (Ex.assign (.bool (decide (1073741824 < x0.Number))) rfl) rfl <| RW.nil ?_
     exact And.intro rfl (And.intro (slc ⟨rfl, rfl, (congrArg Value.bool (decide_eq_decide.2 (imOr hc10 (imOr hc11 Iff.rfl)))), trivial⟩) hM)
  rintro _ _ w ⟨rfl, ⟨τ, rfl⟩, hM⟩
  refine CW.cond_dec (p := (x0.Base < 0) ∨ ((x0.Number ≤ x0.Base) ∨ (1073741824 < x0.Number))) rfl (fun hc12 => ?_) (fun hc12 => ?_)
  ·
   replace hm := And.left hm hc12
   refine CW.sr <| RW.st (Ex.assign (.int .i64 2) rfl) rfl <| RW.nil <| CW.ret ?_
   refine bqr (tqr ?_)
   refine end_tmp (.inl rfl) rfl (.int .i64 2) rfl ?_
   exact ⟨_, _, (hM.pick [] rfl rfl), 2, hm, rfl, rfl⟩
  ·
   replace hm := And.right hm hc12
   refine CW.sr <| RW.st (Ex.fieldAddr fa45_2 rfl) rfl <| RW.st (Ex.load1 hM 0 to3 rfl rfl rfl) rfl ?_
   refine RW.callP hM (cycle_in_lift x0.Time 0 1073741824 hm) en103 rfl rfl rfl rfl ?_; rintro _ w H14 _ hle15 ⟨v13, hm, rfl, rfl⟩ hM
   refine RW.st (Ex.not (p := v13 = true) (bvar _)) rfl <| RW.st (Ex.assign (.bool (decide (¬ (v13 = true)))) rfl) rfl <| RW.nil ?_
   refine CW.cond_dec (p := ¬ (v13 = true)) rfl (fun hc16 => ?_) (fun hc16 => ?_)
   ·
    replace hm := And.left hm hc16
    refine CW.sr <| RW.st (Ex.assign (.int .i64 24) rfl) rfl <| RW.nil <| CW.ret ?_
    refine bqr (tqr ?_)
    refine end_tmp (.inl rfl) rfl (.int .i64 24) rfl ?_
    exact ⟨_, _, (hM.pick [] rfl rfl), 24, hm, rfl, rfl⟩
   ·
    replace hm := And.right hm hc16
    refine CW.skip <| CW.seq <| CW.sr <| RW.st (Ex.fieldAddr fa45_3 rfl) rfl <| RW.st (Ex.load1 hM 0 to40 rfl rfl rfl) rfl ?_
    refine RW.callP hM (cycle_positions_lift x0.Positions 0 (hF1.mono (hle7.trans hle15)) hm) en104 rfl rfl rfl rfl ?_; rintro _ w H18 _ hle19 ⟨v17, hm, rfl, rfl⟩ hM
    refine RW.st (Ex.assign (.int .i64 v17) rfl) rfl <| RW.nil <| CW.sr <| RW.st (Ex.move (.int .i64 v17) rfl) rfl <| RW.st (Ex.neq rfl rfl) rfl <| RW.nil ?_
    refine CW.cond_dec (p := v17 ≠ 0) rfl (fun hc20 => ?_) (fun hc20 => ?_)
    ·
     replace hm := And.left hm hc20
     refine CW.sr <| RW.st (Ex.move (.int .i64 v17) rfl) rfl <| RW.st (Ex.assign (.int .i64 v17) rfl) rfl <| RW.nil <| CW.ret ?_
     refine tqr ?_
     refine end_tmp (.inl rfl) rfl (.int .i64 v17) rfl ?_
     exact ⟨_, _, (hM.pick [] rfl rfl), v17, hm, rfl, rfl⟩
    ·
     replace hm := And.right hm hc20
     refine CW.skip <| CW.sr <| RW.st (Ex.fieldAddr fa45_4 rfl) rfl <| RW.st (Ex.load1 hM 0 to43 rfl rfl rfl) rfl <| RW.st (Ex.move (.slice A3 n3 c3) rfl) rfl ?_
     refine RW.callP hM (coalesce_Check_lift x0.Writes x1 (hF2.mono ((hle7.trans hle15).trans hle19)) (hF3.mono ((hle7.trans hle15).trans hle19)) hm) en105 rfl rfl rfl rfl ?_; rintro _ w H22 _ hle23 ⟨v21, hm, rfl, rfl⟩ hM
     refine RW.st (Ex.assign (.int .i64 v21) rfl) rfl <| RW.nil <| CW.ret ?_
     refine end_tmp (.inl rfl) rfl (.int .i64 v21) rfl ?_
     exact ⟨_, _, (hM.pick [] rfl rfl), v21, hm, rfl, rfl⟩
theorem reverse_Cycle_lift {H : Hp} (hT : TabH H 0) (x0 : api_Point) (x1 : api_Point) (x2 : Int) (x3 : Int) (x4 : List Int) {A1 : Option Addr} {n1 c1 : Nat} {s1 : List Value} (hF1 : Fz (α := api_Span) H A1 n1 c1 x0.Lineage s1) {A2 : Option Addr} {n2 c2 : Nat} {s2 : List Value} (hF2 : Fz (α := api_Bitmap) H A2 n2 c2 x0.Dirty s2) {A3 : Option Addr} {n3 c3 : Nat} {s3 : List Value} (hF3 : Fz (α := List Sec) H A3 n3 c3 x0.Image s3) {A4 : Option Addr} {n4 c4 : Nat} {s4 : List Value} (hF4 : Fz (α := api_Span) H A4 n4 c4 x1.Lineage s4) {A5 : Option Addr} {n5 c5 : Nat} {s5 : List Value} (hF5 : Fz (α := api_Bitmap) H A5 n5 c5 x1.Dirty s5) {A6 : Option Addr} {n6 c6 : Nat} {s6 : List Value} (hF6 : Fz (α := List Sec) H A6 n6 c6 x1.Image s6) {A7 : Option Addr} {n7 c7 : Nat} {s7 : List Value} (hF7 : Fz (α := Int) H A7 n7 c7 x4 s7) {Φ : api_Cycle × Int → Prop} (hm : reverse_Cycle_W x0 x1 x2 x3 x4 Φ) : RetP Tryd.prog 17 #[.agg #[.int .i64 x0.Site, .slice A1 n1 c1, .slice A2 n2 c2, .slice A3 n3 c3], .agg #[.int .i64 x1.Site, .slice A4 n4 c4, .slice A5 n5 c5, .slice A6 n6 c6], .int .i64 x2, .int .i64 x3, .slice A7 n7 c7] H (fun H' v L => ∃ y, Φ y ∧ ∃ A190, ∃ n190, ∃ c190, ∃ s190, ∃ A191, ∃ n191, ∃ c191, ∃ s191, v = .tuple #[.agg #[.int .i64 (y.1.Base), .int .i64 (y.1.Number), .int .i64 (y.1.Time), .slice A190 n190 c190, .slice A191 n191 c191], .int .i64 (y.2)] ∧ DtL (α := Int) H' s190 y.1.Positions ∧ n190 = y.1.Positions.length ∧ DtL (α := api_Write) H' s191 y.1.Writes ∧ n191 = y.1.Writes.length ∧ L = [.row (.slice A190 n190 c190) 3 1 n190 s190, .row (.slice A191 n191 c191) 100 3 n191 s191]) := by
 refine RetP.of_code Tryd.func17 rfl (nb rfl) fun w0 hM => ?_
 refine CW.sr ?_
 refine RW.box hM (.agg #[.int .i64 x0.Site, .slice A1 n1 c1, .slice A2 n2 c2, .slice A3 n3 c3]) [.int .i64 x0.Site, .slice A1 n1 c1, .slice A2 n2 c2, .slice A3 n3 c3] rfl rfl rfl rfl ?_; intro b8 w hM
 refine RW.box hM (.agg #[.int .i64 x1.Site, .slice A4 n4 c4, .slice A5 n5 c5, .slice A6 n6 c6]) [.int .i64 x1.Site, .slice A4 n4 c4, .slice A5 n5 c5, .slice A6 n6 c6] rfl rfl rfl rfl ?_; intro b9 w hM
 refine RW.alloc hM tz45 [.int .i64 0, .int .i64 0, .int .i64 0, .slice none 0 0, .slice none 0 0] rfl rfl rfl ?_; intro b10 w hM
 refine RW.st (Ex.assign (.int .i64 0) rfl) rfl <| RW.nil <| CW.sr <| RW.st (Ex.loadA hM 2 [.int .i64 x0.Site, .slice A1 n1 c1, .slice A2 n2 c2, .slice A3 n3 c3] ta27 rfl rfl rfl rfl) rfl <| RW.st (Ex.loadA hM 1 [.int .i64 x1.Site, .slice A4 n4 c4, .slice A5 n5 c5, .slice A6 n6 c6] ta27 rfl rfl rfl rfl) rfl ?_
 refine RW.callP hM (delta_Between_lift hT x0 x1 hF1 hF2 hF3 hF4 hF5 hF6 hm) en47 rfl rfl rfl rfl ?_; rintro _ w H12 _ hle13 ⟨v11, hm, A14, n14, c14, s14, rfl, hd15, hn16, rfl⟩ hM
 refine RW.st (Ex.move (.tuple #[.slice A14 n14 c14, .int .i64 v11.2]) rfl) rfl <| RW.st (Ex.extract rfl rfl) rfl <| RW.st (Ex.extract rfl rfl) rfl <| RW.st (Ex.assign (.slice A14 n14 c14) rfl) rfl <| RW.st (Ex.assign (.int .i64 v11.2) rfl) rfl <| RW.nil <| CW.seq <| CW.sr <| RW.st (Ex.move (.int .i64 v11.2) rfl) rfl <| RW.st (Ex.neq rfl rfl) rfl <| RW.nil ?_
 refine CW.cond_dec (p := v11.2 ≠ 0) rfl (fun hc17 => ?_) (fun hc17 => ?_)
 ·
  replace hm := And.left hm hc17
  refine CW.sr <| RW.st (Ex.build bs45 [] [.int .i64 0, .int .i64 0, .int .i64 0, .slice none 0 0, .slice none 0 0] rfl rfl) rfl <| RW.st (Ex.move (.int .i64 v11.2) rfl) rfl ?_
  refine RW.store hM 1 (.agg #[.int .i64 0, .int .i64 0, .int .i64 0, .slice none 0 0, .slice none 0 0]) [.int .i64 0, .int .i64 0, .int .i64 0, .slice none 0 0, .slice none 0 0] [.int .i64 0, .int .i64 0, .int .i64 0, .slice none 0 0, .slice none 0 0] sz45 rfl rfl rfl (oneAll ⟨rfl, rfl, rfl, rfl, rfl, trivial⟩) rfl (nb rfl) rfl [.row (.slice A14 n14 c14) 68 1 n14 s14, .box b10 45 [.int .i64 0, .int .i64 0, .int .i64 0, .slice none 0 0, .slice none 0 0], .box b9 27 [.int .i64 x1.Site, .slice A4 n4 c4, .slice A5 n5 c5, .slice A6 n6 c6], .box b8 27 [.int .i64 x0.Site, .slice A1 n1 c1, .slice A2 n2 c2, .slice A3 n3 c3]] rfl rfl rfl ?_; intro w hM
  refine RW.st (Ex.assign (.int .i64 v11.2) rfl) rfl <| RW.nil <| CW.ret ?_
  refine tqr ?_
  refine ect (k := 1) (.inl rfl) rfl hM rfl (.int .i64 v11.2) rfl ta45 [.int .i64 0, .int .i64 0, .int .i64 0, .slice none 0 0, .slice none 0 0] rfl rfl ?_
  replace hM := hM.nilRow 3 1
  replace hM := hM.nilRow 100 3
  exact ⟨_, _, (hM.pick [1, 0] rfl rfl), ((api_Cycle.mk 0 0 0 ([] : List Int) ([] : List api_Write)), v11.2), hm, none, 0, 0, [], none, 0, 0, [], rfl, (DtL.nil : DtL _ [] ([] : List Int)), rfl, (DtL.nil : DtL _ [] ([] : List api_Write)), rfl, rfl⟩
 ·
  replace hm := And.right hm hc17
  refine CW.skip <| CW.sr <| RW.st (Ex.fieldAddr fa27_1 rfl) rfl <| RW.st (Ex.load1 hM 3 to22 rfl rfl rfl) rfl <| RW.st (Ex.fieldAddr fa27_1 rfl) rfl <| RW.st (Ex.load1 hM 2 to22 rfl rfl rfl) rfl ?_
  refine RW.callP hM (delta_Ancestor_lift x0.Lineage x1.Lineage (hF1.mono hle13) (hF4.mono hle13) hm) en50 rfl rfl rfl rfl ?_; rintro _ w H19 _ hle20 ⟨v18, hm, rfl, rfl⟩ hM
  refine RW.st (Ex.move (.tuple #[.int .i64 v18.1, .int .i64 v18.2]) rfl) rfl <| RW.st (Ex.extract rfl rfl) rfl <| RW.st (Ex.extract rfl rfl) rfl <| RW.st (Ex.assign (.int .i64 v18.1) rfl) rfl <| RW.st (Ex.assign (.int .i64 v18.2) rfl) rfl <| RW.nil ?_
  refine CW.cut (fun D σ w => D = [] ∧ ∃ Hk21, H19.le Hk21 ∧ (∃ τ, σ = sl [(2, .int .i64 x2), (3, .int .i64 x3), (4, .slice A7 n7 c7), (6, .pointer (some ⟨b9, 0, none⟩)), (10, .pointer (some ⟨b10, 0, none⟩)), (12, .slice A14 n14 c14), (14, .int .i64 v18.1)] τ) ∧ Mem w0 H w Hk21 [.box b9 27 [.int .i64 x1.Site, .slice A4 n4 c4, .slice A5 n5 c5, .slice A6 n6 c6], .box b10 45 [.int .i64 0, .int .i64 0, .int .i64 0, .slice none 0 0, .slice none 0 0], .row (.slice A14 n14 c14) 68 1 n14 s14] ∧ reverse_Cycle_J1 x1 x2 x3 x4 v11 v18 Φ) ?_ ?_
  ·
   refine CW.sr <| RW.st (Ex.move (.int .i64 x2) rfl) rfl <| RW.st (Ex.move (.int .i64 v18.1) rfl) rfl <| RW.st (Ex.leq rfl rfl) rfl <| RW.st (Ex.move (.bool (decide (x2 ≤ v18.1))) rfl) rfl ?_
   refine RW.split 44 (p := x2 ≤ v18.1) rfl (fun hc185 => ?_) (fun hc185 => ?_)
   ·
    replace hm := And.left hm hc185
    refine RW.pp <| RW.pp <| RW.pass rfl rfl <| RW.st (Ex.pickT (.bool true) rfl rfl) rfl <| RW.nil <| CW.cond_true rfl <| CW.sr <| RW.st (Ex.build bs45 [] [.int .i64 0, .int .i64 0, .int .i64 0, .slice none 0 0, .slice none 0 0] rfl rfl) rfl ?_
    refine RW.store hM 1 (.agg #[.int .i64 0, .int .i64 0, .int .i64 0, .slice none 0 0, .slice none 0 0]) [.int .i64 0, .int .i64 0, .int .i64 0, .slice none 0 0, .slice none 0 0] [.int .i64 0, .int .i64 0, .int .i64 0, .slice none 0 0, .slice none 0 0] sz45 rfl rfl rfl (oneAll ⟨rfl, rfl, rfl, rfl, rfl, trivial⟩) rfl (nb rfl) rfl [.row (.slice A14 n14 c14) 68 1 n14 s14, .box b10 45 [.int .i64 0, .int .i64 0, .int .i64 0, .slice none 0 0, .slice none 0 0], .box b9 27 [.int .i64 x1.Site, .slice A4 n4 c4, .slice A5 n5 c5, .slice A6 n6 c6], .box b8 27 [.int .i64 x0.Site, .slice A1 n1 c1, .slice A2 n2 c2, .slice A3 n3 c3]] rfl rfl rfl ?_; intro w hM
    refine RW.st (Ex.assign (.int .i64 2) rfl) rfl <| RW.nil <| CW.ret ?_
    refine tqr ?_
    refine ect (k := 1) (.inl rfl) rfl hM rfl (.int .i64 2) rfl ta45 [.int .i64 0, .int .i64 0, .int .i64 0, .slice none 0 0, .slice none 0 0] rfl rfl ?_
    replace hM := hM.nilRow 3 1
    replace hM := hM.nilRow 100 3
    exact ⟨_, _, (hM.pick [1, 0] rfl rfl), ((api_Cycle.mk 0 0 0 ([] : List Int) ([] : List api_Write)), 2), hm, none, 0, 0, [], none, 0, 0, [], rfl, (DtL.nil : DtL _ [] ([] : List Int)), rfl, (DtL.nil : DtL _ [] ([] : List api_Write)), rfl, rfl⟩
   ·
    replace hm := And.right hm hc185
    refine RW.st (Ex.move (.int .i64 x2) rfl) rfl <| RW.st (Ex.fieldAddr fa27_1 rfl) rfl <| RW.st (Ex.load1 hM 2 to22 rfl rfl rfl) rfl ?_
    refine RW.callP hM (reverse_last_lift x1.Lineage (hF4.mono (hle13.trans hle20)) hm) en41 rfl rfl rfl rfl ?_; rintro _ w H187 _ hle188 ⟨v186, hm, rfl, rfl⟩ hM
    refine RW.st (Ex.lss rfl rfl) rfl <| RW.st (Ex.pickF (.bool (decide (x2 < v186))) rfl rfl) rfl <| RW.nil ?_
    refine CW.cond_dec (p := x2 < v186) rfl (fun hc189 => ?_) (fun hc189 => ?_)
    ·
     replace hm := And.left hm hc189
     refine CW.sr <| RW.st (Ex.build bs45 [] [.int .i64 0, .int .i64 0, .int .i64 0, .slice none 0 0, .slice none 0 0] rfl rfl) rfl ?_
     refine RW.store hM 1 (.agg #[.int .i64 0, .int .i64 0, .int .i64 0, .slice none 0 0, .slice none 0 0]) [.int .i64 0, .int .i64 0, .int .i64 0, .slice none 0 0, .slice none 0 0] [.int .i64 0, .int .i64 0, .int .i64 0, .slice none 0 0, .slice none 0 0] sz45 rfl rfl rfl (oneAll ⟨rfl, rfl, rfl, rfl, rfl, trivial⟩) rfl (nb rfl) rfl [.row (.slice A14 n14 c14) 68 1 n14 s14, .box b10 45 [.int .i64 0, .int .i64 0, .int .i64 0, .slice none 0 0, .slice none 0 0], .box b9 27 [.int .i64 x1.Site, .slice A4 n4 c4, .slice A5 n5 c5, .slice A6 n6 c6], .box b8 27 [.int .i64 x0.Site, .slice A1 n1 c1, .slice A2 n2 c2, .slice A3 n3 c3]] rfl rfl rfl ?_; intro w hM
     refine RW.st (Ex.assign (.int .i64 2) rfl) rfl <| RW.nil <| CW.ret ?_
     refine tqr ?_
     refine ect (k := 1) (.inl rfl) rfl hM rfl (.int .i64 2) rfl ta45 [.int .i64 0, .int .i64 0, .int .i64 0, .slice none 0 0, .slice none 0 0] rfl rfl ?_
     replace hM := hM.nilRow 3 1
     replace hM := hM.nilRow 100 3
     exact ⟨_, _, (hM.pick [1, 0] rfl rfl), ((api_Cycle.mk 0 0 0 ([] : List Int) ([] : List api_Write)), 2), hm, none, 0, 0, [], none, 0, 0, [], rfl, (DtL.nil : DtL _ [] ([] : List Int)), rfl, (DtL.nil : DtL _ [] ([] : List api_Write)), rfl, rfl⟩
    ·
     replace hm := And.right hm hc189
     refine CW.skip ?_
     exact And.intro rfl ⟨H187, hle188, slc ⟨rfl, rfl, rfl, rfl, rfl, rfl, rfl, trivial⟩, (hM.pick [2, 1, 0] rfl rfl), hm⟩
  rintro _ _ w ⟨rfl, Hk21, hle22, ⟨τ, rfl⟩, hM, hm⟩
  refine CW.sr <| RW.st (Ex.move (.int .i64 v18.1) rfl) rfl <| RW.st (Ex.move (.int .i64 x2) rfl) rfl <| RW.st (Ex.move (.int .i64 x3) rfl) rfl <| RW.st (Ex.move (.slice A7 n7 c7) rfl) rfl ?_
  refine RW.callP hM (slices_Clone_int_int_lift x4 (hF7.mono ((hle13.trans hle20).trans hle22)) hm) en51 rfl rfl rfl rfl ?_; rintro _ w H24 _ hle25 ⟨v23, hm, A26, n26, c26, s26, rfl, hd27, hn28, rfl⟩ hM
  refine RW.st (Ex.build bs45 [(0, .int .i64 v18.1), (1, .int .i64 x2), (2, .int .i64 x3), (3, .slice A26 n26 c26)] [.int .i64 v18.1, .int .i64 x2, .int .i64 x3, .slice A26 n26 c26, .slice none 0 0] rfl rfl) rfl ?_
  refine RW.alloc hM tz45 [.int .i64 0, .int .i64 0, .int .i64 0, .slice none 0 0, .slice none 0 0] rfl rfl rfl ?_; intro b29 w hM
  refine RW.store hM 0 (.agg #[.int .i64 v18.1, .int .i64 x2, .int .i64 x3, .slice A26 n26 c26, .slice none 0 0]) [.int .i64 v18.1, .int .i64 x2, .int .i64 x3, .slice A26 n26 c26, .slice none 0 0] [.int .i64 v18.1, .int .i64 x2, .int .i64 x3, .slice A26 n26 c26, .slice none 0 0] sz45 rfl rfl rfl (oneAll ⟨rfl, rfl, rfl, rfl, rfl, trivial⟩) rfl (nb rfl) rfl [.box b29 45 [.int .i64 v18.1, .int .i64 x2, .int .i64 x3, .slice A26 n26 c26, .slice none 0 0], .row (.slice A26 n26 c26) 3 1 n26 s26, .box b9 27 [.int .i64 x1.Site, .slice A4 n4 c4, .slice A5 n5 c5, .slice A6 n6 c6], .box b10 45 [.int .i64 0, .int .i64 0, .int .i64 0, .slice none 0 0, .slice none 0 0], .row (.slice A14 n14 c14) 68 1 n14 s14] rfl rfl rfl ?_; intro w hM
  refine RW.nil <| CW.sr <| RW.st (Ex.assign (.slice none 0 0) rfl) rfl <| RW.nil <| CW.seq <| CW.sr <| RW.st (Ex.fieldAddr fa27_3 rfl) rfl <| RW.st (Ex.load1 hM 2 to25 rfl rfl rfl) rfl <| RW.st (Ex.lenN st25.1 rfl hF6.hn) rfl <| RW.st (Ex.move (.int .i64 0) rfl) rfl <| RW.nil <| CW.block ?_
  obtain ⟨m180, hm⟩ := hm
  skip
  replace hM := hM.nilRow 100 3
  replace hM := hM.nilRow 3 1
  refine CW.loop (β := Nat) (fun n σ w => ∃ (v32 : List api_Write), ∃ (A33 : Option Addr), ∃ (n34 : Nat), ∃ (c35 : Nat), ∃ (s36 : List Value), ∃ (v39 : List Int), ∃ (A40 : Option Addr), ∃ (n41 : Nat), ∃ (c42 : Nat), ∃ (s43 : List Value), ∃ (v46 : Int), ∃ Hk30, H24.le Hk30 ∧ (∃ τ, σ = sl [(10, .pointer (some ⟨b10, 0, none⟩)), (12, .slice A14 n14 c14), (16, .pointer (some ⟨b29, 0, none⟩)), (17, .slice A40 n41 c42), (59, .slice A6 n6 c6), (60, .int .i64 ((x1.Image.length : Int))), (61, .int .i64 v46)] τ) ∧ Mem w0 H w Hk30 [.box b10 45 [.int .i64 0, .int .i64 0, .int .i64 0, .slice none 0 0, .slice none 0 0], .box b29 45 [.int .i64 v18.1, .int .i64 x2, .int .i64 x3, .slice A26 n26 c26, .slice A33 n34 c35], .row (.slice A14 n14 c14) 68 1 n14 s14, .row (.slice A26 n26 c26) 3 1 n26 s26, .row (.slice A33 n34 c35) 100 3 n34 s36, .row (.slice A40 n41 c42) 3 1 n41 s43] ∧ (DtL (α := api_Write) Hk30 s36 v32) ∧ (n34 = v32.length) ∧ (DtL (α := Int) Hk30 s43 v39) ∧ (n41 = v39.length) ∧ LoopN (reverse_Cycle_L2 x1 x2 x3 v11 v18 v23 Φ) n (v32, v39, v46)) (fun n => n) m180 ⟨([] : List api_Write), none, 0, 0, [], ([] : List Int), none, 0, 0, [], 0, H24, (Hp.le.refl _), slc ⟨rfl, rfl, rfl, rfl, rfl, rfl, rfl, trivial⟩, (hM.pick [5, 2, 6, 3, 1, 0] rfl rfl), (DtL.nil : DtL _ [] ([] : List api_Write)), rfl, (DtL.nil : DtL _ [] ([] : List Int)), rfl, hm⟩ ?_
  rintro k47 _ w ⟨v32, A33, n34, c35, s36, v39, A40, n41, c42, s43, v46, Hk30, hle31, ⟨τ, rfl⟩, hM, hd37, hn38, hd44, hn45, hm⟩
  obtain _ | k47 := k47
  · exact hm.elim
  replace hm : (reverse_Cycle_L2 x1 x2 x3 v11 v18 v23 Φ) (v32, v39, v46) (LoopN (reverse_Cycle_L2 x1 x2 x3 v11 v18 v23 Φ) k47) := hm
  generalize hrec48 : LoopN (reverse_Cycle_L2 x1 x2 x3 v11 v18 v23 Φ) k47 = rec2 at hm
  refine CW.sr <| RW.st (Ex.lss rfl rfl) rfl <| RW.nil <| CW.seq ?_
  refine CW.cond_dec (p := v46 < (x1.Image.length : Int)) rfl (fun hc49 => ?_) (fun hc49 => ?_)
  ·
   replace hm := And.left hm hc49
   refine CW.skip <| CW.seq <| CW.block <| CW.sr <| RW.st (Ex.move (.int .i64 v46) rfl) rfl ?_
   obtain ⟨hg50, hm⟩ := hm
   refine RW.st (Ex.index st25 rfl rfl v46.toNat (hF6.ne hg50) hg50.nat (hF6.lt hg50)) rfl ?_
   obtain ⟨_, ⟨A51, n51, c51, s51, rfl, hF51⟩, hx52⟩ := DtL.getI (α := List Sec) (hF6.mono ((((hle13.trans hle20).trans hle22).trans hle25).trans hle31)).dat hg50
   refine RW.st (Ex.loadE hM ((((hle13.trans hle20).trans hle22).trans hle25).trans hle31) hF6.rdc to61 rfl (hx52 0 _ rfl)) rfl <| RW.st (Ex.assign (.int .i64 v46) rfl) rfl <| RW.st (Ex.assign (.slice A51 n51 c51) rfl) rfl <| RW.nil <| CW.sr <| RW.st (Ex.move (.slice A40 n41 c42) rfl) rfl <| RW.st (Ex.move (.slice A51 n51 c51) rfl) rfl <| RW.st (Ex.lenN st61.1 rfl hF51.hn) rfl ?_
   refine RW.buildSlice hM st40 tz3 [(0, .int .i64 (((ix x1.Image v46).length : Int)))] [.int .i64 (((ix x1.Image v46).length : Int))] (by decide) rfl rfl rfl (by decide) rfl rfl ?_; intro b53 w hM
   have hd54 : DtL Hk30 [.int .i64 (((ix x1.Image v46).length : Int))] ([((ix x1.Image v46).length : Int)] : List Int) := (DtL.cons (c1 := [.int .i64 (((ix x1.Image v46).length : Int))]) rfl DtL.nil)
   obtain ⟨hg61, hm⟩ := hm
   refine RW.appendD (α := Int) (xs := v39) (ys := ([((ix x1.Image v46).length : Int)] : List Int)) hM 6 st40 rfl rfl hd44 hn45 rfl (fun j u hj => hM.rowCell (k := 0) rfl rfl hj) hd54 rfl hg61 rfl rfl ?_; intro A55 n56 c57 s58 w hd59 hn60 hM
   refine RW.st (Ex.assign (.slice A55 n56 c57) rfl) rfl <| RW.nil <| CW.sr <| RW.st (Ex.move (.slice A14 n14 c14) rfl) rfl <| RW.st (Ex.move (.int .i64 v46) rfl) rfl ?_
   obtain ⟨hg62, hm⟩ := hm
   refine RW.st (Ex.index st30 rfl rfl v46.toNat (hM.rowNeD (α := List api_Extent) (p := 3) rfl hn16 hg62) hg62.nat (Nat.lt_of_lt_of_eq hg62.lt (hn16).symm)) rfl ?_
   obtain ⟨_, ⟨A63, n63, c63, s63, rfl, hF63⟩, hx64⟩ := DtL.getI (α := List api_Extent) (hd15.mono (((hle20.trans hle22).trans hle25).trans hle31)) hg62
   refine RW.st (Ex.loadR hM 3 rfl to68 (hM.rowNeD (α := List api_Extent) (p := 3) rfl hn16 hg62) rfl (hx64 0 _ rfl)) rfl <| RW.st (Ex.lenN st68.1 rfl hF63.hn) rfl <| RW.st (Ex.move (.int .i64 0) rfl) rfl <| RW.nil <| CW.block ?_
   obtain ⟨m166, hm⟩ := hm
   skip
   refine CW.loop (β := Nat) (fun n σ w => ∃ (v67 : List api_Write), ∃ (A68 : Option Addr), ∃ (n69 : Nat), ∃ (c70 : Nat), ∃ (s71 : List Value), ∃ (v74 : Int), ∃ Hk65, Hk30.le Hk65 ∧ (∃ τ, σ = sl [(10, .pointer (some ⟨b10, 0, none⟩)), (12, .slice A14 n14 c14), (16, .pointer (some ⟨b29, 0, none⟩)), (17, .slice A55 n56 c57), (18, .int .i64 v46), (19, .slice A51 n51 c51), (59, .slice A6 n6 c6), (60, .int .i64 ((x1.Image.length : Int))), (61, .int .i64 v46), (74, .slice A63 n63 c63), (75, .int .i64 (((ix v11.1 v46).length : Int))), (76, .int .i64 v74)] τ) ∧ Mem w0 H w Hk65 [.box b10 45 [.int .i64 0, .int .i64 0, .int .i64 0, .slice none 0 0, .slice none 0 0], .box b29 45 [.int .i64 v18.1, .int .i64 x2, .int .i64 x3, .slice A26 n26 c26, .slice A68 n69 c70], .row (.slice A14 n14 c14) 68 1 n14 s14, .row (.slice A26 n26 c26) 3 1 n26 s26, .row (.slice A68 n69 c70) 100 3 n69 s71, .row (.slice A55 n56 c57) 3 1 n56 s58] ∧ (DtL (α := api_Write) Hk65 s71 v67) ∧ (n69 = v67.length) ∧ LoopN (reverse_Cycle_L3 x1 v11 v39 v46 rec2 Φ) n (v67, v74)) (fun n => n) m166 ⟨v32, A33, n34, c35, s36, 0, Hk30, (Hp.le.refl _), slc ⟨rfl, rfl, rfl, rfl, rfl, rfl, rfl, rfl, rfl, rfl, rfl, rfl, trivial⟩, (hM.pick [1, 2, 3, 4, 5, 6] rfl rfl), hd37, hn38, hm⟩ ?_
   rintro k75 _ w ⟨v67, A68, n69, c70, s71, v74, Hk65, hle66, ⟨τ, rfl⟩, hM, hd72, hn73, hm⟩
   obtain _ | k75 := k75
   · exact hm.elim
   replace hm : (reverse_Cycle_L3 x1 v11 v39 v46 rec2 Φ) (v67, v74) (LoopN (reverse_Cycle_L3 x1 v11 v39 v46 rec2 Φ) k75) := hm
   generalize hrec76 : LoopN (reverse_Cycle_L3 x1 v11 v39 v46 rec2 Φ) k75 = rec3 at hm
   refine CW.sr <| RW.st (Ex.lss rfl rfl) rfl <| RW.nil <| CW.seq ?_
   refine CW.cond_dec (p := v74 < ((ix v11.1 v46).length : Int)) rfl (fun hc77 => ?_) (fun hc77 => ?_)
   ·
    replace hm := And.left hm hc77
    refine CW.skip <| CW.seq <| CW.block <| CW.sr ?_
    obtain ⟨hg78, hm⟩ := hm
    refine RW.st (Ex.index st68 rfl rfl v74.toNat (hF63.ne hg78) hg78.nat (hF63.lt hg78)) rfl ?_
    obtain ⟨_, rfl, hx79⟩ := DtL.getI (α := api_Extent) (hF63.mono hle66).dat hg78
    refine RW.st (Ex.loadEA hM hle66 hF63.rdc [.int .i64 ((ix (ix v11.1 v46) v74).Start), .int .i64 ((ix (ix v11.1 v46) v74).Count)] ta103 rfl (hF63.ne hg78) rfl (chunk_sub (off := 0) (n := 2) hx79 rfl)) rfl ?_
    refine RW.alloc hM tz103 [.int .i64 0, .int .i64 0] rfl rfl rfl ?_; intro b80 w hM
    refine RW.store hM 0 (.agg #[.int .i64 ((ix (ix v11.1 v46) v74).Start), .int .i64 ((ix (ix v11.1 v46) v74).Count)]) [.int .i64 ((ix (ix v11.1 v46) v74).Start), .int .i64 ((ix (ix v11.1 v46) v74).Count)] [.int .i64 ((ix (ix v11.1 v46) v74).Start), .int .i64 ((ix (ix v11.1 v46) v74).Count)] sz103 rfl rfl rfl (oneAll ⟨rfl, rfl, trivial⟩) rfl (nb rfl) rfl [.box b80 103 [.int .i64 ((ix (ix v11.1 v46) v74).Start), .int .i64 ((ix (ix v11.1 v46) v74).Count)], .box b10 45 [.int .i64 0, .int .i64 0, .int .i64 0, .slice none 0 0, .slice none 0 0], .box b29 45 [.int .i64 v18.1, .int .i64 x2, .int .i64 x3, .slice A26 n26 c26, .slice A68 n69 c70], .row (.slice A14 n14 c14) 68 1 n14 s14, .row (.slice A26 n26 c26) 3 1 n26 s26, .row (.slice A68 n69 c70) 100 3 n69 s71, .row (.slice A55 n56 c57) 3 1 n56 s58] rfl rfl rfl ?_; intro w hM
    refine RW.nil ?_
    obtain ⟨hg81, hm⟩ := hm
    obtain ⟨hg96, hm⟩ := hm
    obtain ⟨v102, hW103, hm⟩ := hm
    refine CW.drawL 17 [] [(fun Hq us E => us = [.pointer (some ⟨b29, 4, none⟩)] ∧ E = [] ∧ True), (fun Hq us E => us = [.slice A68 n69 c70] ∧ E = [] ∧ True), (fun Hq us E => us = [.int .i64 v46] ∧ E = [] ∧ True), (fun Hq us E => us = [.pointer (some ⟨b80, 0, none⟩)] ∧ E = [] ∧ True), (fun Hq us E => us = [.int .i64 ((ix (ix v11.1 v46) v74).Start)] ∧ E = [] ∧ True), (fun Hq us E => us = [.slice A51 n51 c51] ∧ E = [] ∧ True), (fun Hq us E => us = [.pointer (some ⟨b80, 0, none⟩)] ∧ E = [] ∧ True), (fun Hq us E => us = [.int .i64 ((ix (ix v11.1 v46) v74).Start)] ∧ E = [] ∧ True), (fun Hq us E => us = [.pointer (some ⟨b80, 0, none⟩)] ∧ E = [] ∧ True), (fun Hq us E => us = [.int .i64 ((ix (ix v11.1 v46) v74).Start)] ∧ E = [] ∧ True), (fun Hq us E => us = [.pointer (some ⟨b80, 1, none⟩)] ∧ E = [] ∧ True), (fun Hq us E => us = [.int .i64 ((ix (ix v11.1 v46) v74).Count)] ∧ E = [] ∧ True), (fun Hq us E => us = [.int .i64 (((ix (ix v11.1 v46) v74).Start) + ((ix (ix v11.1 v46) v74).Count))] ∧ E = [] ∧ True), (fun Hq us E => ∃ (A97 : Option Addr), ∃ (n98 : Nat), ∃ (c99 : Nat), ∃ (s100 : List Value), us = [.slice A97 n98 c99] ∧ E = [] ∧ Fz (α := Sec) Hq A97 n98 c99 (sub (ix x1.Image v46) ((ix (ix v11.1 v46) v74).Start) (((ix (ix v11.1 v46) v74).Start) + ((ix (ix v11.1 v46) v74).Count))) s100 ∧ True), (fun Hq us E => ∃ (A104 : Option Addr), ∃ (n104 : Nat), ∃ (c104 : Nat), ∃ (s104 : List Value), us = [.slice A104 n104 c104] ∧ E = [] ∧ Fz (α := Sec) Hq A104 n104 c104 v102 s104 ∧ True), (fun Hq us E => ∃ (A104 : Option Addr), ∃ (n104 : Nat), ∃ (c104 : Nat), ∃ (s104 : List Value), us = [.slice A104 n104 c104, .agg #[.int .i64 v46, .int .i64 ((ix (ix v11.1 v46) v74).Start), .slice A104 n104 c104]] ∧ E = [] ∧ Fz (α := Sec) Hq A104 n104 c104 v102 s104 ∧ True), (fun Hq us E => ∃ (A104 : Option Addr), ∃ (n104 : Nat), ∃ (c104 : Nat), ∃ (b108 : Nat), us = [.slice (some ⟨b108, 0, none⟩) 1 1] ∧ E = [] ∧ Fz Hq (some ⟨b108, 0, none⟩) 1 1 ([(api_Write.mk v46 ((ix (ix v11.1 v46) v74).Start) v102)] : List api_Write) [.int .i64 v46, .int .i64 ((ix (ix v11.1 v46) v74).Start), .slice A104 n104 c104] ∧ True)]
     (fun k => [[0], [1], [2], [3], [4], [5], [6], [7], [8], [9], [10], [11], [12], [13], [14], [14, 15], [16]].getD k []) (fun _ => none) (by kernel_rfl) hM (by kernel_rfl) (by kernel_rfl) (by kernel_rfl) rfl (by simp only [List.forall_mem_cons]; exact ⟨fun _ _ _ _ hle ⟨e1, e2, _⟩ => ⟨e1, e2, trivial⟩, fun _ _ _ _ hle ⟨e1, e2, _⟩ => ⟨e1, e2, trivial⟩, fun _ _ _ _ hle ⟨e1, e2, _⟩ => ⟨e1, e2, trivial⟩, fun _ _ _ _ hle ⟨e1, e2, _⟩ => ⟨e1, e2, trivial⟩, fun _ _ _ _ hle ⟨e1, e2, _⟩ => ⟨e1, e2, trivial⟩, fun _ _ _ _ hle ⟨e1, e2, _⟩ => ⟨e1, e2, trivial⟩, fun _ _ _ _ hle ⟨e1, e2, _⟩ => ⟨e1, e2, trivial⟩, fun _ _ _ _ hle ⟨e1, e2, _⟩ => ⟨e1, e2, trivial⟩, fun _ _ _ _ hle ⟨e1, e2, _⟩ => ⟨e1, e2, trivial⟩, fun _ _ _ _ hle ⟨e1, e2, _⟩ => ⟨e1, e2, trivial⟩, fun _ _ _ _ hle ⟨e1, e2, _⟩ => ⟨e1, e2, trivial⟩, fun _ _ _ _ hle ⟨e1, e2, _⟩ => ⟨e1, e2, trivial⟩, fun _ _ _ _ hle ⟨e1, e2, _⟩ => ⟨e1, e2, trivial⟩, fun _ _ _ _ hle ⟨A97, n98, c99, s100, e1, e2, hF101, _⟩ => ⟨A97, n98, c99, s100, e1, e2, hF101.mono hle, trivial⟩, fun _ _ _ _ hle ⟨A104, n104, c104, s104, e1, e2, hF107, _⟩ => ⟨A104, n104, c104, s104, e1, e2, hF107.mono hle, trivial⟩, fun _ _ _ _ hle ⟨A104, n104, c104, s104, e1, e2, hF107, _⟩ => ⟨A104, n104, c104, s104, e1, e2, hF107.mono hle, trivial⟩, fun _ _ _ _ hle ⟨A104, n104, c104, b108, e1, e2, hF109, _⟩ => ⟨A104, n104, c104, b108, e1, e2, hF109.mono hle, trivial⟩, by simp⟩) ⟨?_, ?_, ?_, ?_, ?_, ?_, ?_, ?_, ?_, ?_, ?_, ?_, ?_, ?_, ?_, ?_, ?_, trivial⟩ ?_
    ·
     intro H' σ' w R E hle hMR hE0 hE hp hf
     obtain rfl := hE0 rfl
     obtain ⟨τ, rfl⟩ := slc (σ := σ') (l := [(16, .pointer (some ⟨b29, 0, none⟩))]) ⟨(hf 16 (by kernel_rfl)).trans rfl, trivial⟩
     have hM := Mem.subR (R := R) hMR
     exact RW.step (Ex.fieldAddr fa45_4 rfl) rfl rfl rfl (RW.nil ⟨rfl, rfl, _, rfl, H', [], Hp.le.refl _, hMR, rfl, rfl, trivial⟩)
    ·
     intro H' σ' w R E hle hMR hE0 hE hp hf
     obtain rfl := hE0 rfl
     obtain ⟨_, hg⟩ := hp 0 (by decide) (by kernel_rfl)
     obtain ⟨e110, _, _⟩ := hg.get rfl
     have e111 : σ' 80 = .pointer (some ⟨b29, 4, none⟩) := (List.cons.inj e110).1
     obtain ⟨τ, rfl⟩ := slc (σ := σ') (l := [(80, .pointer (some ⟨b29, 4, none⟩))]) ⟨e111, trivial⟩
     have hM := Mem.subR (R := R) hMR
     exact RW.step (Ex.load1 hM 2 to43 rfl rfl rfl) rfl rfl rfl (RW.nil ⟨rfl, rfl, _, rfl, H', [], Hp.le.refl _, hMR, rfl, rfl, trivial⟩)
    ·
     intro H' σ' w R E hle hMR hE0 hE hp hf
     obtain rfl := hE0 rfl
     obtain ⟨τ, rfl⟩ := slc (σ := σ') (l := [(18, .int .i64 v46)]) ⟨(hf 18 (by kernel_rfl)).trans rfl, trivial⟩
     have hM := Mem.subR (R := R) hMR
     exact RW.step (Ex.move (.int .i64 v46) rfl) rfl rfl rfl (RW.nil ⟨rfl, rfl, _, rfl, H', [], Hp.le.refl _, hMR, rfl, rfl, trivial⟩)
    ·
     intro H' σ' w R E hle hMR hE0 hE hp hf
     obtain rfl := hE0 rfl
     obtain ⟨τ, rfl⟩ := slc (σ := σ') (l := [(21, .pointer (some ⟨b80, 0, none⟩))]) ⟨(hf 21 (by kernel_rfl)).trans rfl, trivial⟩
     have hM := Mem.subR (R := R) hMR
     exact RW.step (Ex.fieldAddr fa103_0 rfl) rfl rfl rfl (RW.nil ⟨rfl, rfl, _, rfl, H', [], Hp.le.refl _, hMR, rfl, rfl, trivial⟩)
    ·
     intro H' σ' w R E hle hMR hE0 hE hp hf
     obtain rfl := hE0 rfl
     obtain ⟨_, hg⟩ := hp 3 (by decide) (by kernel_rfl)
     obtain ⟨e112, _, _⟩ := hg.get rfl
     have e113 : σ' 83 = .pointer (some ⟨b80, 0, none⟩) := (List.cons.inj e112).1
     obtain ⟨τ, rfl⟩ := slc (σ := σ') (l := [(83, .pointer (some ⟨b80, 0, none⟩))]) ⟨e113, trivial⟩
     have hM := Mem.subR (R := R) hMR
     exact RW.step (Ex.load1 hM 0 to3 rfl rfl rfl) rfl rfl rfl (RW.nil ⟨rfl, rfl, _, rfl, H', [], Hp.le.refl _, hMR, rfl, rfl, trivial⟩)
    ·
     intro H' σ' w R E hle hMR hE0 hE hp hf
     obtain rfl := hE0 rfl
     obtain ⟨τ, rfl⟩ := slc (σ := σ') (l := [(19, .slice A51 n51 c51)]) ⟨(hf 19 (by kernel_rfl)).trans rfl, trivial⟩
     have hM := Mem.subR (R := R) hMR
     exact RW.step (Ex.move (.slice A51 n51 c51) rfl) rfl rfl rfl (RW.nil ⟨rfl, rfl, _, rfl, H', [], Hp.le.refl _, hMR, rfl, rfl, trivial⟩)
    ·
     intro H' σ' w R E hle hMR hE0 hE hp hf
     obtain rfl := hE0 rfl
     obtain ⟨τ, rfl⟩ := slc (σ := σ') (l := [(21, .pointer (some ⟨b80, 0, none⟩))]) ⟨(hf 21 (by kernel_rfl)).trans rfl, trivial⟩
     have hM := Mem.subR (R := R) hMR
     exact RW.step (Ex.fieldAddr fa103_0 rfl) rfl rfl rfl (RW.nil ⟨rfl, rfl, _, rfl, H', [], Hp.le.refl _, hMR, rfl, rfl, trivial⟩)
    ·
     intro H' σ' w R E hle hMR hE0 hE hp hf
     obtain rfl := hE0 rfl
     obtain ⟨_, hg⟩ := hp 6 (by decide) (by kernel_rfl)
     obtain ⟨e114, _, _⟩ := hg.get rfl
     have e115 : σ' 86 = .pointer (some ⟨b80, 0, none⟩) := (List.cons.inj e114).1
     obtain ⟨τ, rfl⟩ := slc (σ := σ') (l := [(86, .pointer (some ⟨b80, 0, none⟩))]) ⟨e115, trivial⟩
     have hM := Mem.subR (R := R) hMR
     exact RW.step (Ex.load1 hM 0 to3 rfl rfl rfl) rfl rfl rfl (RW.nil ⟨rfl, rfl, _, rfl, H', [], Hp.le.refl _, hMR, rfl, rfl, trivial⟩)
    ·
     intro H' σ' w R E hle hMR hE0 hE hp hf
     obtain rfl := hE0 rfl
     obtain ⟨τ, rfl⟩ := slc (σ := σ') (l := [(21, .pointer (some ⟨b80, 0, none⟩))]) ⟨(hf 21 (by kernel_rfl)).trans rfl, trivial⟩
     have hM := Mem.subR (R := R) hMR
     exact RW.step (Ex.fieldAddr fa103_0 rfl) rfl rfl rfl (RW.nil ⟨rfl, rfl, _, rfl, H', [], Hp.le.refl _, hMR, rfl, rfl, trivial⟩)
    ·
     intro H' σ' w R E hle hMR hE0 hE hp hf
     obtain rfl := hE0 rfl
     obtain ⟨_, hg⟩ := hp 8 (by decide) (by kernel_rfl)
     obtain ⟨e116, _, _⟩ := hg.get rfl
     have e117 : σ' 88 = .pointer (some ⟨b80, 0, none⟩) := (List.cons.inj e116).1
     obtain ⟨τ, rfl⟩ := slc (σ := σ') (l := [(88, .pointer (some ⟨b80, 0, none⟩))]) ⟨e117, trivial⟩
     have hM := Mem.subR (R := R) hMR
     exact RW.step (Ex.load1 hM 0 to3 rfl rfl rfl) rfl rfl rfl (RW.nil ⟨rfl, rfl, _, rfl, H', [], Hp.le.refl _, hMR, rfl, rfl, trivial⟩)
    ·
     intro H' σ' w R E hle hMR hE0 hE hp hf
     obtain rfl := hE0 rfl
     obtain ⟨τ, rfl⟩ := slc (σ := σ') (l := [(21, .pointer (some ⟨b80, 0, none⟩))]) ⟨(hf 21 (by kernel_rfl)).trans rfl, trivial⟩
     have hM := Mem.subR (R := R) hMR
     exact RW.step (Ex.fieldAddr fa103_1 rfl) rfl rfl rfl (RW.nil ⟨rfl, rfl, _, rfl, H', [], Hp.le.refl _, hMR, rfl, rfl, trivial⟩)
    ·
     intro H' σ' w R E hle hMR hE0 hE hp hf
     obtain rfl := hE0 rfl
     obtain ⟨_, hg⟩ := hp 10 (by decide) (by kernel_rfl)
     obtain ⟨e118, _, _⟩ := hg.get rfl
     have e119 : σ' 90 = .pointer (some ⟨b80, 1, none⟩) := (List.cons.inj e118).1
     obtain ⟨τ, rfl⟩ := slc (σ := σ') (l := [(90, .pointer (some ⟨b80, 1, none⟩))]) ⟨e119, trivial⟩
     have hM := Mem.subR (R := R) hMR
     exact RW.step (Ex.load1 hM 0 to3 rfl rfl rfl) rfl rfl rfl (RW.nil ⟨rfl, rfl, _, rfl, H', [], Hp.le.refl _, hMR, rfl, rfl, trivial⟩)
    ·
     intro H' σ' w R E hle hMR hE0 hE hp hf
     obtain rfl := hE0 rfl
     obtain ⟨_, hg⟩ := hp 9 (by decide) (by kernel_rfl)
     obtain ⟨e120, _, _⟩ := hg.get rfl
     have e121 : σ' 89 = .int .i64 ((ix (ix v11.1 v46) v74).Start) := (List.cons.inj e120).1
     obtain ⟨_, hg⟩ := hp 11 (by decide) (by kernel_rfl)
     obtain ⟨e122, _, _⟩ := hg.get rfl
     have e123 : σ' 91 = .int .i64 ((ix (ix v11.1 v46) v74).Count) := (List.cons.inj e122).1
     obtain ⟨τ, rfl⟩ := slc (σ := σ') (l := [(89, .int .i64 ((ix (ix v11.1 v46) v74).Start)), (91, .int .i64 ((ix (ix v11.1 v46) v74).Count))]) ⟨e121, e123, trivial⟩
     have hM := Mem.subR (R := R) hMR
     exact RW.step (Ex.add rfl rfl hg81.1 hg81.2) rfl rfl rfl (RW.nil ⟨rfl, rfl, _, rfl, H', [], Hp.le.refl _, hMR, rfl, rfl, trivial⟩)
    ·
     intro H' σ' w R E hle hMR hE0 hE hp hf
     obtain rfl := hE0 rfl
     obtain ⟨_, hg⟩ := hp 5 (by decide) (by kernel_rfl)
     obtain ⟨e124, _, _⟩ := hg.get rfl
     have e125 : σ' 85 = .slice A51 n51 c51 := (List.cons.inj e124).1
     obtain ⟨_, hg⟩ := hp 7 (by decide) (by kernel_rfl)
     obtain ⟨e126, _, _⟩ := hg.get rfl
     have e127 : σ' 87 = .int .i64 ((ix (ix v11.1 v46) v74).Start) := (List.cons.inj e126).1
     obtain ⟨_, hg⟩ := hp 12 (by decide) (by kernel_rfl)
     obtain ⟨e128, _, _⟩ := hg.get rfl
     have e129 : σ' 92 = .int .i64 (((ix (ix v11.1 v46) v74).Start) + ((ix (ix v11.1 v46) v74).Count)) := (List.cons.inj e128).1
     obtain ⟨τ, rfl⟩ := slc (σ := σ') (l := [(85, .slice A51 n51 c51), (87, .int .i64 ((ix (ix v11.1 v46) v74).Start)), (92, .int .i64 (((ix (ix v11.1 v46) v74).Start) + ((ix (ix v11.1 v46) v74).Count)))]) ⟨e125, e127, e129, trivial⟩
     have hM := Mem.subR (R := R) hMR
     refine RW.sliceF (α := Sec) st61 rfl (hle66.trans hle) hF51 rfl rfl hg96 rfl rfl ?_; intro A97 n98 c99 s100 hF101
     exact RW.nil ⟨rfl, rfl, _, rfl, H', [], Hp.le.refl _, hMR, A97, n98, c99, s100, rfl, rfl, hF101, trivial⟩
    ·
     intro H' σ' w R E hle hMR hE0 hE hp hf
     obtain rfl := hE0 rfl
     obtain ⟨_, hg⟩ := hp 13 (by decide) (by kernel_rfl)
     obtain ⟨A97, n98, c99, s100, e130, _, hF101, _⟩ := hg.get rfl
     have e131 : σ' 93 = .slice A97 n98 c99 := (List.cons.inj e130).1
     obtain ⟨τ, rfl⟩ := slc (σ := σ') (l := [(93, .slice A97 n98 c99)]) ⟨e131, trivial⟩
     have hM := Mem.subR (R := R) hMR
     refine RW.callP hMR (slices_Clone_api_Sector_api_Sector_lift (sub (ix x1.Image v46) ((ix (ix v11.1 v46) v74).Start) (((ix (ix v11.1 v46) v74).Start) + ((ix (ix v11.1 v46) v74).Count))) hF101 hW103) en52 rfl rfl rfl rfl ?_; rintro _ w HS9 _ hleS ⟨_, rfl, A104, n104, c104, s104, rfl, hd105, hn106, rfl⟩ hMR
     obtain ⟨HS90, hMR, hleS0, hF107⟩ := hMR.giveF (α := Sec) 0 rfl hd105 hn106
     exact RW.nil ⟨rfl, rfl, _, rfl, HS90, [], (hleS.trans hleS0), hMR, A104, n104, c104, s104, rfl, rfl, hF107, trivial⟩
    ·
     intro H' σ' w R E hle hMR hE0 hE hp hf
     obtain rfl := hE0 rfl
     obtain ⟨_, hg⟩ := hp 2 (by decide) (by kernel_rfl)
     obtain ⟨e132, _, _⟩ := hg.get rfl
     have e133 : σ' 82 = .int .i64 v46 := (List.cons.inj e132).1
     obtain ⟨_, hg⟩ := hp 4 (by decide) (by kernel_rfl)
     obtain ⟨e134, _, _⟩ := hg.get rfl
     have e135 : σ' 84 = .int .i64 ((ix (ix v11.1 v46) v74).Start) := (List.cons.inj e134).1
     obtain ⟨_, hg⟩ := hp 14 (by decide) (by kernel_rfl)
     obtain ⟨A104, n104, c104, s104, e136, _, hF107, _⟩ := hg.get rfl
     have e137 : σ' 94 = .slice A104 n104 c104 := (List.cons.inj e136).1
     obtain ⟨τ, rfl⟩ := slc (σ := σ') (l := [(82, .int .i64 v46), (84, .int .i64 ((ix (ix v11.1 v46) v74).Start)), (94, .slice A104 n104 c104)]) ⟨e133, e135, e137, trivial⟩
     have hM := Mem.subR (R := R) hMR
     exact RW.step (Ex.build bs100 [(0, .int .i64 v46), (1, .int .i64 ((ix (ix v11.1 v46) v74).Start)), (2, .slice A104 n104 c104)] [.int .i64 v46, .int .i64 ((ix (ix v11.1 v46) v74).Start), .slice A104 n104 c104] rfl rfl) rfl rfl rfl (RW.nil ⟨rfl, rfl, _, rfl, H', [], Hp.le.refl _, hMR, A104, n104, c104, s104, rfl, rfl, hF107, trivial⟩)
    ·
     intro H' σ' w R E hle hMR hE0 hE hp hf
     obtain rfl := hE0 rfl
     obtain ⟨_, hg⟩ := hp 15 (by decide) (by kernel_rfl)
     obtain ⟨A104, n104, c104, s104, e138, _, hF107, _⟩ := hg.get rfl
     have e139 : σ' 94 = .slice A104 n104 c104 := (List.cons.inj e138).1
     have e140 : σ' 95 = .agg #[.int .i64 v46, .int .i64 ((ix (ix v11.1 v46) v74).Start), .slice A104 n104 c104] := (List.cons.inj (List.cons.inj e138).2).1
     obtain ⟨τ, rfl⟩ := slc (σ := σ') (l := [(95, .agg #[.int .i64 v46, .int .i64 ((ix (ix v11.1 v46) v74).Start), .slice A104 n104 c104])]) ⟨e140, trivial⟩
     have hM := Mem.subR (R := R) hMR
     refine RW.buildSlice hMR st43 tz100 [(0, .agg #[.int .i64 v46, .int .i64 ((ix (ix v11.1 v46) v74).Start), .slice A104 n104 c104])] [.int .i64 v46, .int .i64 ((ix (ix v11.1 v46) v74).Start), .slice A104 n104 c104] (by decide) rfl rfl rfl (by decide) rfl rfl ?_; intro b108 w hMR
     obtain ⟨HS9, hMR, hleS, hF109⟩ := hMR.giveF (α := api_Write) (xs := ([(api_Write.mk v46 ((ix (ix v11.1 v46) v74).Start) v102)] : List api_Write)) 0 rfl (DtL.cons (c1 := [.int .i64 v46, .int .i64 ((ix (ix v11.1 v46) v74).Start), .slice A104 n104 c104]) ⟨_, _, _, _, rfl, hF107⟩ DtL.nil) rfl
     exact RW.nil ⟨rfl, rfl, _, rfl, HS9, [], hleS, hMR, A104, n104, c104, b108, rfl, rfl, hF109, trivial⟩
    ·
     intro HR8 σ' w X miss hms hleR hM hX hX0 hf
     simp [subs] at hms
     rcases hms with rfl
     ·
      obtain ⟨H141, hH8⟩ : ∃ x, x = HR8 := ⟨_, rfl⟩
      subst hH8
      have hle142 := hleR
      obtain ⟨_, g0, y0⟩ := hX 0 (by decide) (by kernel_rfl)
      obtain ⟨_, rfl, _⟩ := g0.get rfl
      replace y0 : X 0 = [] := y0
      obtain ⟨_, g0, y1⟩ := hX 1 (by decide) (by kernel_rfl)
      obtain ⟨e143, rfl, _⟩ := g0.get rfl
      have e144 : σ' 81 = .slice A68 n69 c70 := (List.cons.inj e143).1
      replace y1 : X 1 = [] := y1
      obtain ⟨_, g0, y2⟩ := hX 2 (by decide) (by kernel_rfl)
      obtain ⟨_, rfl, _⟩ := g0.get rfl
      replace y2 : X 2 = [] := y2
      obtain ⟨_, g0, y3⟩ := hX 3 (by decide) (by kernel_rfl)
      obtain ⟨_, rfl, _⟩ := g0.get rfl
      replace y3 : X 3 = [] := y3
      obtain ⟨_, g0, y4⟩ := hX 4 (by decide) (by kernel_rfl)
      obtain ⟨_, rfl, _⟩ := g0.get rfl
      replace y4 : X 4 = [] := y4
      obtain ⟨_, g0, y5⟩ := hX 5 (by decide) (by kernel_rfl)
      obtain ⟨_, rfl, _⟩ := g0.get rfl
      replace y5 : X 5 = [] := y5
      obtain ⟨_, g0, y6⟩ := hX 6 (by decide) (by kernel_rfl)
      obtain ⟨_, rfl, _⟩ := g0.get rfl
      replace y6 : X 6 = [] := y6
      obtain ⟨_, g0, y7⟩ := hX 7 (by decide) (by kernel_rfl)
      obtain ⟨_, rfl, _⟩ := g0.get rfl
      replace y7 : X 7 = [] := y7
      obtain ⟨_, g0, y8⟩ := hX 8 (by decide) (by kernel_rfl)
      obtain ⟨_, rfl, _⟩ := g0.get rfl
      replace y8 : X 8 = [] := y8
      obtain ⟨_, g0, y9⟩ := hX 9 (by decide) (by kernel_rfl)
      obtain ⟨_, rfl, _⟩ := g0.get rfl
      replace y9 : X 9 = [] := y9
      obtain ⟨_, g0, y10⟩ := hX 10 (by decide) (by kernel_rfl)
      obtain ⟨_, rfl, _⟩ := g0.get rfl
      replace y10 : X 10 = [] := y10
      obtain ⟨_, g0, y11⟩ := hX 11 (by decide) (by kernel_rfl)
      obtain ⟨_, rfl, _⟩ := g0.get rfl
      replace y11 : X 11 = [] := y11
      obtain ⟨_, g0, y12⟩ := hX 12 (by decide) (by kernel_rfl)
      obtain ⟨_, rfl, _⟩ := g0.get rfl
      replace y12 : X 12 = [] := y12
      obtain ⟨_, g0, y13⟩ := hX 13 (by decide) (by kernel_rfl)
      obtain ⟨A97, n98, c99, s100, e145, rfl, hF101, _⟩ := g0.get rfl
      have e146 : σ' 93 = .slice A97 n98 c99 := (List.cons.inj e145).1
      replace y13 : X 13 = [] := y13
      obtain ⟨_, g0, y14⟩ := hX 14 (by decide) (by kernel_rfl)
      obtain ⟨A104, n104, c104, s104, e147, rfl, hF107, _⟩ := g0.get rfl
      have e148 : σ' 94 = .slice A104 n104 c104 := (List.cons.inj e147).1
      replace y14 : X 14 = [] := y14
      obtain ⟨_, g0, y15⟩ := hX 15 (by decide) (by kernel_rfl)
      obtain ⟨A104q, n104q, c104q, s104q, e149, rfl, _, _⟩ := g0.get rfl
      have e150 : σ' 94 = .slice A104q n104q c104q := (List.cons.inj e149).1
      have he_ := e148.symm.trans e150
      have ⟨e151, e152, e153⟩ : A104 = A104q ∧ n104 = n104q ∧ c104 = c104q := by simp at he_; simp [he_]
      subst e151
      subst e152
      subst e153
      have e154 : σ' 95 = .agg #[.int .i64 v46, .int .i64 ((ix (ix v11.1 v46) v74).Start), .slice A104 n104 c104] := (List.cons.inj (List.cons.inj e149).2).1
      replace y15 : X 15 = [] := y15
      obtain ⟨_, g0, y16⟩ := hX 16 (by decide) (by kernel_rfl)
      obtain ⟨A104q, n104q, c104q, b108, e155, rfl, hF109, _⟩ := g0.get rfl
      have e156 : σ' 96 = .slice (some ⟨b108, 0, none⟩) 1 1 := (List.cons.inj e155).1
      replace y16 : X 16 = [] := y16
      have hfl : flatX X 17 = [] := by
       show X 0 ++ (X 1 ++ (X 2 ++ (X 3 ++ (X 4 ++ (X 5 ++ (X 6 ++ (X 7 ++ (X 8 ++ (X 9 ++ (X 10 ++ (X 11 ++ (X 12 ++ (X 13 ++ (X 14 ++ (X 15 ++ (X 16 ++ [])))))))))))))))) = _
       rw [y0, y1, y2, y3, y4, y5, y6, y7, y8, y9, y10, y11, y12, y13, y14, y15, y16]; rfl
      rw [hfl] at hM
      obtain ⟨τ, rfl⟩ := slc (σ := σ') (l := [(10, .pointer (some ⟨b10, 0, none⟩)), (12, .slice A14 n14 c14), (16, .pointer (some ⟨b29, 0, none⟩)), (17, .slice A55 n56 c57), (18, .int .i64 v46), (19, .slice A51 n51 c51), (59, .slice A6 n6 c6), (60, .int .i64 ((x1.Image.length : Int))), (61, .int .i64 v46), (74, .slice A63 n63 c63), (75, .int .i64 (((ix v11.1 v46).length : Int))), (76, .int .i64 v74), (81, .slice A68 n69 c70), (96, .slice (some ⟨b108, 0, none⟩) 1 1)]) ⟨(hf 10 (by kernel_rfl)).trans rfl, (hf 12 (by kernel_rfl)).trans rfl, (hf 16 (by kernel_rfl)).trans rfl, (hf 17 (by kernel_rfl)).trans rfl, (hf 18 (by kernel_rfl)).trans rfl, (hf 19 (by kernel_rfl)).trans rfl, (hf 59 (by kernel_rfl)).trans rfl, (hf 60 (by kernel_rfl)).trans rfl, (hf 61 (by kernel_rfl)).trans rfl, (hf 74 (by kernel_rfl)).trans rfl, (hf 75 (by kernel_rfl)).trans rfl, (hf 76 (by kernel_rfl)).trans rfl, e144, e156, trivial⟩
      change RA _ _ _ _ _ _ _ (sl [(10, .pointer (some ⟨b10, 0, none⟩)), (12, .slice A14 n14 c14), (16, .pointer (some ⟨b29, 0, none⟩)), (17, .slice A55 n56 c57), (18, .int .i64 v46), (19, .slice A51 n51 c51), (59, .slice A6 n6 c6), (60, .int .i64 ((x1.Image.length : Int))), (61, .int .i64 v46), (74, .slice A63 n63 c63), (75, .int .i64 (((ix v11.1 v46).length : Int))), (76, .int .i64 v74), (81, .slice A68 n69 c70), (96, .slice (some ⟨b108, 0, none⟩) 1 1)] τ) _ 20 _
      refine RA.step [17] (by kernel_rfl) rfl ⟨⟨_, rfl, ?_⟩, trivial⟩
      obtain ⟨hg163, hm⟩ := hm
      refine RW.appendF (α := api_Write) (xs := v67) (ys := ([(api_Write.mk v46 ((ix (ix v11.1 v46) v74).Start) v102)] : List api_Write)) hM 5 st43 rfl rfl (hd72.mono hle142) hn73 rfl (Hp.le.refl _) hF109 hg163 rfl rfl ?_; intro A157 n158 c159 s160 w hd161 hn162 hM
      refine RW.nil ?_
      refine And.intro rfl ?_
      refine RA.step [18] (by kernel_rfl) rfl ⟨⟨_, rfl, ?_⟩, trivial⟩
      refine RW.st (Ex.fieldAddr fa45_4 rfl) rfl <| RW.nil ?_
      refine And.intro rfl ?_
      refine RA.step [19] (by kernel_rfl) rfl ⟨⟨_, rfl, ?_⟩, trivial⟩
      refine RW.store hM 2 (.slice A157 n158 c159) [.slice A157 n158 c159] [.int .i64 v18.1, .int .i64 x2, .int .i64 x3, .slice A26 n26 c26, .slice A157 n158 c159] sz43 rfl rfl rfl (oneAll ⟨rfl, trivial⟩) rfl (nb rfl) rfl [.box b80 103 [.int .i64 ((ix (ix v11.1 v46) v74).Start), .int .i64 ((ix (ix v11.1 v46) v74).Count)], .box b10 45 [.int .i64 0, .int .i64 0, .int .i64 0, .slice none 0 0, .slice none 0 0], .box b29 45 [.int .i64 v18.1, .int .i64 x2, .int .i64 x3, .slice A26 n26 c26, .slice A157 n158 c159], .row (.slice A14 n14 c14) 68 1 n14 s14, .row (.slice A26 n26 c26) 3 1 n26 s26, .row (.slice A157 n158 c159) 100 3 n158 s160, .row (.slice A55 n56 c57) 3 1 n56 s58] rfl rfl rfl ?_; intro w hM
      refine RW.nil ?_
      refine And.intro rfl ?_
      refine RA.done (by kernel_rfl) ?_
      refine CW.region ?_
      obtain ⟨hg164, hm⟩ := hm
      refine RW.st (Ex.add rfl rfl hg164.1 hg164.2) rfl <| RW.st (Ex.move (.int .i64 (v74 + 1)) rfl) rfl <| RW.nil ?_
      exact And.intro rfl ⟨k75, ⟨(v67 ++ ([(api_Write.mk v46 ((ix (ix v11.1 v46) v74).Start) v102)] : List api_Write)), A157, n158, c159, s160, v74 + 1, H141, hle66.trans hle142, slc ⟨rfl, rfl, rfl, rfl, rfl, rfl, rfl, rfl, rfl, rfl, rfl, rfl, trivial⟩, (hM.pick [1, 2, 3, 4, 5, 6] rfl rfl), hd161, hn162, (by rw [hrec76]; exact hm)⟩, Nat.lt_succ_self _⟩
   ·
    replace hm := And.right hm hc77
    refine CW.exit ?_
    refine CW.region ?_
    obtain ⟨hg165, hm⟩ := hm
    refine RW.st (Ex.add rfl rfl hg165.1 hg165.2) rfl <| RW.st (Ex.move (.int .i64 (v46 + 1)) rfl) rfl <| RW.nil ?_
    exact And.intro rfl ⟨k47, ⟨v67, A68, n69, c70, s71, (v39 ++ ([((ix x1.Image v46).length : Int)] : List Int)), A55, n56, c57, s58, v46 + 1, Hk65, hle31.trans hle66, slc ⟨rfl, rfl, rfl, rfl, rfl, rfl, rfl, trivial⟩, hM, hd72, hn73, (hd59.mono hle66), hn60, (by rw [hrec48]; exact hm)⟩, Nat.lt_succ_self _⟩
  ·
   replace hm := And.right hm hc49
   refine CW.exit ?_
   refine CW.seq <| CW.sr <| RW.st (Ex.loadA hM 1 [.int .i64 v18.1, .int .i64 x2, .int .i64 x3, .slice A26 n26 c26, .slice A33 n34 c35] ta45 rfl rfl rfl rfl) rfl <| RW.st (Ex.move (.slice A40 n41 c42) rfl) rfl ?_
   have hM1 := hM
   obtain ⟨H167, hM, hle168, hF169⟩ := hM.giveF (α := Int) 3 rfl (hd27.mono hle31) hn28
   obtain ⟨H170, hM, hle171, hF172⟩ := hM.giveF (α := api_Write) 3 rfl (hd37.mono hle168) hn38
   obtain ⟨H173, hM, hle174, hF175⟩ := hM.giveF (α := Int) 3 rfl (hd44.mono (hle168.trans hle171)) hn45
   refine RW.callB hM1 hM (cycle_Check_lift (api_Cycle.mk v18.1 x2 x3 v23 v32) v39 (hF169.mono (hle171.trans hle174)) (hF172.mono hle174) hF175 hm) en53 rfl rfl rfl rfl ?_; clear hM hM1; intro v176 w hm hM
   refine RW.st (Ex.assign (.int .i64 v176) rfl) rfl <| RW.nil <| CW.sr <| RW.st (Ex.move (.int .i64 v176) rfl) rfl <| RW.st (Ex.neq rfl rfl) rfl <| RW.nil ?_
   refine CW.cond_dec (p := v176 ≠ 0) rfl (fun hc179 => ?_) (fun hc179 => ?_)
   ·
    replace hm := And.left hm hc179
    refine CW.sr <| RW.st (Ex.build bs45 [] [.int .i64 0, .int .i64 0, .int .i64 0, .slice none 0 0, .slice none 0 0] rfl rfl) rfl <| RW.st (Ex.move (.int .i64 v176) rfl) rfl ?_
    refine RW.store hM 0 (.agg #[.int .i64 0, .int .i64 0, .int .i64 0, .slice none 0 0, .slice none 0 0]) [.int .i64 0, .int .i64 0, .int .i64 0, .slice none 0 0, .slice none 0 0] [.int .i64 0, .int .i64 0, .int .i64 0, .slice none 0 0, .slice none 0 0] sz45 rfl rfl rfl (oneAll ⟨rfl, rfl, rfl, rfl, rfl, trivial⟩) rfl (nb rfl) rfl [.box b10 45 [.int .i64 0, .int .i64 0, .int .i64 0, .slice none 0 0, .slice none 0 0], .box b29 45 [.int .i64 v18.1, .int .i64 x2, .int .i64 x3, .slice A26 n26 c26, .slice A33 n34 c35], .row (.slice A14 n14 c14) 68 1 n14 s14, .row (.slice A26 n26 c26) 3 1 n26 s26, .row (.slice A33 n34 c35) 100 3 n34 s36, .row (.slice A40 n41 c42) 3 1 n41 s43] rfl rfl rfl ?_; intro w hM
    refine RW.st (Ex.assign (.int .i64 v176) rfl) rfl <| RW.nil <| CW.ret ?_
    refine tqr ?_
    refine ect (k := 0) (.inl rfl) rfl hM rfl (.int .i64 v176) rfl ta45 [.int .i64 0, .int .i64 0, .int .i64 0, .slice none 0 0, .slice none 0 0] rfl rfl ?_
    replace hM := hM.nilRow 3 1
    replace hM := hM.nilRow 100 3
    exact ⟨_, _, (hM.pick [1, 0] rfl rfl), ((api_Cycle.mk 0 0 0 ([] : List Int) ([] : List api_Write)), v176), hm, none, 0, 0, [], none, 0, 0, [], rfl, (DtL.nil : DtL _ [] ([] : List Int)), rfl, (DtL.nil : DtL _ [] ([] : List api_Write)), rfl, rfl⟩
   ·
    replace hm := And.right hm hc179
    refine CW.skip <| CW.sr <| RW.st (Ex.loadA hM 1 [.int .i64 v18.1, .int .i64 x2, .int .i64 x3, .slice A26 n26 c26, .slice A33 n34 c35] ta45 rfl rfl rfl rfl) rfl ?_
    refine RW.store hM 0 (.agg #[.int .i64 v18.1, .int .i64 x2, .int .i64 x3, .slice A26 n26 c26, .slice A33 n34 c35]) [.int .i64 v18.1, .int .i64 x2, .int .i64 x3, .slice A26 n26 c26, .slice A33 n34 c35] [.int .i64 v18.1, .int .i64 x2, .int .i64 x3, .slice A26 n26 c26, .slice A33 n34 c35] sz45 rfl rfl rfl (oneAll ⟨rfl, rfl, rfl, rfl, rfl, trivial⟩) rfl (nb rfl) rfl [.box b10 45 [.int .i64 v18.1, .int .i64 x2, .int .i64 x3, .slice A26 n26 c26, .slice A33 n34 c35], .box b29 45 [.int .i64 v18.1, .int .i64 x2, .int .i64 x3, .slice A26 n26 c26, .slice A33 n34 c35], .row (.slice A14 n14 c14) 68 1 n14 s14, .row (.slice A26 n26 c26) 3 1 n26 s26, .row (.slice A33 n34 c35) 100 3 n34 s36, .row (.slice A40 n41 c42) 3 1 n41 s43] rfl rfl rfl ?_; intro w hM
    refine RW.st (Ex.assign (.int .i64 0) rfl) rfl <| RW.nil <| CW.ret ?_
    refine ect (k := 0) (.inl rfl) rfl hM rfl (.int .i64 0) rfl ta45 [.int .i64 v18.1, .int .i64 x2, .int .i64 x3, .slice A26 n26 c26, .slice A33 n34 c35] rfl rfl ?_
    exact ⟨_, _, (hM.pick [3, 4] rfl rfl), ((api_Cycle.mk v18.1 x2 x3 v23 v32), 0), hm, A26, n26, c26, s26, A33, n34, c35, s36, rfl, (hd27.mono hle31), hn28, hd37, hn38, rfl⟩
theorem law47_awake_lift {H : Hp} (hT : TabH H 0) {Φ : Bool → Prop} (hm : law47_awake_W Φ) : RetP Tryd.prog 11 #[] H (fun _ v L => ∃ y, Φ y ∧ v = .bool y ∧ L = []) := by
 refine RetP.of_code Tryd.func11 rfl (nb rfl) fun w0 hM => ?_
 refine CW.sr <| RW.st (Ex.assign (.bool false) rfl) rfl <| RW.nil <| CW.sr <| RW.st (Ex.buildA ba71 [(0, .int .u8 (1))] [.int .u8 (1), .int .u8 (0), .int .u8 (0), .int .u8 (0), .int .u8 (0), .int .u8 (0), .int .u8 (0), .int .u8 (0)] rfl rfl) rfl <| RW.st (Ex.buildA ba71 [(0, .int .u8 (2))] [.int .u8 (2), .int .u8 (0), .int .u8 (0), .int .u8 (0), .int .u8 (0), .int .u8 (0), .int .u8 (0), .int .u8 (0)] rfl rfl) rfl <| RW.st (Ex.buildA ba71 [(0, .int .u8 (3))] [.int .u8 (3), .int .u8 (0), .int .u8 (0), .int .u8 (0), .int .u8 (0), .int .u8 (0), .int .u8 (0), .int .u8 (0)] rfl rfl) rfl ?_
 refine RW.buildSlice hM st61 tz71 [(0, .agg #[.int .u8 (1), .int .u8 (0), .int .u8 (0), .int .u8 (0), .int .u8 (0), .int .u8 (0), .int .u8 (0), .int .u8 (0)]), (1, .agg #[.int .u8 (2), .int .u8 (0), .int .u8 (0), .int .u8 (0), .int .u8 (0), .int .u8 (0), .int .u8 (0), .int .u8 (0)]), (2, .agg #[.int .u8 (3), .int .u8 (0), .int .u8 (0), .int .u8 (0), .int .u8 (0), .int .u8 (0), .int .u8 (0), .int .u8 (0)])] [.int .u8 (1), .int .u8 (0), .int .u8 (0), .int .u8 (0), .int .u8 (0), .int .u8 (0), .int .u8 (0), .int .u8 (0), .int .u8 (2), .int .u8 (0), .int .u8 (0), .int .u8 (0), .int .u8 (0), .int .u8 (0), .int .u8 (0), .int .u8 (0), .int .u8 (3), .int .u8 (0), .int .u8 (0), .int .u8 (0), .int .u8 (0), .int .u8 (0), .int .u8 (0), .int .u8 (0)] (by decide) rfl rfl rfl (by decide) rfl rfl ?_; intro b1 w hM
 have hd2 : DtL H [.int .u8 (1), .int .u8 (0), .int .u8 (0), .int .u8 (0), .int .u8 (0), .int .u8 (0), .int .u8 (0), .int .u8 (0), .int .u8 (2), .int .u8 (0), .int .u8 (0), .int .u8 (0), .int .u8 (0), .int .u8 (0), .int .u8 (0), .int .u8 (0), .int .u8 (3), .int .u8 (0), .int .u8 (0), .int .u8 (0), .int .u8 (0), .int .u8 (0), .int .u8 (0), .int .u8 (0)] ([(Sec.mk (1#8) (0#8) (0#8) (0#8) (0#8) (0#8) (0#8) (0#8)), (Sec.mk (2#8) (0#8) (0#8) (0#8) (0#8) (0#8) (0#8) (0#8)), (Sec.mk (3#8) (0#8) (0#8) (0#8) (0#8) (0#8) (0#8) (0#8))] : List Sec) := (DtL.cons (c1 := [.int .u8 (1), .int .u8 (0), .int .u8 (0), .int .u8 (0), .int .u8 (0), .int .u8 (0), .int .u8 (0), .int .u8 (0)]) rfl (DtL.cons (c1 := [.int .u8 (2), .int .u8 (0), .int .u8 (0), .int .u8 (0), .int .u8 (0), .int .u8 (0), .int .u8 (0), .int .u8 (0)]) rfl (DtL.cons (c1 := [.int .u8 (3), .int .u8 (0), .int .u8 (0), .int .u8 (0), .int .u8 (0), .int .u8 (0), .int .u8 (0), .int .u8 (0)]) rfl DtL.nil)))
 obtain ⟨H3, hM, hle4, hF5⟩ := hM.giveF (α := Sec) 0 rfl hd2 rfl
 refine RW.buildSlice hM st25 tz61 [(0, .slice (some ⟨b1, 0, none⟩) 3 3)] [.slice (some ⟨b1, 0, none⟩) 3 3] (by decide) rfl rfl rfl (by decide) rfl rfl ?_; intro b6 w hM
 have hd7 : DtL H3 [.slice (some ⟨b1, 0, none⟩) 3 3] ([([(Sec.mk (1#8) (0#8) (0#8) (0#8) (0#8) (0#8) (0#8) (0#8)), (Sec.mk (2#8) (0#8) (0#8) (0#8) (0#8) (0#8) (0#8) (0#8)), (Sec.mk (3#8) (0#8) (0#8) (0#8) (0#8) (0#8) (0#8) (0#8))] : List Sec)] : List (List Sec)) := (DtL.cons (c1 := [.slice (some ⟨b1, 0, none⟩) 3 3]) ⟨_, _, _, _, rfl, hF5⟩ DtL.nil)
 refine RW.st (Ex.assign (.slice (some ⟨b6, 0, none⟩) 1 1) rfl) rfl <| RW.nil <| CW.sr <| RW.st (Ex.move (.slice (some ⟨b6, 0, none⟩) 1 1) rfl) rfl <| RW.st (Ex.build bs98 [(0, .int .i64 1), (1, .int .i64 1), (2, .int .i64 4)] [.int .i64 1, .int .i64 1, .int .i64 4] rfl rfl) rfl ?_
 refine RW.buildSlice hM st22 tz98 [(0, .agg #[.int .i64 1, .int .i64 1, .int .i64 4])] [.int .i64 1, .int .i64 1, .int .i64 4] (by decide) rfl rfl rfl (by decide) rfl rfl ?_; intro b8 w hM
 have hd9 : DtL H3 [.int .i64 1, .int .i64 1, .int .i64 4] ([(api_Span.mk 1 1 4)] : List api_Span) := (DtL.cons (c1 := [.int .i64 1, .int .i64 1, .int .i64 4]) rfl DtL.nil)
 refine RW.callP hM (law47_one_lift 0 (8#8) hm) en39 rfl rfl rfl rfl ?_; rintro _ w H11 _ hle12 ⟨v10, hm, A13, n13, c13, s13, rfl, hd14, hn15, rfl⟩ hM
 obtain ⟨H16, hM, hle17, hF18⟩ := hM.giveF (α := Sec) 0 rfl hd14 hn15
 refine RW.buildSlice hM st43 tz100 [(0, .agg #[.int .i64 v10.Volume, .int .i64 v10.Start, .slice A13 n13 c13])] [.int .i64 v10.Volume, .int .i64 v10.Start, .slice A13 n13 c13] (by decide) rfl rfl rfl (by decide) rfl rfl ?_; intro b19 w hM
 have hd20 : DtL H16 [.int .i64 v10.Volume, .int .i64 v10.Start, .slice A13 n13 c13] ([v10] : List api_Write) := (DtL.cons (c1 := [.int .i64 v10.Volume, .int .i64 v10.Start, .slice A13 n13 c13]) ⟨_, _, _, _, rfl, hF18⟩ DtL.nil)
 obtain ⟨H21, hM, hle22, hF23⟩ := hM.giveF (α := List Sec) 2 rfl (hd7.mono (hle12.trans hle17)) rfl
 obtain ⟨H24, hM, hle25, hF26⟩ := hM.giveF (α := api_Span) 1 rfl (hd9.mono ((hle12.trans hle17).trans hle22)) rfl
 obtain ⟨H27, hM, hle28, hF29⟩ := hM.giveF (α := api_Write) 0 rfl (hd20.mono (hle22.trans hle25)) rfl
 refine RW.callP hM (law47_point_lift 0 ([([(Sec.mk (1#8) (0#8) (0#8) (0#8) (0#8) (0#8) (0#8) (0#8)), (Sec.mk (2#8) (0#8) (0#8) (0#8) (0#8) (0#8) (0#8) (0#8)), (Sec.mk (3#8) (0#8) (0#8) (0#8) (0#8) (0#8) (0#8) (0#8))] : List Sec)] : List (List Sec)) ([(api_Span.mk 1 1 4)] : List api_Span) ([v10] : List api_Write) (hF23.mono (hle25.trans hle28)) (hF26.mono hle28) hF29 hm) en38 rfl rfl rfl rfl ?_; rintro _ w H31 _ hle32 ⟨v30, hm, A33, n33, c33, s33, A34, n34, c34, s34, A35, n35, c35, s35, rfl, hF33, hd36, hn37, hF35, rfl⟩ hM
 refine RW.alloc hM tz27 [.int .i64 0, .slice none 0 0, .slice none 0 0, .slice none 0 0] rfl rfl rfl ?_; intro b38 w hM
 refine RW.store hM 0 (.agg #[.int .i64 v30.Site, .slice A33 n33 c33, .slice A34 n34 c34, .slice A35 n35 c35]) [.int .i64 v30.Site, .slice A33 n33 c33, .slice A34 n34 c34, .slice A35 n35 c35] [.int .i64 v30.Site, .slice A33 n33 c33, .slice A34 n34 c34, .slice A35 n35 c35] sz27 rfl rfl rfl (oneAll ⟨rfl, rfl, rfl, rfl, trivial⟩) rfl (nb rfl) rfl [.box b38 27 [.int .i64 v30.Site, .slice A33 n33 c33, .slice A34 n34 c34, .slice A35 n35 c35], .row (.slice A34 n34 c34) 65 2 n34 s34] rfl rfl rfl ?_; intro w hM
 refine RW.nil <| CW.sr <| RW.st (Ex.move (.slice (some ⟨b6, 0, none⟩) 1 1) rfl) rfl <| RW.st (Ex.build bs98 [(0, .int .i64 1), (1, .int .i64 1), (2, .int .i64 4)] [.int .i64 1, .int .i64 1, .int .i64 4] rfl rfl) rfl <| RW.st (Ex.build bs98 [(0, .int .i64 2), (1, .int .i64 5), (2, .int .i64 6)] [.int .i64 2, .int .i64 5, .int .i64 6] rfl rfl) rfl ?_
 refine RW.buildSlice hM st22 tz98 [(0, .agg #[.int .i64 1, .int .i64 1, .int .i64 4]), (1, .agg #[.int .i64 2, .int .i64 5, .int .i64 6])] [.int .i64 1, .int .i64 1, .int .i64 4, .int .i64 2, .int .i64 5, .int .i64 6] (by decide) rfl rfl rfl (by decide) rfl rfl ?_; intro b39 w hM
 have hd40 : DtL H31 [.int .i64 1, .int .i64 1, .int .i64 4, .int .i64 2, .int .i64 5, .int .i64 6] ([(api_Span.mk 1 1 4), (api_Span.mk 2 5 6)] : List api_Span) := (DtL.cons (c1 := [.int .i64 1, .int .i64 1, .int .i64 4]) rfl (DtL.cons (c1 := [.int .i64 2, .int .i64 5, .int .i64 6]) rfl DtL.nil))
 refine RW.callP hM (law47_one_lift 2 (9#8) hm) en39 rfl rfl rfl rfl ?_; rintro _ w H42 _ hle43 ⟨v41, hm, A44, n44, c44, s44, rfl, hd45, hn46, rfl⟩ hM
 obtain ⟨H47, hM, hle48, hF49⟩ := hM.giveF (α := Sec) 0 rfl hd45 hn46
 refine RW.buildSlice hM st43 tz100 [(0, .agg #[.int .i64 v41.Volume, .int .i64 v41.Start, .slice A44 n44 c44])] [.int .i64 v41.Volume, .int .i64 v41.Start, .slice A44 n44 c44] (by decide) rfl rfl rfl (by decide) rfl rfl ?_; intro b50 w hM
 have hd51 : DtL H47 [.int .i64 v41.Volume, .int .i64 v41.Start, .slice A44 n44 c44] ([v41] : List api_Write) := (DtL.cons (c1 := [.int .i64 v41.Volume, .int .i64 v41.Start, .slice A44 n44 c44]) ⟨_, _, _, _, rfl, hF49⟩ DtL.nil)
 obtain ⟨H52, hM, hle53, hF54⟩ := hM.giveF (α := api_Span) 1 rfl (hd40.mono (hle43.trans hle48)) rfl
 obtain ⟨H55, hM, hle56, hF57⟩ := hM.giveF (α := api_Write) 0 rfl (hd51.mono hle53) rfl
 refine RW.callP hM (law47_point_lift 1 ([([(Sec.mk (1#8) (0#8) (0#8) (0#8) (0#8) (0#8) (0#8) (0#8)), (Sec.mk (2#8) (0#8) (0#8) (0#8) (0#8) (0#8) (0#8) (0#8)), (Sec.mk (3#8) (0#8) (0#8) (0#8) (0#8) (0#8) (0#8) (0#8))] : List Sec)] : List (List Sec)) ([(api_Span.mk 1 1 4), (api_Span.mk 2 5 6)] : List api_Span) ([v41] : List api_Write) (hF23.mono ((((((hle25.trans hle28).trans hle32).trans hle43).trans hle48).trans hle53).trans hle56)) (hF54.mono hle56) hF57 hm) en38 rfl rfl rfl rfl ?_; rintro _ w H59 _ hle60 ⟨v58, hm, A61, n61, c61, s61, A62, n62, c62, s62, A63, n63, c63, s63, rfl, hF61, hd64, hn65, hF63, rfl⟩ hM
 refine RW.alloc hM tz27 [.int .i64 0, .slice none 0 0, .slice none 0 0, .slice none 0 0] rfl rfl rfl ?_; intro b66 w hM
 refine RW.store hM 0 (.agg #[.int .i64 v58.Site, .slice A61 n61 c61, .slice A62 n62 c62, .slice A63 n63 c63]) [.int .i64 v58.Site, .slice A61 n61 c61, .slice A62 n62 c62, .slice A63 n63 c63] [.int .i64 v58.Site, .slice A61 n61 c61, .slice A62 n62 c62, .slice A63 n63 c63] sz27 rfl rfl rfl (oneAll ⟨rfl, rfl, rfl, rfl, trivial⟩) rfl (nb rfl) rfl [.box b66 27 [.int .i64 v58.Site, .slice A61 n61 c61, .slice A62 n62 c62, .slice A63 n63 c63], .row (.slice A62 n62 c62) 65 2 n62 s62, .box b38 27 [.int .i64 v30.Site, .slice A33 n33 c33, .slice A34 n34 c34, .slice A35 n35 c35], .row (.slice A34 n34 c34) 65 2 n34 s34] rfl rfl rfl ?_; intro w hM
 refine RW.nil <| CW.sr <| RW.st (Ex.loadA hM 2 [.int .i64 v30.Site, .slice A33 n33 c33, .slice A34 n34 c34, .slice A35 n35 c35] ta27 rfl rfl rfl rfl) rfl ?_
 obtain ⟨H67, hM, hle68, hF69⟩ := hM.giveF (α := api_Bitmap) 3 rfl (hd36.mono ((((hle43.trans hle48).trans hle53).trans hle56).trans hle60)) hn37
 refine RW.callP hM (reverse_Undo_lift (hT.mono ((((((((((((hle4.trans hle12).trans hle17).trans hle22).trans hle25).trans hle28).trans hle32).trans hle43).trans hle48).trans hle53).trans hle56).trans hle60).trans hle68)) v30 4 (hF33.mono (((((hle43.trans hle48).trans hle53).trans hle56).trans hle60).trans hle68)) hF69 (hF35.mono (((((hle43.trans hle48).trans hle53).trans hle56).trans hle60).trans hle68)) hm) en12 rfl rfl rfl rfl ?_; rintro _ w H71 _ hle72 ⟨v70, hm, A73, n73, c73, s73, rfl, hd74, hn75, rfl⟩ hM
 refine RW.st (Ex.move (.tuple #[.slice A73 n73 c73, .int .i64 v70.2]) rfl) rfl <| RW.st (Ex.extract rfl rfl) rfl <| RW.st (Ex.extract rfl rfl) rfl <| RW.st (Ex.assign (.slice A73 n73 c73) rfl) rfl <| RW.st (Ex.assign (.int .i64 v70.2) rfl) rfl <| RW.nil <| CW.sr <| RW.st (Ex.loadA hM 3 [.int .i64 v30.Site, .slice A33 n33 c33, .slice A34 n34 c34, .slice A35 n35 c35] ta27 rfl rfl rfl rfl) rfl <| RW.st (Ex.loadA hM 1 [.int .i64 v58.Site, .slice A61 n61 c61, .slice A62 n62 c62, .slice A63 n63 c63] ta27 rfl rfl rfl rfl) rfl ?_
 obtain ⟨H76, hM, hle77, hF78⟩ := hM.giveF (α := api_Bitmap) 2 rfl (hd64.mono (hle68.trans hle72)) hn65
 refine RW.callP hM (reverse_Extents_lift (hT.mono ((((((((((((((hle4.trans hle12).trans hle17).trans hle22).trans hle25).trans hle28).trans hle32).trans hle43).trans hle48).trans hle53).trans hle56).trans hle60).trans hle68).trans hle72).trans hle77)) v30 v58 (hF33.mono (((((((hle43.trans hle48).trans hle53).trans hle56).trans hle60).trans hle68).trans hle72).trans hle77)) (hF69.mono (hle72.trans hle77)) (hF35.mono (((((((hle43.trans hle48).trans hle53).trans hle56).trans hle60).trans hle68).trans hle72).trans hle77)) (hF61.mono ((hle68.trans hle72).trans hle77)) hF78 (hF63.mono ((hle68.trans hle72).trans hle77)) hm) en14 rfl rfl rfl rfl ?_; rintro _ w H80 _ hle81 ⟨v79, hm, A82, n82, c82, s82, rfl, hd83, hn84, rfl⟩ hM
 refine RW.st (Ex.move (.tuple #[.slice A82 n82 c82, .int .i64 v79.2]) rfl) rfl <| RW.st (Ex.extract rfl rfl) rfl <| RW.st (Ex.extract rfl rfl) rfl <| RW.st (Ex.assign (.slice A82 n82 c82) rfl) rfl <| RW.st (Ex.assign (.int .i64 v79.2) rfl) rfl <| RW.nil <| CW.sr <| RW.st (Ex.loadA hM 3 [.int .i64 v30.Site, .slice A33 n33 c33, .slice A34 n34 c34, .slice A35 n35 c35] ta27 rfl rfl rfl rfl) rfl <| RW.st (Ex.loadA hM 2 [.int .i64 v58.Site, .slice A61 n61 c61, .slice A62 n62 c62, .slice A63 n63 c63] ta27 rfl rfl rfl rfl) rfl ?_
 refine RW.callP hM (reverse_Cycle_lift (hT.mono (((((((((((((((hle4.trans hle12).trans hle17).trans hle22).trans hle25).trans hle28).trans hle32).trans hle43).trans hle48).trans hle53).trans hle56).trans hle60).trans hle68).trans hle72).trans hle77).trans hle81)) v30 v58 6 7 ([] : List Int) (hF33.mono ((((((((hle43.trans hle48).trans hle53).trans hle56).trans hle60).trans hle68).trans hle72).trans hle77).trans hle81)) (hF69.mono ((hle72.trans hle77).trans hle81)) (hF35.mono ((((((((hle43.trans hle48).trans hle53).trans hle56).trans hle60).trans hle68).trans hle72).trans hle77).trans hle81)) (hF61.mono (((hle68.trans hle72).trans hle77).trans hle81)) (hF78.mono hle81) (hF63.mono (((hle68.trans hle72).trans hle77).trans hle81)) Fz.nil hm) en17 rfl rfl rfl rfl ?_; rintro _ w H86 _ hle87 ⟨v85, hm, A88, n88, c88, s88, A89, n89, c89, s89, rfl, hd90, hn91, hd92, hn93, rfl⟩ hM
 refine RW.st (Ex.move (.tuple #[.agg #[.int .i64 v85.1.Base, .int .i64 v85.1.Number, .int .i64 v85.1.Time, .slice A88 n88 c88, .slice A89 n89 c89], .int .i64 v85.2]) rfl) rfl <| RW.st (Ex.extract rfl rfl) rfl <| RW.st (Ex.extract rfl rfl) rfl ?_
 refine RW.alloc hM tz45 [.int .i64 0, .int .i64 0, .int .i64 0, .slice none 0 0, .slice none 0 0] rfl rfl rfl ?_; intro b94 w hM
 refine RW.store hM 0 (.agg #[.int .i64 v85.1.Base, .int .i64 v85.1.Number, .int .i64 v85.1.Time, .slice A88 n88 c88, .slice A89 n89 c89]) [.int .i64 v85.1.Base, .int .i64 v85.1.Number, .int .i64 v85.1.Time, .slice A88 n88 c88, .slice A89 n89 c89] [.int .i64 v85.1.Base, .int .i64 v85.1.Number, .int .i64 v85.1.Time, .slice A88 n88 c88, .slice A89 n89 c89] sz45 rfl rfl rfl (oneAll ⟨rfl, rfl, rfl, rfl, rfl, trivial⟩) rfl (nb rfl) rfl [.box b94 45 [.int .i64 v85.1.Base, .int .i64 v85.1.Number, .int .i64 v85.1.Time, .slice A88 n88 c88, .slice A89 n89 c89], .row (.slice A88 n88 c88) 3 1 n88 s88, .row (.slice A89 n89 c89) 100 3 n89 s89, .row (.slice A82 n82 c82) 68 1 n82 s82, .row (.slice A73 n73 c73) 68 1 n73 s73, .box b66 27 [.int .i64 v58.Site, .slice A61 n61 c61, .slice A62 n62 c62, .slice A63 n63 c63], .box b38 27 [.int .i64 v30.Site, .slice A33 n33 c33, .slice A34 n34 c34, .slice A35 n35 c35]] rfl rfl rfl ?_; intro w hM
 refine RW.st (Ex.assign (.int .i64 v85.2) rfl) rfl <| RW.nil <| CW.seq ?_
 skip
 refine CW.cut (fun D σ w => D = [] ∧ (∃ τ, σ = sl [(4, .slice A73 n73 c73), (6, .slice A82 n82 c82), (8, .pointer (some ⟨b94, 0, none⟩)), (65, .bool (decide ((v70.2 ≠ 0) ∨ ((v79.2 ≠ 0) ∨ ((v85.2 ≠ 0) ∨ ((v85.1.Base ≠ 4) ∨ ((v85.1.Writes.length : Int) ≠ 2)))))))] τ) ∧ Mem w0 H w H86 [.box b94 45 [.int .i64 v85.1.Base, .int .i64 v85.1.Number, .int .i64 v85.1.Time, .slice A88 n88 c88, .slice A89 n89 c89], .row (.slice A88 n88 c88) 3 1 n88 s88, .row (.slice A89 n89 c89) 100 3 n89 s89, .row (.slice A82 n82 c82) 68 1 n82 s82, .row (.slice A73 n73 c73) 68 1 n73 s73, .box b66 27 [.int .i64 v58.Site, .slice A61 n61 c61, .slice A62 n62 c62, .slice A63 n63 c63], .box b38 27 [.int .i64 v30.Site, .slice A33 n33 c33, .slice A34 n34 c34, .slice A35 n35 c35]]) ?_ ?_
 ·
  skip
  refine CW.region <| RW.st (Ex.move (.int .i64 v70.2) rfl) rfl <| RW.st (Ex.neq rfl rfl) rfl <| RW.st (Ex.move (.bool (decide (v70.2 ≠ 0))) rfl) rfl ?_
  refine RW.split 47 (p := v70.2 ≠ 0) rfl (fun hc95 => ?_) (fun hc95 => ?_)
  ·
   skip
   refine RW.pp <| RW.st (Ex.pickT (.bool true) rfl rfl) rfl <| RW.st (Ex.move (.bool true) rfl) rfl <| RW.pp <| RW.st (Ex.pickT (.bool true) rfl rfl) rfl <| RW.st (Ex.move (.bool true) rfl) rfl <| RW.pp <| RW.pass rfl rfl <| RW.st (Ex.pickT (.bool true) rfl rfl) rfl <| RW.st (Ex.move (.bool true) rfl) rfl <| RW.pass rfl rfl ?_
   refine RW.pp <| RW.pass rfl rfl <| RW.st (Ex.pickT (.bool true) rfl rfl) rfl <| RW.nil ?_
   exact And.intro rfl (And.intro (slc ⟨rfl, rfl, rfl, (congrArg Value.bool (decide_eq_true (.inl hc95)).symm), trivial⟩) hM)
  ·
   skip
   refine RW.st (Ex.move (.int .i64 v79.2) rfl) rfl <| RW.st (Ex.neq rfl rfl) rfl <| RW.st (Ex.pickF (.bool (decide (v79.2 ≠ 0))) rfl rfl) rfl <| RW.st (Ex.move (.bool (decide (v79.2 ≠ 0))) rfl) rfl ?_
   refine RW.split 51 (p := v79.2 ≠ 0) rfl (fun hc96 => ?_) (fun hc96 => ?_)
   ·
    skip
    refine RW.pp <| RW.st (Ex.pickT (.bool true) rfl rfl) rfl <| RW.st (Ex.move (.bool true) rfl) rfl <| RW.pp <| RW.pass rfl rfl <| RW.st (Ex.pickT (.bool true) rfl rfl) rfl <| RW.st (Ex.move (.bool true) rfl) rfl <| RW.pp <| RW.pp <| RW.st (Ex.pickT (.bool true) rfl rfl) rfl ?_
    refine RW.nil ?_
    exact And.intro rfl (And.intro (slc ⟨rfl, rfl, rfl, (congrArg Value.bool (decide_eq_true (.inr (.inl hc96))).symm), trivial⟩) hM)
   ·
    skip
    refine RW.st (Ex.move (.int .i64 v85.2) rfl) rfl <| RW.st (Ex.neq rfl rfl) rfl <| RW.st (Ex.pickF (.bool (decide (v85.2 ≠ 0))) rfl rfl) rfl <| RW.st (Ex.move (.bool (decide (v85.2 ≠ 0))) rfl) rfl ?_
    refine RW.split 55 (p := v85.2 ≠ 0) rfl (fun hc97 => ?_) (fun hc97 => ?_)
    ·
     skip
     refine RW.pp <| RW.pass rfl rfl <| RW.st (Ex.pickT (.bool true) rfl rfl) rfl <| RW.st (Ex.move (.bool true) rfl) rfl <| RW.pp <| RW.pp <| RW.st (Ex.pickT (.bool true) rfl rfl) rfl <| RW.nil ?_
     exact And.intro rfl (And.intro (slc ⟨rfl, rfl, rfl, (congrArg Value.bool (decide_eq_true (.inr (.inr (.inl hc97)))).symm), trivial⟩) hM)
    ·
     skip
     refine RW.st (Ex.fieldAddr fa45_0 rfl) rfl <| RW.st (Ex.load1 hM 0 to3 rfl rfl rfl) rfl <| RW.st (Ex.neq rfl rfl) rfl <| RW.st (Ex.pickF (.bool (decide (v85.1.Base ≠ 4))) rfl rfl) rfl <| RW.st (Ex.move (.bool (decide (v85.1.Base ≠ 4))) rfl) rfl ?_
     refine RW.split 60 (p := v85.1.Base ≠ 4) rfl (fun hc98 => ?_) (fun hc98 => ?_)
     ·
      skip
      refine RW.pp <| RW.pp <| RW.st (Ex.pickT (.bool true) rfl rfl) rfl <| RW.nil ?_
      exact And.intro rfl (And.intro (slc ⟨rfl, rfl, rfl, (congrArg Value.bool (decide_eq_true (.inr (.inr (.inr (.inl hc98))))).symm), trivial⟩) hM)
     ·
      skip
      refine RW.st (Ex.fieldAddr fa45_4 rfl) rfl <| RW.st (Ex.load1 hM 0 to43 rfl rfl rfl) rfl <| RW.st (Ex.lenN st43.1 rfl hn93) rfl <| RW.st (Ex.neq rfl rfl) rfl <| RW.st (Ex.pickF (.bool (decide ((v85.1.Writes.length : Int) ≠ 2))) rfl rfl) rfl <| RW.nil ?_
      exact And.intro rfl (And.intro (slc ⟨rfl, rfl, rfl, (congrArg Value.bool (decide_eq_decide.2 (imOr hc95 (imOr hc96 (imOr hc97 (imOr hc98 Iff.rfl)))))), trivial⟩) hM)
 rintro _ _ w ⟨rfl, ⟨τ, rfl⟩, hM⟩
 refine CW.cond_dec (p := (v70.2 ≠ 0) ∨ ((v79.2 ≠ 0) ∨ ((v85.2 ≠ 0) ∨ ((v85.1.Base ≠ 4) ∨ ((v85.1.Writes.length : Int) ≠ 2))))) rfl (fun hc99 => ?_) (fun hc99 => ?_)
 ·
  replace hm := And.left hm hc99
  refine CW.sr <| RW.st (Ex.assign (.bool false) rfl) rfl <| RW.nil <| CW.ret ?_
  refine tqr ?_
  refine end_tmp (.inl rfl) rfl (.bool false) rfl ?_
  exact ⟨_, _, (hM.pick [] rfl rfl), false, hm, rfl, rfl⟩
 ·
  replace hm := And.right hm hc99
  refine CW.skip <| CW.sr <| RW.st (Ex.move (.slice A73 n73 c73) rfl) rfl <| RW.st (Ex.build bs103 [(1, .int .i64 1)] [.int .i64 0, .int .i64 1] rfl rfl) rfl ?_
  refine RW.buildSlice hM st68 tz103 [(0, .agg #[.int .i64 0, .int .i64 1])] [.int .i64 0, .int .i64 1] (by decide) rfl rfl rfl (by decide) rfl rfl ?_; intro b103 w hM
  have hd104 : DtL H86 [.int .i64 0, .int .i64 1] ([(api_Extent.mk 0 1)] : List api_Extent) := (DtL.cons (c1 := [.int .i64 0, .int .i64 1]) rfl DtL.nil)
  obtain ⟨H105, hM, hle106, hF107⟩ := hM.giveF (α := api_Extent) 0 rfl hd104 rfl
  refine RW.buildSlice hM st30 tz68 [(0, .slice (some ⟨b103, 0, none⟩) 1 1)] [.slice (some ⟨b103, 0, none⟩) 1 1] (by decide) rfl rfl rfl (by decide) rfl rfl ?_; intro b108 w hM
  have hd109 : DtL H105 [.slice (some ⟨b103, 0, none⟩) 1 1] ([([(api_Extent.mk 0 1)] : List api_Extent)] : List (List api_Extent)) := (DtL.cons (c1 := [.slice (some ⟨b103, 0, none⟩) 1 1]) ⟨_, _, _, _, rfl, hF107⟩ DtL.nil)
  have hM1 := hM
  obtain ⟨H110, hM, hle111, hF112⟩ := hM.giveF (α := List api_Extent) 5 rfl (hd74.mono (((hle77.trans hle81).trans hle87).trans hle106)) hn75
  obtain ⟨H113, hM, hle114, hF115⟩ := hM.giveF (α := List api_Extent) 0 rfl (hd109.mono hle111) rfl
  refine RW.callB hM1 hM (ref47_SameExtents_lift v70.1 ([([(api_Extent.mk 0 1)] : List api_Extent)] : List (List api_Extent)) (hF112.mono hle114) hF115 hm) en16 rfl rfl rfl rfl ?_; clear hM hM1; intro v116 w hm hM
  refine RW.st (Ex.move (.bool v116) rfl) rfl ?_
  refine RW.split 71 (p := v116 = true) (bvar _) (fun hc119 => ?_) (fun hc119 => ?_)
  ·
   replace hm := And.left hm hc119
   refine RW.st (Ex.move (.slice A82 n82 c82) rfl) rfl <| RW.st (Ex.build bs103 [(1, .int .i64 1)] [.int .i64 0, .int .i64 1] rfl rfl) rfl <| RW.st (Ex.build bs103 [(0, .int .i64 2), (1, .int .i64 1)] [.int .i64 2, .int .i64 1] rfl rfl) rfl ?_
   refine RW.buildSlice hM st68 tz103 [(0, .agg #[.int .i64 0, .int .i64 1]), (1, .agg #[.int .i64 2, .int .i64 1])] [.int .i64 0, .int .i64 1, .int .i64 2, .int .i64 1] (by decide) rfl rfl rfl (by decide) rfl rfl ?_; intro b120 w hM
   have hd121 : DtL H105 [.int .i64 0, .int .i64 1, .int .i64 2, .int .i64 1] ([(api_Extent.mk 0 1), (api_Extent.mk 2 1)] : List api_Extent) := (DtL.cons (c1 := [.int .i64 0, .int .i64 1]) rfl (DtL.cons (c1 := [.int .i64 2, .int .i64 1]) rfl DtL.nil))
   obtain ⟨H122, hM, hle123, hF124⟩ := hM.giveF (α := api_Extent) 0 rfl hd121 rfl
   refine RW.buildSlice hM st30 tz68 [(0, .slice (some ⟨b120, 0, none⟩) 2 2)] [.slice (some ⟨b120, 0, none⟩) 2 2] (by decide) rfl rfl rfl (by decide) rfl rfl ?_; intro b125 w hM
   have hd126 : DtL H122 [.slice (some ⟨b120, 0, none⟩) 2 2] ([([(api_Extent.mk 0 1), (api_Extent.mk 2 1)] : List api_Extent)] : List (List api_Extent)) := (DtL.cons (c1 := [.slice (some ⟨b120, 0, none⟩) 2 2]) ⟨_, _, _, _, rfl, hF124⟩ DtL.nil)
   have hM1 := hM
   obtain ⟨H127, hM, hle128, hF129⟩ := hM.giveF (α := List api_Extent) 5 rfl (hd83.mono ((hle87.trans hle106).trans hle123)) hn84
   obtain ⟨H130, hM, hle131, hF132⟩ := hM.giveF (α := List api_Extent) 0 rfl (hd126.mono hle128) rfl
   refine RW.callB hM1 hM (ref47_SameExtents_lift v79.1 ([([(api_Extent.mk 0 1), (api_Extent.mk 2 1)] : List api_Extent)] : List (List api_Extent)) (hF129.mono hle131) hF132 hm) en16 rfl rfl rfl rfl ?_; clear hM hM1; intro v133 w hm hM
   refine RW.st (Ex.pickT (.bool v133) rfl rfl) rfl <| RW.st (Ex.move (.bool v133) rfl) rfl ?_
   refine RW.split 79 (p := v133 = true) (bvar _) (fun hc136 => ?_) (fun hc136 => ?_)
   ·
    replace hm := And.left hm hc136
    refine RW.st (Ex.fieldAddr fa45_4 rfl) rfl <| RW.st (Ex.load1 hM 2 to43 rfl rfl rfl) rfl ?_
    obtain ⟨hg137, hm⟩ := hm
    refine RW.st (Ex.index st43 rfl rfl ((0 : Int).toNat) (hM.rowNeD (α := api_Write) (p := 4) rfl hn93 hg137) hg137.nat (Nat.lt_of_lt_of_eq hg137.lt (hn93).symm)) rfl <| RW.st (Ex.fieldE fa100_2 (hM.rowNeD (α := api_Write) (p := 4) rfl hn93 hg137) rfl) rfl ?_
    obtain ⟨_, ⟨A138, n138, c138, s138, rfl, hF138⟩, hx139⟩ := DtL.getI (α := api_Write) (hd92.mono (hle106.trans hle123)) hg137
    refine RW.st (Ex.loadR hM 4 rfl to61 (hM.rowNeD (α := api_Write) (p := 4) rfl hn93 hg137) rfl (hx139 2 _ rfl)) rfl ?_
    obtain ⟨hg140, hm⟩ := hm
    refine RW.st (Ex.index st61 rfl rfl ((0 : Int).toNat) (hF138.ne hg140) hg140.nat (hF138.lt hg140)) rfl ?_
    obtain ⟨_, rfl, hx141⟩ := DtL.getI (α := Sec) hF138.dat hg140
    refine RW.st (Ex.loadEA hM (Hp.le.refl _) hF138.rdc [u8 (ix ((ix v85.1.Writes 0).Data) 0).b0, u8 (ix ((ix v85.1.Writes 0).Data) 0).b1, u8 (ix ((ix v85.1.Writes 0).Data) 0).b2, u8 (ix ((ix v85.1.Writes 0).Data) 0).b3, u8 (ix ((ix v85.1.Writes 0).Data) 0).b4, u8 (ix ((ix v85.1.Writes 0).Data) 0).b5, u8 (ix ((ix v85.1.Writes 0).Data) 0).b6, u8 (ix ((ix v85.1.Writes 0).Data) 0).b7] ta71 rfl (hF138.ne hg140) rfl (chunk_sub (off := 0) (n := 8) hx141 rfl)) rfl <| RW.st (Ex.buildA ba71 [(0, .int .u8 (1))] [.int .u8 (1), .int .u8 (0), .int .u8 (0), .int .u8 (0), .int .u8 (0), .int .u8 (0), .int .u8 (0), .int .u8 (0)] rfl rfl) rfl <| RW.st (Ex.eqlX (a := (ix ((ix v85.1.Writes 0).Data) 0)) (b := (Sec.mk (1#8) (0#8) (0#8) (0#8) (0#8) (0#8) (0#8) (0#8))) sx71 rfl rfl) rfl <| RW.st (Ex.pickT (.bool (decide ((ix ((ix v85.1.Writes 0).Data) 0) = (Sec.mk (1#8) (0#8) (0#8) (0#8) (0#8) (0#8) (0#8) (0#8))))) rfl rfl) rfl ?_
    refine RW.st (Ex.move (.bool (decide ((ix ((ix v85.1.Writes 0).Data) 0) = (Sec.mk (1#8) (0#8) (0#8) (0#8) (0#8) (0#8) (0#8) (0#8))))) rfl) rfl ?_
    refine RW.split 90 (p := (ix ((ix v85.1.Writes 0).Data) 0) = (Sec.mk (1#8) (0#8) (0#8) (0#8) (0#8) (0#8) (0#8) (0#8))) rfl (fun hc142 => ?_) (fun hc142 => ?_)
    ·
     replace hm := And.left hm hc142
     refine RW.st (Ex.fieldAddr fa45_4 rfl) rfl <| RW.st (Ex.load1 hM 2 to43 rfl rfl rfl) rfl ?_
     obtain ⟨hg143, hm⟩ := hm
     refine RW.st (Ex.index st43 rfl rfl ((1 : Int).toNat) (hM.rowNeD (α := api_Write) (p := 4) rfl hn93 hg143) hg143.nat (Nat.lt_of_lt_of_eq hg143.lt (hn93).symm)) rfl <| RW.st (Ex.fieldE fa100_2 (hM.rowNeD (α := api_Write) (p := 4) rfl hn93 hg143) rfl) rfl ?_
     obtain ⟨_, ⟨A144, n144, c144, s144, rfl, hF144⟩, hx145⟩ := DtL.getI (α := api_Write) (hd92.mono (hle106.trans hle123)) hg143
     refine RW.st (Ex.loadR hM 4 rfl to61 (hM.rowNeD (α := api_Write) (p := 4) rfl hn93 hg143) rfl (hx145 2 _ rfl)) rfl ?_
     obtain ⟨hg146, hm⟩ := hm
     refine RW.st (Ex.index st61 rfl rfl ((0 : Int).toNat) (hF144.ne hg146) hg146.nat (hF144.lt hg146)) rfl ?_
     obtain ⟨_, rfl, hx147⟩ := DtL.getI (α := Sec) hF144.dat hg146
     refine RW.st (Ex.loadEA hM (Hp.le.refl _) hF144.rdc [u8 (ix ((ix v85.1.Writes 1).Data) 0).b0, u8 (ix ((ix v85.1.Writes 1).Data) 0).b1, u8 (ix ((ix v85.1.Writes 1).Data) 0).b2, u8 (ix ((ix v85.1.Writes 1).Data) 0).b3, u8 (ix ((ix v85.1.Writes 1).Data) 0).b4, u8 (ix ((ix v85.1.Writes 1).Data) 0).b5, u8 (ix ((ix v85.1.Writes 1).Data) 0).b6, u8 (ix ((ix v85.1.Writes 1).Data) 0).b7] ta71 rfl (hF144.ne hg146) rfl (chunk_sub (off := 0) (n := 8) hx147 rfl)) rfl <| RW.st (Ex.buildA ba71 [(0, .int .u8 (9))] [.int .u8 (9), .int .u8 (0), .int .u8 (0), .int .u8 (0), .int .u8 (0), .int .u8 (0), .int .u8 (0), .int .u8 (0)] rfl rfl) rfl <| RW.st (Ex.eqlX (a := (ix ((ix v85.1.Writes 1).Data) 0)) (b := (Sec.mk (9#8) (0#8) (0#8) (0#8) (0#8) (0#8) (0#8) (0#8))) sx71 rfl rfl) rfl <| RW.st (Ex.pickT (.bool (decide ((ix ((ix v85.1.Writes 1).Data) 0) = (Sec.mk (9#8) (0#8) (0#8) (0#8) (0#8) (0#8) (0#8) (0#8))))) rfl rfl) rfl ?_
     refine RW.st (Ex.assign (.bool (decide ((ix ((ix v85.1.Writes 1).Data) 0) = (Sec.mk (9#8) (0#8) (0#8) (0#8) (0#8) (0#8) (0#8) (0#8))))) rfl) rfl <| RW.nil <| CW.ret ?_
     refine end_tmp (.inl rfl) rfl (.bool (decide ((ix ((ix v85.1.Writes 1).Data) 0) = (Sec.mk (9#8) (0#8) (0#8) (0#8) (0#8) (0#8) (0#8) (0#8))))) rfl ?_
     exact ⟨_, _, (hM.pick [] rfl rfl), decide ((ix ((ix v85.1.Writes 1).Data) 0) = (Sec.mk (9#8) (0#8) (0#8) (0#8) (0#8) (0#8) (0#8) (0#8))), hm, rfl, rfl⟩
    ·
     replace hm := And.right hm hc142
     refine RW.pp <| RW.pp <| RW.pp <| RW.pp <| RW.pass rfl rfl <| RW.st (Ex.pickF (.bool false) rfl rfl) rfl <| RW.st (Ex.assign (.bool false) rfl) rfl <| RW.nil <| CW.ret ?_
     refine end_tmp (.inl rfl) rfl (.bool false) rfl ?_
     exact ⟨_, _, (hM.pick [] rfl rfl), false, hm, rfl, rfl⟩
   ·
    replace hm := And.right hm hc136
    refine RW.pp <| RW.pp <| RW.pp <| RW.pp <| RW.pass rfl rfl <| RW.st (Ex.pickF (.bool false) rfl rfl) rfl <| RW.st (Ex.move (.bool false) rfl) rfl <| RW.pp <| RW.pass rfl rfl ?_
    refine RW.pp <| RW.pp <| RW.pp <| RW.st (Ex.pickF (.bool false) rfl rfl) rfl <| RW.st (Ex.assign (.bool false) rfl) rfl <| RW.nil <| CW.ret ?_
    refine end_tmp (.inl rfl) rfl (.bool false) rfl ?_
    exact ⟨_, _, (hM.pick [] rfl rfl), false, hm, rfl, rfl⟩
  ·
   replace hm := And.right hm hc119
   refine RW.pp <| RW.pp <| RW.pp <| RW.st (Ex.pickF (.bool false) rfl rfl) rfl <| RW.st (Ex.move (.bool false) rfl) rfl <| RW.pp <| RW.pp <| RW.pass rfl rfl <| RW.pass rfl rfl ?_
   refine RW.pp <| RW.pass rfl rfl <| RW.st (Ex.pickF (.bool false) rfl rfl) rfl <| RW.st (Ex.move (.bool false) rfl) rfl <| RW.pp <| RW.pp <| RW.pp <| RW.pp <| RW.pass rfl rfl ?_
   refine RW.st (Ex.pickF (.bool false) rfl rfl) rfl <| RW.st (Ex.assign (.bool false) rfl) rfl <| RW.nil <| CW.ret ?_
   refine end_tmp (.inl rfl) rfl (.bool false) rfl ?_
   exact ⟨_, _, (hM.pick [] rfl rfl), false, hm, rfl, rfl⟩
theorem law47_ReverseTurns_lift {H : Hp} (hT : TabH H 0) (x0 : api_Tracker) (x1 : standbylaw47_Peer) (x2 : List (List api_Extent)) {A1 : Option Addr} {n1 c1 : Nat} {s1 : List Value} (hF1 : Fz (α := Int) H A1 n1 c1 x0.Sizes s1) {A2 : Option Addr} {n2 c2 : Nat} {s2 : List Value} (hF2 : Fz (α := api_Peer) H A2 n2 c2 x0.Peers s2) {A3 : Option Addr} {n3 c3 : Nat} {s3 : List Value} (hF3 : Fz (α := List api_Extent) H A3 n3 c3 x2 s3) {Φ : Bool → Prop} (hm : law47_ReverseTurns_W x0 x1 x2 Φ) : RetP Tryd.prog 9 #[.agg #[.slice A1 n1 c1, .slice A2 n2 c2], .agg #[.int .i64 x1.Site, .int .i64 x1.Common], .slice A3 n3 c3] H (fun _ v L => ∃ y, Φ y ∧ v = .bool y ∧ L = []) := by
 refine RetP.of_code Tryd.func9 rfl (nb rfl) fun w0 hM => ?_
 refine CW.sr ?_
 refine RW.box hM (.agg #[.slice A1 n1 c1, .slice A2 n2 c2]) [.slice A1 n1 c1, .slice A2 n2 c2] rfl rfl rfl rfl ?_; intro b4 w hM
 refine RW.box hM (.agg #[.int .i64 x1.Site, .int .i64 x1.Common]) [.int .i64 x1.Site, .int .i64 x1.Common] rfl rfl rfl rfl ?_; intro b5 w hM
 refine RW.st (Ex.assign (.bool false) rfl) rfl <| RW.nil ?_
 refine CW.cut (fun D σ w => D = [] ∧ ∃ Hk6, H.le Hk6 ∧ (∃ τ, σ = sl [(2, .slice A3 n3 c3), (3, .pointer (some ⟨b4, 0, none⟩)), (4, .pointer (some ⟨b5, 0, none⟩))] τ) ∧ Mem w0 H w Hk6 [.box b4 85 [.slice A1 n1 c1, .slice A2 n2 c2], .box b5 87 [.int .i64 x1.Site, .int .i64 x1.Common]] ∧ law47_ReverseTurns_J1 x0 x1 x2 Φ) ?_ ?_
 ·
  refine CW.sr <| RW.st (Ex.loadA hM 1 [.slice A1 n1 c1, .slice A2 n2 c2] ta85 rfl rfl rfl rfl) rfl ?_
  refine RW.callP hM (ref43_Few_lift x0 hF1 hF2 hm) en33 rfl rfl rfl rfl ?_; rintro _ w H74 _ hle75 ⟨v73, hm, rfl, rfl⟩ hM
  refine RW.st (Ex.not (p := v73 = true) (bvar _)) rfl <| RW.st (Ex.move (.bool (decide (¬ (v73 = true)))) rfl) rfl ?_
  refine RW.split 15 (p := ¬ (v73 = true)) rfl (fun hc76 => ?_) (fun hc76 => ?_)
  ·
   replace hm := And.left hm hc76
   refine RW.pp <| RW.pass rfl rfl <| RW.st (Ex.pickT (.bool true) rfl rfl) rfl <| RW.nil <| CW.cond_true rfl <| CW.sr ?_
   refine RW.callP hM (law47_awake_lift (hT.mono hle75) hm) en11 rfl rfl rfl rfl ?_; rintro _ w H78 _ hle79 ⟨v77, hm, rfl, rfl⟩ hM
   refine RW.st (Ex.assign (.bool v77) rfl) rfl <| RW.nil <| CW.ret ?_
   refine tqr ?_
   refine end_tmp (.inl rfl) rfl (.bool v77) rfl ?_
   exact ⟨_, _, (hM.pick [] rfl rfl), v77, hm, rfl, rfl⟩
  ·
   replace hm := And.right hm hc76
   refine RW.st (Ex.move (.slice A3 n3 c3) rfl) rfl <| RW.st (Ex.lenN st30.1 rfl hF3.hn) rfl <| RW.st (Ex.gtr rfl rfl) rfl <| RW.st (Ex.pickF (.bool (decide (10 < (x2.length : Int)))) rfl rfl) rfl <| RW.nil ?_
   refine CW.cond_dec (p := 10 < (x2.length : Int)) rfl (fun hc80 => ?_) (fun hc80 => ?_)
   ·
    replace hm := And.left hm hc80
    refine CW.sr ?_
    refine RW.callP hM (law47_awake_lift (hT.mono hle75) hm) en11 rfl rfl rfl rfl ?_; rintro _ w H82 _ hle83 ⟨v81, hm, rfl, rfl⟩ hM
    refine RW.st (Ex.assign (.bool v81) rfl) rfl <| RW.nil <| CW.ret ?_
    refine tqr ?_
    refine end_tmp (.inl rfl) rfl (.bool v81) rfl ?_
    exact ⟨_, _, (hM.pick [] rfl rfl), v81, hm, rfl, rfl⟩
   ·
    replace hm := And.right hm hc80
    refine CW.skip ?_
    exact And.intro rfl ⟨H74, hle75, slc ⟨rfl, rfl, rfl, trivial⟩, (hM.pick [1, 0] rfl rfl), hm⟩
 rintro _ _ w ⟨rfl, Hk6, hle7, ⟨τ, rfl⟩, hM, hm⟩
 refine CW.seq <| CW.sr <| RW.st (Ex.assign (.int .i64 0) rfl) rfl <| RW.nil <| CW.block ?_
 obtain ⟨m65, hm⟩ := hm
 skip
 refine CW.loop (β := Nat) (fun n σ w => ∃ (v10 : Int), ∃ Hk8, Hk6.le Hk8 ∧ (∃ τ, σ = sl [(2, .slice A3 n3 c3), (3, .pointer (some ⟨b4, 0, none⟩)), (4, .pointer (some ⟨b5, 0, none⟩)), (7, .int .i64 v10)] τ) ∧ Mem w0 H w Hk8 [.box b4 85 [.slice A1 n1 c1, .slice A2 n2 c2], .box b5 87 [.int .i64 x1.Site, .int .i64 x1.Common]] ∧ LoopN (law47_ReverseTurns_L2 x0 x1 x2 Φ) n (v10)) (fun n => n) m65 ⟨0, Hk6, (Hp.le.refl _), slc ⟨rfl, rfl, rfl, rfl, trivial⟩, hM, hm⟩ ?_
 rintro k11 _ w ⟨v10, Hk8, hle9, ⟨τ, rfl⟩, hM, hm⟩
 obtain _ | k11 := k11
 · exact hm.elim
 replace hm : (law47_ReverseTurns_L2 x0 x1 x2 Φ) (v10) (LoopN (law47_ReverseTurns_L2 x0 x1 x2 Φ) k11) := hm
 generalize hrec12 : LoopN (law47_ReverseTurns_L2 x0 x1 x2 Φ) k11 = rec2 at hm
 refine CW.seq <| CW.sr <| RW.st (Ex.move (.int .i64 v10) rfl) rfl <| RW.st (Ex.move (.slice A3 n3 c3) rfl) rfl <| RW.st (Ex.lenN st30.1 rfl hF3.hn) rfl <| RW.st (Ex.lss rfl rfl) rfl <| RW.nil ?_
 refine CW.cond_dec (p := v10 < (x2.length : Int)) rfl (fun hc13 => ?_) (fun hc13 => ?_)
 ·
  replace hm := And.left hm hc13
  refine CW.skip <| CW.seq <| CW.block <| CW.sr <| RW.st (Ex.move (.slice A3 n3 c3) rfl) rfl <| RW.st (Ex.move (.int .i64 v10) rfl) rfl ?_
  obtain ⟨hg14, hm⟩ := hm
  refine RW.st (Ex.index st30 rfl rfl v10.toNat (hF3.ne hg14) hg14.nat (hF3.lt hg14)) rfl ?_
  obtain ⟨_, ⟨A15, n15, c15, s15, rfl, hF15⟩, hx16⟩ := DtL.getI (α := List api_Extent) (hF3.mono (hle7.trans hle9)).dat hg14
  refine RW.st (Ex.loadE hM (hle7.trans hle9) hF3.rdc to68 rfl (hx16 0 _ rfl)) rfl <| RW.st (Ex.lenN st68.1 rfl hF15.hn) rfl <| RW.st (Ex.gtr rfl rfl) rfl <| RW.nil ?_
  refine CW.cond_dec (p := 20 < ((ix x2 v10).length : Int)) rfl (fun hc17 => ?_) (fun hc17 => ?_)
  ·
   replace hm := And.left hm hc17
   refine CW.sr ?_
   refine RW.callP hM (law47_awake_lift (hT.mono (hle7.trans hle9)) hm) en11 rfl rfl rfl rfl ?_; rintro _ w H19 _ hle20 ⟨v18, hm, rfl, rfl⟩ hM
   refine RW.st (Ex.assign (.bool v18) rfl) rfl <| RW.nil <| CW.ret ?_
   refine bqr (tqr (tqr (bqr (tqr ?_))))
   refine end_tmp (.inl rfl) rfl (.bool v18) rfl ?_
   exact ⟨_, _, (hM.pick [] rfl rfl), v18, hm, rfl, rfl⟩
  ·
   replace hm := And.right hm hc17
   refine CW.skip <| CW.region <| RW.st (Ex.move (.int .i64 v10) rfl) rfl ?_
   obtain ⟨hg21, hm⟩ := hm
   refine RW.st (Ex.add rfl rfl hg21.1 hg21.2) rfl <| RW.st (Ex.assign (.int .i64 (v10 + 1)) rfl) rfl <| RW.nil ?_
   exact And.intro rfl ⟨k11, ⟨v10 + 1, Hk8, hle9.trans (Hp.le.refl _), slc ⟨rfl, rfl, rfl, rfl, trivial⟩, hM, (by rw [hrec12]; exact hm)⟩, Nat.lt_succ_self _⟩
 ·
  replace hm := And.right hm hc13
  refine CW.exit ?_
  refine CW.sr <| RW.st (Ex.loadA hM 0 [.slice A1 n1 c1, .slice A2 n2 c2] ta85 rfl rfl rfl rfl) rfl <| RW.st (Ex.fieldAddr fa87_0 rfl) rfl <| RW.st (Ex.load1 hM 1 to3 rfl rfl rfl) rfl <| RW.st (Ex.fieldAddr fa87_1 rfl) rfl <| RW.st (Ex.load1 hM 1 to3 rfl rfl rfl) rfl <| RW.st (Ex.move (.slice A3 n3 c3) rfl) rfl ?_
  refine RW.callP hM (reverse_Turn_lift x0 x1.Site x1.Common x2 (hF1.mono (hle7.trans hle9)) (hF2.mono (hle7.trans hle9)) (hF3.mono (hle7.trans hle9)) hm) en34 rfl rfl rfl rfl ?_; rintro _ w H23 _ hle24 ⟨v22, hm, A25, n25, c25, s25, A26, n26, c26, s26, rfl, hd27, hn28, hd29, hn30, rfl⟩ hM
  refine RW.st (Ex.move (.tuple #[.agg #[.slice A25 n25 c25, .slice A26 n26 c26], .int .i64 v22.2]) rfl) rfl <| RW.st (Ex.extract rfl rfl) rfl <| RW.st (Ex.extract rfl rfl) rfl ?_
  refine RW.alloc hM tz85 [.slice none 0 0, .slice none 0 0] rfl rfl rfl ?_; intro b31 w hM
  refine RW.store hM 0 (.agg #[.slice A25 n25 c25, .slice A26 n26 c26]) [.slice A25 n25 c25, .slice A26 n26 c26] [.slice A25 n25 c25, .slice A26 n26 c26] sz85 rfl rfl rfl (oneAll ⟨rfl, rfl, trivial⟩) rfl (nb rfl) rfl [.box b31 85 [.slice A25 n25 c25, .slice A26 n26 c26], .row (.slice A25 n25 c25) 3 1 n25 s25, .row (.slice A26 n26 c26) 142 3 n26 s26, .box b4 85 [.slice A1 n1 c1, .slice A2 n2 c2], .box b5 87 [.int .i64 x1.Site, .int .i64 x1.Common]] rfl rfl rfl ?_; intro w hM
  refine RW.st (Ex.assign (.int .i64 v22.2) rfl) rfl <| RW.nil <| CW.sr <| RW.st (Ex.loadA hM 3 [.slice A1 n1 c1, .slice A2 n2 c2] ta85 rfl rfl rfl rfl) rfl <| RW.st (Ex.fieldAddr fa87_0 rfl) rfl <| RW.st (Ex.load1 hM 4 to3 rfl rfl rfl) rfl <| RW.st (Ex.fieldAddr fa87_1 rfl) rfl <| RW.st (Ex.load1 hM 4 to3 rfl rfl rfl) rfl <| RW.st (Ex.move (.slice A3 n3 c3) rfl) rfl ?_
  refine RW.callP hM (ref47_Turn_lift x0 x1.Site x1.Common x2 (hF1.mono ((hle7.trans hle9).trans hle24)) (hF2.mono ((hle7.trans hle9).trans hle24)) (hF3.mono ((hle7.trans hle9).trans hle24)) hm) en35 rfl rfl rfl rfl ?_; rintro _ w H33 _ hle34 ⟨v32, hm, A35, n35, c35, s35, A36, n36, c36, s36, rfl, hd37, hn38, hd39, hn40, rfl⟩ hM
  refine RW.st (Ex.move (.tuple #[.agg #[.slice A35 n35 c35, .slice A36 n36 c36], .int .i64 v32.2]) rfl) rfl <| RW.st (Ex.extract rfl rfl) rfl <| RW.st (Ex.extract rfl rfl) rfl ?_
  refine RW.alloc hM tz85 [.slice none 0 0, .slice none 0 0] rfl rfl rfl ?_; intro b41 w hM
  refine RW.store hM 0 (.agg #[.slice A35 n35 c35, .slice A36 n36 c36]) [.slice A35 n35 c35, .slice A36 n36 c36] [.slice A35 n35 c35, .slice A36 n36 c36] sz85 rfl rfl rfl (oneAll ⟨rfl, rfl, trivial⟩) rfl (nb rfl) rfl [.box b41 85 [.slice A35 n35 c35, .slice A36 n36 c36], .row (.slice A35 n35 c35) 3 1 n35 s35, .row (.slice A36 n36 c36) 142 3 n36 s36, .box b31 85 [.slice A25 n25 c25, .slice A26 n26 c26], .row (.slice A25 n25 c25) 3 1 n25 s25, .row (.slice A26 n26 c26) 142 3 n26 s26, .box b4 85 [.slice A1 n1 c1, .slice A2 n2 c2], .box b5 87 [.int .i64 x1.Site, .int .i64 x1.Common]] rfl rfl rfl ?_; intro w hM
  refine RW.st (Ex.assign (.int .i64 v32.2) rfl) rfl <| RW.nil <| CW.sr ?_
  refine RW.callP hM (law47_awake_lift (hT.mono (((hle7.trans hle9).trans hle24).trans hle34)) hm) en11 rfl rfl rfl rfl ?_; rintro _ w H46 _ hle47 ⟨v45, hm, rfl, rfl⟩ hM
  refine RW.st (Ex.move (.bool v45) rfl) rfl ?_
  refine RW.split 55 (p := v45 = true) (bvar _) (fun hc48 => ?_) (fun hc48 => ?_)
  ·
   replace hm := And.left hm hc48
   refine RW.st (Ex.loadA hM 3 [.slice A25 n25 c25, .slice A26 n26 c26] ta85 rfl rfl rfl rfl) rfl <| RW.st (Ex.loadA hM 0 [.slice A35 n35 c35, .slice A36 n36 c36] ta85 rfl rfl rfl rfl) rfl ?_
   have hM1 := hM
   obtain ⟨H49, hM, hle50, hF51⟩ := hM.giveF (α := Int) 4 rfl (hd27.mono (hle34.trans hle47)) hn28
   obtain ⟨H52, hM, hle53, hF54⟩ := hM.giveF (α := api_Peer) 4 rfl (hd29.mono ((hle34.trans hle47).trans hle50)) hn30
   obtain ⟨H55, hM, hle56, hF57⟩ := hM.giveF (α := Int) 1 rfl (hd37.mono ((hle47.trans hle50).trans hle53)) hn38
   obtain ⟨H58, hM, hle59, hF60⟩ := hM.giveF (α := api_Peer) 1 rfl (hd39.mono (((hle47.trans hle50).trans hle53).trans hle56)) hn40
   refine RW.callB hM1 hM (ref43_Same_lift v22.1 v32.1 (hF51.mono ((hle53.trans hle56).trans hle59)) (hF54.mono (hle56.trans hle59)) (hF57.mono hle59) hF60 hm) en36 rfl rfl rfl rfl ?_; clear hM hM1; intro v61 w hm hM
   refine RW.st (Ex.pickT (.bool v61) rfl rfl) rfl <| RW.st (Ex.move (.bool v61) rfl) rfl ?_
   refine RW.split 60 (p := v61 = true) (bvar _) (fun hc64 => ?_) (fun hc64 => ?_)
   ·
    replace hm := And.left hm hc64
    refine RW.st (Ex.move (.int .i64 v22.2) rfl) rfl <| RW.st (Ex.move (.int .i64 v32.2) rfl) rfl <| RW.st (Ex.eql rfl rfl) rfl <| RW.st (Ex.pickT (.bool (decide (v22.2 = v32.2))) rfl rfl) rfl <| RW.st (Ex.assign (.bool (decide (v22.2 = v32.2))) rfl) rfl <| RW.nil <| CW.ret ?_
    refine end_tmp (.inl rfl) rfl (.bool (decide (v22.2 = v32.2))) rfl ?_
    exact ⟨_, _, (hM.pick [] rfl rfl), decide (v22.2 = v32.2), hm, rfl, rfl⟩
   ·
    replace hm := And.right hm hc64
    refine RW.pp <| RW.pass rfl rfl <| RW.st (Ex.pickF (.bool false) rfl rfl) rfl <| RW.st (Ex.assign (.bool false) rfl) rfl <| RW.nil <| CW.ret ?_
    refine end_tmp (.inl rfl) rfl (.bool false) rfl ?_
    exact ⟨_, _, (hM.pick [] rfl rfl), false, hm, rfl, rfl⟩
  ·
   replace hm := And.right hm hc48
   refine RW.pp <| RW.pass rfl rfl <| RW.st (Ex.pickF (.bool false) rfl rfl) rfl <| RW.st (Ex.move (.bool false) rfl) rfl <| RW.pp <| RW.pass rfl rfl <| RW.st (Ex.pickF (.bool false) rfl rfl) rfl <| RW.st (Ex.assign (.bool false) rfl) rfl <| RW.nil <| CW.ret ?_
   refine end_tmp (.inl rfl) rfl (.bool false) rfl ?_
   exact ⟨_, _, (hM.pick [] rfl rfl), false, hm, rfl, rfl⟩
section
theorem iI {x : Int} (h1 : -9223372036854775808 ≤ x) (h2 : x ≤ 9223372036854775807) : inI x := ⟨h1, h2⟩
theorem iX {i : Int} {n : Nat} (h1 : 0 ≤ i) (h2 : i < (n : Int)) : inX i n := ⟨h1, h2⟩
theorem iS {a b : Int} {n : Nat} (h1 : 0 ≤ a) (h2 : a ≤ b) (h3 : b ≤ (n : Int)) : inS a b n := ⟨h1, h2, h3⟩
theorem iL {n b : Nat} (h : n ≤ 1000000) (hb : b ≤ 1000000) : lenOk n b := by
  have := Nat.mul_le_mul h hb
  refine ⟨by omega, ?_⟩
  simp only [maxLen]
  omega
section
variable {α : Type} [Dt α]
theorem ix_get {xs : List α} {k : Nat} (h : k < xs.length) : ix xs (k : Int) = xs[k] := by
  show xs.getD k default = _
  rw [List.getD_eq_getElem?_getD, List.getElem?_eq_getElem h]; rfl
theorem take_ix {xs : List α} {k : Nat} (h : k < xs.length) : xs.take (k + 1) = xs.take k ++ [ix xs (k : Int)] := by
  rw [ix_get h]; exact (List.take_append_getElem h).symm
theorem ix_mem {xs : List α} {i : Int} (h : inX i xs.length) : ix xs i ∈ xs := by
  have e := h.nat
  have hl := h.lt
  rw [e, ix_get hl]
  exact List.getElem_mem hl
theorem ext_ix {xs ys : List α} (hl : xs.length = ys.length) (h : ∀ k : Nat, k < xs.length → ix xs (k : Int) = ix ys (k : Int)) : xs = ys := by
  apply List.ext_getElem hl
  intro k h1 h2
  have := h k h1
  rwa [ix_get h1, ix_get h2] at this
end
section
variable {A : Type}
theorem LoopW.up {step : Int → (Int → Prop) → Prop} (n : Nat) (Inv : Nat → Prop) (h : ∀ (k : Nat) rec, k ≤ n → Inv k → (k < n → Inv (k + 1) → rec ((k : Int) + 1)) → step (k : Int) rec) {k0 : Nat} {i0 : Int} (hi : i0 = (k0 : Int)) (hk : k0 ≤ n) (h0 : Inv k0) : LoopW step i0 := by
  subst hi
  refine LoopW.of_inv (fun i => ∃ k : Nat, i = (k : Int) ∧ k ≤ n ∧ Inv k) (fun i => n - i.toNat) ?_ ⟨k0, rfl, hk, h0⟩
  rintro _ rec ⟨k, rfl, hk, hI⟩ hrec
  refine h k rec hk hI fun hlt hI' => hrec _ ⟨k + 1, rfl, hlt, hI'⟩ ?_
  simp only [Int.toNat_natCast]
  omega
theorem LoopW.up2 {step : A × Int → (A × Int → Prop) → Prop} (n : Nat) (Inv : Nat → A → Prop) (h : ∀ (k : Nat) a rec, k ≤ n → Inv k a → (∀ a', k < n → Inv (k + 1) a' → rec (a', (k : Int) + 1)) → step (a, (k : Int)) rec) {a0 : A} {k0 : Nat} {i0 : Int} (hi : i0 = (k0 : Int)) (hk : k0 ≤ n) (h0 : Inv k0 a0) : LoopW step (a0, i0) := by
  subst hi
  refine LoopW.of_inv (fun s => ∃ k : Nat, s.2 = (k : Int) ∧ k ≤ n ∧ Inv k s.1) (fun s => n - s.2.toNat) ?_ ⟨k0, rfl, hk, h0⟩
  rintro ⟨a, _⟩ rec ⟨k, rfl, hk, hI⟩ hrec
  refine h k a rec hk hI fun a' hlt hI' => hrec (a', (k : Int) + 1) ⟨k + 1, rfl, hlt, hI'⟩ ?_
  simp only [Int.toNat_natCast]
  omega
theorem LoopW.upS {S : Type} {step : S → (S → Prop) → Prop} (n : Nat) (idx : S → Int) (Inv : Nat → S → Prop) (h : ∀ (k : Nat) s rec, k ≤ n → idx s = (k : Int) → Inv k s → (∀ s', k < n → idx s' = (k : Int) + 1 → Inv (k + 1) s' → rec s') → step s rec) {s0 : S} (k0 : Nat) (hi : idx s0 = (k0 : Int)) (hk : k0 ≤ n) (h0 : Inv k0 s0) : LoopW step s0 := by
  refine LoopW.of_inv (fun s => ∃ k : Nat, idx s = (k : Int) ∧ k ≤ n ∧ Inv k s) (fun s => n - (idx s).toNat) ?_ ⟨k0, hi, hk, h0⟩
  rintro s rec ⟨k, he, hk, hI⟩ hrec
  refine h k s rec hk he hI fun s' hlt he' hI' => hrec s' ⟨k + 1, by rw [he']; rfl, hlt, hI'⟩ ?_
  show n - (idx s').toNat < n - (idx s).toNat
  rw [he, he']
  omega
theorem LoopW.mapL {α β : Type} [Dt α] {step : List β × Int → (List β × Int → Prop) → Prop} (xs : List α) (f : α → β) (h : ∀ (k : Nat) (a : List β) rec, k < xs.length → a.length = k → a = (xs.take k).map f → rec (a ++ [f (ix xs (k : Int))], (k : Int) + 1) → step (a, (k : Int)) rec)
    (he : ∀ rec, step (xs.map f, (xs.length : Int)) rec) : LoopW step ([], 0) := by
  refine LoopW.up2 xs.length (fun k a => a = (xs.take k).map f) ?_ rfl (Nat.zero_le _) rfl
  intro k a rec hk hI hrec
  rcases Nat.lt_or_ge k xs.length with hlt | hge
  · refine h k a rec hlt (by rw [hI, List.length_map, List.length_take]; omega) hI (hrec _ hlt ?_)
    rw [take_ix hlt, List.map_append, hI]; rfl
  · have e : k = xs.length := by omega
    subst e
    rw [List.take_length] at hI
    rw [hI]; exact he rec
def firstN (f : Nat → Int) : Nat → Int
  | 0 => 0
  | n + 1 => if firstN f n ≠ 0 then firstN f n else f n
theorem firstN_hit {f : Nat → Int} : ∀ {n k : Nat}, k < n → (∀ j, j < k → f j = 0) → f k ≠ 0 → firstN f n = f k
  | 0, _, hk, _, _ => by omega
  | n + 1, k, hk, h0, h1 => by
    unfold firstN
    rcases Nat.lt_or_ge k n with h | h
    · rw [firstN_hit h h0 h1, if_pos h1]
    · have e : k = n := by omega
      subst e
      have : firstN f k = 0 := by
        clear h1 hk h
        induction k with
        | zero => rfl
        | succ k ih => unfold firstN; rw [ih fun j hj => h0 j (by omega), if_neg (by simp), h0 k (by omega)]
      rw [this, if_neg (by simp)]
theorem firstN_zero {f : Nat → Int} : ∀ {n : Nat}, firstN f n = 0 ↔ ∀ k, k < n → f k = 0
  | 0 => by simp [firstN]
  | n + 1 => by
    unfold firstN
    constructor
    · intro h k hk
      by_cases h1 : firstN f n ≠ 0
      · rw [if_pos h1] at h; exact absurd h h1
      · rw [if_neg h1] at h
        rcases Nat.lt_or_ge k n with hlt | hge
        · exact (firstN_zero.1 (Classical.not_not.1 h1)) k hlt
        · have : k = n := by omega
          subst this; exact h
    · intro h
      rw [if_neg (by rw [firstN_zero.2 fun k hk => h k (by omega)]; simp), h n (by omega)]
theorem LoopW.firstL {step : Int → (Int → Prop) → Prop} (n : Nat) (f : Nat → Int) {Φ : Int → Prop} (hΦ : Φ (firstN f n)) (h : ∀ (k : Nat) rec, k < n → (∀ j, j < k → f j = 0) → (f k ≠ 0 → Φ (f k)) → (f k = 0 → rec ((k : Int) + 1)) → step (k : Int) rec)
    (he : ∀ rec, Φ 0 → (∀ j, j < n → f j = 0) → step (n : Int) rec) : LoopW step 0 := by
  refine LoopW.up n (fun k => ∀ j, j < k → f j = 0) ?_ rfl (Nat.zero_le _) (fun j hj => absurd hj (Nat.not_lt_zero j))
  intro k rec hk hI hrec
  rcases Nat.lt_or_ge k n with hlt | hge
  · refine h k rec hlt hI (fun h1 => by rw [← firstN_hit hlt hI h1]; exact hΦ) fun h0 => hrec hlt fun j hj => ?_
    rcases Nat.lt_or_ge j k with h2 | h2
    · exact hI j h2
    · have : j = k := by omega
      subst this; exact h0
  · have e : k = n := by omega
    subst e
    exact he rec (by rw [firstN_zero.2 hI] at hΦ; exact hΦ) hI
def allN (p : Nat → Bool) (n : Nat) : Bool := (List.range n).all p
theorem allN_true {p : Nat → Bool} {n : Nat} : allN p n = true ↔ ∀ k, k < n → p k = true := by simp [allN]
end
end
theorem ofInt_mod (k : Nat) : ((BitVec.ofInt 64 ((k : Int) % 64)).toNat : Int).toNat = k % 64 := by
  rw [BitVec.toNat_ofInt]; omega
theorem bitw_prop {b : api_Bitmap} {k : Nat} : ((((ix b.Words ((k : Int) / 64)) >>> ((BitVec.ofInt 64 ((k : Int) % 64)).toNat : Int).toNat) &&& (1#64)) = (1#64)) ↔ bitN b.Words k = true := by
  rw [ofInt_mod, bit_shift]
  unfold bitN
  rw [show ix b.Words ((k : Int) / 64) = b.Words.getD (k / 64) 0#64 from by show b.Words.getD ((k : Int) / 64).toNat default = _; rw [show ((k : Int) / 64).toNat = k / 64 by omega]; rfl]
theorem ref02_bit_ok {b : api_Bitmap} {k : Nat} {Φ : Bool → Prop} (hl : b.Words.length ≤ 1000000) (hk : k < 64 * b.Words.length) (hΦ : Φ (bitN b.Words k)) : ref02_bit_W b (k : Int) Φ := by
  refine ⟨⟨by omega, iI (by omega) (by omega)⟩, iX (by omega) (by omega), by omega, ?_⟩
  have e : decide ((((ix b.Words ((k : Int) / 64)) >>> ((BitVec.ofInt 64 ((k : Int) % 64)).toNat : Int).toNat) &&& (1#64)) = (1#64)) = bitN b.Words k := by
    rw [Bool.eq_iff_iff, decide_eq_true_iff]; exact bitw_prop
  rw [e]; exact hΦ
def chkB (b : api_Bitmap) : Int := chk b.Size b.Words
theorem ref02_Check_ok {b : api_Bitmap} {Φ : Int → Prop} (hΦ : Φ (chkB b)) : ref02_Check_W b Φ := by
  refine ⟨fun h1 h2 => ⟨iI (by omega) (by omega), by omega, iI (by omega) (by omega)⟩, fun h => ?_, fun h => ?_⟩
  · unfold chkB at hΦ; rw [chk_bad (by omega)] at hΦ; exact hΦ
  · have hn : 0 ≤ b.Size ∧ b.Size ≤ 4096 ∧ (b.Words.length : Int) = (b.Size + 63) / 64 := by omega
    refine LoopW.up (64 * b.Words.length) (fun k => b.Size ≤ (k : Int) ∧ ∀ i : Nat, b.Size ≤ (i : Int) → i < k → bitN b.Words i = false) ?_ (k0 := b.Size.toNat) (by omega) (by omega) ⟨by omega, fun i h1 h2 => by omega⟩
    intro k rec hk hz hrec
    refine ⟨iI (by omega) (by omega), fun hlt => ref02_bit_ok (by omega) (by omega) ⟨fun hb => ?_, fun hb => ⟨iI (by omega) (by omega), hrec (by omega) ⟨by omega, zstep hz.2 hb⟩⟩⟩, fun hge => ?_⟩
    · unfold chkB at hΦ; rw [chk_set (show k < 64 * b.Words.length by omega) hz.1 hb] at hΦ; exact hΦ
    · unfold chkB at hΦ; rw [chk_ok hn.1 hn.2.1 hn.2.2 fun i h1 h2 => hz.2 i h2 (by omega)] at hΦ; exact hΦ
theorem bitmap_Check_ok {b : api_Bitmap} {Φ : Int → Prop} (hΦ : Φ (chkB b)) : bitmap_Check_W b Φ := by
  unfold chkB at hΦ
  refine ⟨fun h => ?_, fun h1 => ⟨fun h2 => ?_, fun h2 => ⟨(b.Size + 64 - 1) / 64, ⟨iI (by omega) (by omega), iI (by omega) (by omega), ⟨by omega, iI (by omega) (by omega)⟩, rfl⟩, fun h3 => ?_, fun h3 => ?_⟩⟩⟩
  · rw [chk_bad (by omega)] at hΦ; exact hΦ
  · rw [chk_bad (by omega)] at hΦ; exact hΦ
  · rw [chk_bad (by omega)] at hΦ; exact hΦ
  · have e : ∀ h : 0 < b.Size % 64, ix b.Words ((b.Words.length : Int) - 1) = b.Words.getD (b.Words.length - 1) 0#64 := fun h => by
      show b.Words.getD ((b.Words.length : Int) - 1).toNat default = _
      rw [show ((b.Words.length : Int) - 1).toNat = b.Words.length - 1 by omega]; rfl
    refine ⟨by omega, fun h4 => ⟨iI (by omega) (by omega), iX (by omega) (by omega), by omega⟩, fun h4 => ?_, fun h4 => ?_⟩
    · rw [e h4.1] at h4
      rw [chk_top (by omega) (by omega) (by omega) h4.1 h4.2] at hΦ; exact hΦ
    · rw [chk_top_ok (by omega) (by omega) (by omega) fun h5 => by rw [e h5] at h4; exact Classical.not_not.1 fun h6 => h4 ⟨h5, h6⟩] at hΦ; exact hΦ
theorem chkB_len {b : api_Bitmap} (h : ¬ chkB b ≠ 0) : 0 ≤ b.Size ∧ b.Size ≤ 4096 ∧ (b.Words.length : Int) = (b.Size + 63) / 64 := wf_len (Classical.not_not.1 h)
def toX (e : Int × Int) : api_Extent := ⟨e.1, e.2⟩
def exts (b : api_Bitmap) : List api_Extent := (extR b.Size b.Words).map toX
theorem ix_toX (es : List (Int × Int)) (k : Nat) : ix (es.map toX) (k : Int) = toX (es.getD k (0, 0)) := by
  show (es.map toX).getD k default = _
  rw [List.getD_eq_getElem?_getD, List.getD_eq_getElem?_getD, List.getElem?_map]
  cases es[k]? <;> rfl
theorem exts_len (b : api_Bitmap) : (exts b).length ≤ 4096 := by
  unfold exts extR
  rw [List.length_map]
  split
  · exact Nat.zero_le _
  · rename_i h
    have := (extsK_facts b.Words b.Size.toNat).2
    have := wf_len (Classical.not_not.1 h)
    omega
theorem bit_zip (op : BitVec 64 → BitVec 64 → BitVec 64) (f : Bool → Bool → Bool) (hf : ∀ a b j, j < 64 → (op a b).getLsbD j = f (a.getLsbD j) (b.getLsbD j)) {ws vs : List (BitVec 64)} (hl : ws.length = vs.length) {i : Nat} (hi : i < 64 * ws.length) : bitN (List.zipWith op ws vs) i = f (bitN ws i) (bitN vs i) := by
  have h1 : i / 64 < ws.length := by omega
  have h2 : i / 64 < vs.length := by omega
  unfold bitN
  rw [List.getD_eq_getElem?_getD, zip_get h1 h2, Option.getD_some, hf _ _ _ (Nat.mod_lt _ (by decide))]
theorem bit_or {ws vs : List (BitVec 64)} (hl : ws.length = vs.length) {i : Nat} (hi : i < 64 * ws.length) : bitN (List.zipWith (fun a b => a ||| b) ws vs) i = (bitN ws i || bitN vs i) := bit_zip _ (· || ·) (fun _ _ _ _ => BitVec.getLsbD_or) hl hi
theorem chk_iff {n : Int} {ws : List (BitVec 64)} : chk n ws = 0 ↔ 0 ≤ n ∧ n ≤ 4096 ∧ (ws.length : Int) = (n + 63) / 64 ∧ ∀ i : Nat, i < 64 * ws.length → n ≤ (i : Int) → bitN ws i = false :=
  ⟨fun h => wfB_iff.1 (chk_zero h), fun ⟨h1, h2, h3, h4⟩ => chk_ok h1 h2 h3 h4⟩
theorem chk_zip {op : BitVec 64 → BitVec 64 → BitVec 64} (f : Bool → Bool → Bool) (h0 : f false false = false) (hf : ∀ a b j, j < 64 → (op a b).getLsbD j = f (a.getLsbD j) (b.getLsbD j)) {n : Int} {ws vs : List (BitVec 64)} (h1 : chk n ws = 0) (h2 : chk n vs = 0) : chk n (List.zipWith op ws vs) = 0 := by
  obtain ⟨a1, a2, a3, a4⟩ := chk_iff.1 h1
  obtain ⟨_, _, b3, b4⟩ := chk_iff.1 h2
  have hl : ws.length = vs.length := by omega
  have hz : (List.zipWith op ws vs).length = ws.length := by rw [List.length_zipWith]; omega
  refine chk_iff.2 ⟨a1, a2, by rw [hz]; exact a3, fun i hi hn => ?_⟩
  rw [hz] at hi
  rw [bit_zip op f hf hl hi, a4 i hi hn, b4 i (by omega) hn, h0]
def cov (es : List (Int × Int)) (i : Int) : Prop := ∃ e ∈ es, e.1 ≤ i ∧ i < e.1 + e.2
structure ExOk (es : List (Int × Int)) (k : Int) : Prop where
  each : ∀ e ∈ es, 0 ≤ e.1 ∧ 1 ≤ e.2 ∧ e.1 + e.2 ≤ k
  apart : es.Pairwise fun a b => a.1 + a.2 < b.1
theorem snoc_cases {α : Type} (l : List α) : l = [] ∨ ∃ p x, l = p ++ [x] := by
  rcases List.eq_nil_or_concat l with h | ⟨p, x, h⟩
  · exact .inl h
  · exact .inr ⟨p, x, by simpa using h⟩
theorem addX_snoc (p : List (Int × Int)) (l : Int × Int) (i : Int) : addX (p ++ [l]) i = if l.1 + l.2 = i then p ++ [(l.1, l.2 + 1)] else p ++ [l] ++ [(i, 1)] := by
  have hg : (p ++ [l]).getD ((p ++ [l]).length - 1) (0, 0) = l := by simp
  by_cases h : l.1 + l.2 = i
  · rw [if_pos h, addX_join ⟨by simp, by rw [hg]; exact h⟩]
    unfold bumpE
    rw [hg]
    simp
  · rw [if_neg h, addX_new (fun hj => h (by have := hj.2; rw [hg] at this; exact this))]
theorem addX_nil (i : Int) : addX [] i = [(i, 1)] := (addX_new (fun hj => by have := hj.1; simp at this)).trans rfl
theorem exOk_add {es : List (Int × Int)} {i : Int} (h : ExOk es i) (h0 : 0 ≤ i) : ExOk (addX es i) (i + 1) ∧ ∀ j, cov (addX es i) j ↔ cov es j ∨ j = i := by
  rcases snoc_cases es with rfl | ⟨p, l, rfl⟩
  · rw [addX_nil]
    refine ⟨⟨fun e he => ?_, List.pairwise_singleton _ _⟩, fun j => ?_⟩
    · obtain rfl := List.mem_singleton.1 he
      exact ⟨h0, Int.le_refl _, Int.le_refl _⟩
    · unfold cov; simp; omega
  · rw [addX_snoc]
    obtain ⟨h1, h2⟩ := h
    have hl := h1 l (by simp)
    rw [List.pairwise_append] at h2
    obtain ⟨h3, _, h4⟩ := h2
    by_cases hj : l.1 + l.2 = i
    · rw [if_pos hj]
      refine ⟨⟨fun e he => ?_, ?_⟩, fun j => ?_⟩
      · rcases List.mem_append.1 he with he | he
        · have := h1 e (by simp [he]); omega
        · obtain rfl := List.mem_singleton.1 he
          exact ⟨hl.1, by show 1 ≤ l.2 + 1; omega, by show l.1 + (l.2 + 1) ≤ i + 1; omega⟩
      · exact List.pairwise_append.2 ⟨h3, List.pairwise_singleton _ _, fun a ha b hb => by
          obtain rfl := List.mem_singleton.1 hb
          exact h4 a ha l (by simp)⟩
      · constructor
        · rintro ⟨e, he, h5, h6⟩
          rcases List.mem_append.1 he with he | he
          · exact .inl ⟨e, by simp [he], h5, h6⟩
          · obtain rfl := List.mem_singleton.1 he
            have h6' : j < l.1 + (l.2 + 1) := h6
            by_cases hji : j = i
            · exact .inr hji
            · exact .inl ⟨l, by simp, h5, by omega⟩
        · rintro (⟨e, he, h5, h6⟩ | rfl)
          · rcases List.mem_append.1 he with he | he
            · exact ⟨e, by simp [he], h5, h6⟩
            · obtain rfl := List.mem_singleton.1 he
              exact ⟨(e.1, e.2 + 1), by simp, h5, by show j < e.1 + (e.2 + 1); omega⟩
          · exact ⟨(l.1, l.2 + 1), by simp, by show l.1 ≤ j; omega, by show j < l.1 + (l.2 + 1); omega⟩
    · rw [if_neg hj]
      refine ⟨⟨fun e he => ?_, ?_⟩, fun j => ?_⟩
      · rcases List.mem_append.1 he with he | he
        · have := h1 e he; omega
        · obtain rfl := List.mem_singleton.1 he
          exact ⟨h0, Int.le_refl _, Int.le_refl _⟩
      · refine List.pairwise_append.2 ⟨List.pairwise_append.2 ⟨h3, List.pairwise_singleton _ _, h4⟩, List.pairwise_singleton _ _, fun a ha b hb => ?_⟩
        obtain rfl := List.mem_singleton.1 hb
        show a.1 + a.2 < i
        rcases List.mem_append.1 ha with ha | ha
        · have := h4 a ha l (by simp); omega
        · obtain rfl := List.mem_singleton.1 ha; omega
      · constructor
        · rintro ⟨e, he, h5, h6⟩
          rcases List.mem_append.1 he with he | he
          · exact .inl ⟨e, he, h5, h6⟩
          · obtain rfl := List.mem_singleton.1 he
            have h5' : i ≤ j := h5
            have h6' : j < i + 1 := h6
            exact .inr (by omega)
        · rintro (⟨e, he, h5, h6⟩ | rfl)
          · exact ⟨e, by simp only [List.mem_append]; exact .inl (List.mem_append.1 he), h5, h6⟩
          · exact ⟨(j, 1), by simp, Int.le_refl _, by show j < j + 1; omega⟩
theorem exOk_mono {es : List (Int × Int)} {a b : Int} (h : ExOk es a) (hab : a ≤ b) : ExOk es b := ⟨fun e he => by have := h.each e he; omega, h.apart⟩
theorem extsK_ok (ws : List (BitVec 64)) : ∀ k : Nat, ExOk (extsK ws k) (k : Int) ∧ ∀ j : Nat, cov (extsK ws k) (j : Int) ↔ j < k ∧ bitN ws j = true
  | 0 => ⟨⟨fun e he => by simp [extsK, extsOf] at he, by simp [extsK, extsOf]⟩, fun j => by simp [cov, extsK, extsOf]⟩
  | k + 1 => by
    obtain ⟨h1, h2⟩ := extsK_ok ws k
    by_cases hb : bitN ws k = true
    · obtain ⟨h3, h4⟩ := exOk_add h1 (by omega)
      rw [extsK_yes hb]
      refine ⟨by simpa using h3, fun j => ?_⟩
      rw [h4, h2]
      constructor
      · rintro (h | h)
        · exact ⟨by omega, h.2⟩
        · have : j = k := by omega
          subst this; exact ⟨by omega, hb⟩
      · rintro ⟨h5, h6⟩
        by_cases hjk : j = k
        · exact .inr (by omega)
        · exact .inl ⟨by omega, h6⟩
    · rw [extsK_no hb]
      refine ⟨exOk_mono h1 (by omega), fun j => ?_⟩
      rw [h2]
      constructor
      · rintro ⟨h5, h6⟩; exact ⟨by omega, h6⟩
      · rintro ⟨h5, h6⟩
        by_cases hjk : j = k
        · subst hjk; exact absurd h6 hb
        · exact ⟨by omega, h6⟩
def setAll (ws : List (BitVec 64)) (es : List (Int × Int)) : List (BitVec 64) := es.foldl (fun ws e => chW true ws e.1 (e.1 + e.2)) ws
theorem chk_set1 {n : Int} {ws : List (BitVec 64)} {s c : Int} (h : chk n ws = 0) (hf : fitsB s c n = true) : chk n (chW true ws s (s + c)) = 0 := by
  obtain ⟨a1, a2, a3, a4⟩ := chk_iff.1 h
  have hff := fitsB_iff.1 hf
  refine chk_iff.2 ⟨a1, a2, by rw [chW_length]; exact a3, fun i hi hn => ?_⟩
  rw [chW_length] at hi
  rw [chW_bit true ws _ _ i hi, if_neg (by omega)]
  exact a4 i hi hn
theorem fromR_all {n : Int} : ∀ (es : List (Int × Int)) (ws : List (BitVec 64)), chk n ws = 0 → fromR ⟨n, ws, 0⟩ es = if (es.all fun e => fitsB e.1 e.2 n) = true then ⟨n, setAll ws es, 0⟩ else ⟨0, [], 2⟩
  | [], ws, _ => by simp [fromR, setAll]
  | e :: es, ws, h => by
    show fromR ⟨n, ws, 0⟩ (e :: es) = _
    have h1 : fromR ⟨n, ws, 0⟩ (e :: es) = fromR (chR true n ws e.1 e.2) es := by
      have := fromR_drop (r := ⟨n, ws, 0⟩) (es := e :: es) (k := 0) rfl (by simp)
      simpa using this
    rw [h1]
    by_cases hf : fitsB e.1 e.2 n = true
    · rw [chR_ok (fun hc => hc h) hf, fromR_all es _ (chk_set1 h hf)]
      simp only [List.all_cons, hf, Bool.true_and]
      rfl
    · rw [chR_range (fun hc => hc h) hf, fromR_err (by decide)]
      rw [if_neg]
      simp only [List.all_cons, Bool.and_eq_true]
      exact fun h2 => hf h2.1
theorem chk_new {n : Int} (h1 : 0 ≤ n) (h2 : n ≤ 4096) : chk n (List.replicate ((n + 63) / 64).toNat 0#64) = 0 := by
  refine chk_iff.2 ⟨h1, h2, by rw [List.length_replicate]; omega, fun i hi _ => ?_⟩
  rw [List.length_replicate] at hi
  unfold bitN
  rw [List.getD_eq_getElem?_getD, List.getElem?_replicate]
  split <;> simp
theorem bit_new {m i : Nat} : bitN (List.replicate m 0#64) i = false := by
  unfold bitN
  rw [List.getD_eq_getElem?_getD, List.getElem?_replicate]
  split <;> simp
theorem fromR_new {n : Int} (h1 : 0 ≤ n) (h2 : n ≤ 4096) (es : List (Int × Int)) : fromR (newR n) es = if (es.all fun e => fitsB e.1 e.2 n) = true then ⟨n, setAll (List.replicate ((n + 63) / 64).toNat 0#64) es, 0⟩ else ⟨0, [], 2⟩ := by
  rw [newR_ok h1 h2, fromR_all es _ (chk_new h1 h2)]
theorem chk_setAll {n : Int} : ∀ (es : List (Int × Int)) (ws : List (BitVec 64)), chk n ws = 0 → (es.all fun e => fitsB e.1 e.2 n) = true → chk n (setAll ws es) = 0
  | [], _, h, _ => h
  | e :: es, ws, h, hf => by
    simp only [List.all_cons, Bool.and_eq_true] at hf
    exact chk_setAll es _ (chk_set1 h hf.1) hf.2
def bmOf (r : BR) : api_Bitmap × Int := (⟨r.n, r.ws⟩, r.e)
def orB (a b : api_Bitmap) : api_Bitmap × Int := bmOf (bothR (fun x y => x ||| y) a.Size a.Words b.Size b.Words)
theorem mixStep {op : BitVec 64 → BitVec 64 → BitVec 64} {ws vs : List (BitVec 64)} {k : Nat} (h : k < ws.length) (h2 : k < vs.length) : put (mixK (List.zipWith op ws vs) (List.replicate ws.length 0#64) k) (k : Int) (op (ix ws (k : Int)) (ix vs (k : Int))) = mixK (List.zipWith op ws vs) (List.replicate ws.length 0#64) (k + 1) ∨ ws.length ≠ vs.length := by
  by_cases hl : ws.length = vs.length
  · left
    exact mixK_step (by rw [List.length_zipWith, List.length_replicate]; omega) (zip_get h h2)
  · exact .inr hl
theorem bitmap_Or_ok {a b : api_Bitmap} {Φ : api_Bitmap × Int → Prop} (hΦ : Φ (orB a b)) : bitmap_Or_W a b Φ := by
  unfold orB at hΦ
  unfold bitmap_Or_W bitmap_both__bitmap_Or_1_W
  refine bitmap_Check_ok ⟨fun h => ?_, fun h => bitmap_Check_ok ⟨fun h2 => ?_, fun h2 => ⟨fun h3 => ?_, fun h3 => ?_⟩⟩⟩
  · rw [bothR_bad (bothE_1 h) (by omega)] at hΦ; unfold chkB at *; rw [chk_ne h]; exact hΦ
  · rw [bothR_bad (bothE_2 h h2) (by omega)] at hΦ; unfold chkB at *; rw [chk_ne h2]; exact hΦ
  · rw [bothR_bad (bothE_3 h h2 h3) (by omega)] at hΦ; exact hΦ
  · have hw := chkB_len h
    have hw2 := chkB_len h2
    rw [bothR_ok (bothE_4 h h2 h3)] at hΦ
    have hl : a.Words.length = b.Words.length := by omega
    refine ⟨by omega, iL (by omega) (by omega), ?_⟩
    have hr : (List.replicate (a.Words.length : Int).toNat (0#64)).length = a.Words.length := by simp
    refine LoopW.up2 a.Words.length (fun k acc => acc = mixK (List.zipWith (fun x y => x ||| y) a.Words b.Words) (List.replicate a.Words.length 0#64) k) ?_ rfl (Nat.zero_le _) (by rw [mixK_zero]; rfl)
    rintro k _ rec hk rfl hrec
    have hml := mixK_length (new := List.zipWith (fun x y => x ||| y) a.Words b.Words) (old := List.replicate a.Words.length 0#64) (by rw [List.length_zipWith, List.length_replicate]; omega) k
    rw [List.length_replicate] at hml
    refine ⟨fun hlt => ?_, fun hge => ?_⟩
    · rw [hr] at hlt
      refine ⟨iX (by omega) (by omega), iX (by omega) (by omega), _, rfl, iX (by omega) (by omega), iI (by omega) (by omega), hrec _ (by omega) ?_⟩
      exact (mixStep (op := fun x y => x ||| y) (by omega) (by omega)).resolve_right (fun q => q hl)
    · rw [hr] at hge
      rw [mixK_full (by rw [List.length_zipWith, List.length_replicate]; omega) (by rw [List.length_replicate]; omega)]
      exact hΦ
def sizesE (l : List Int) : Int := if (l.length : Int) < 1 ∨ 8 < (l.length : Int) then 6 else firstN (fun k => if ix l (k : Int) < 1 ∨ 4096 < ix l (k : Int) then 2 else 0) l.length
def szs (im : List (List Sec)) : List Int := im.map fun v => (v.length : Int)
def imgE (im : List (List Sec)) : Int := sizesE (szs im)
theorem ref07_Sizes_ok {l : List Int} {Φ : Int → Prop} (hΦ : Φ (sizesE l)) : ref07_Sizes_W l Φ := by
  unfold sizesE at hΦ
  refine ⟨fun h => by rw [if_pos h] at hΦ; exact hΦ, fun h => ?_⟩
  rw [if_neg h] at hΦ
  refine LoopW.firstL _ _ hΦ (fun k rec hk _ h1 h2 => ⟨fun _ => ⟨iX (by omega) (by omega), fun q => ?_, fun q => ⟨iI (by omega) (by omega), h2 (if_neg q)⟩⟩, fun q => absurd (by omega) q⟩) fun rec h1 _ => ⟨fun q => absurd q (by omega), fun _ => h1⟩
  have := h1 (by rw [if_pos q]; omega)
  rw [if_pos q] at this; exact this
def idxN (p : Nat → Bool) (n : Nat) : Int := match (List.range n).find? p with
  | some k => (k : Int)
  | none => -1
theorem idxN_hit {p : Nat → Bool} {n k : Nat} (hk : k < n) (h0 : ∀ j, j < k → p j = false) (h1 : p k = true) : idxN p n = (k : Int) := by
  unfold idxN
  have : (List.range n).find? p = some k := by
    rw [List.find?_range_eq_some]
    exact ⟨h1, List.mem_range.2 hk, fun j hj => by rw [h0 j hj]; rfl⟩
  rw [this]
theorem idxN_none {p : Nat → Bool} {n : Nat} (h0 : ∀ j, j < n → p j = false) : idxN p n = -1 := by
  unfold idxN
  have : (List.range n).find? p = none := by
    rw [List.find?_eq_none]
    intro j hj
    rw [h0 j (List.mem_range.1 hj)]; simp
  rw [this]
theorem LoopW.idxL {step : Int → (Int → Prop) → Prop} (n : Nat) (p : Nat → Bool) {Φ : Int → Prop} (hΦ : Φ (idxN p n)) (h : ∀ (k : Nat) rec, k < n → (p k = true → Φ (k : Int)) → (p k = false → rec ((k : Int) + 1)) → step (k : Int) rec)
    (he : ∀ rec, Φ (-1) → step (n : Int) rec) : LoopW step 0 := by
  refine LoopW.up n (fun k => ∀ j, j < k → p j = false) ?_ rfl (Nat.zero_le _) (fun j hj => absurd hj (Nat.not_lt_zero j))
  intro k rec hk hI hrec
  rcases Nat.lt_or_ge k n with hlt | hge
  · refine h k rec hlt (fun h1 => by rw [idxN_hit hlt hI h1] at hΦ; exact hΦ) fun h0 => hrec hlt fun j hj => ?_
    rcases Nat.lt_or_ge j k with h2 | h2
    · exact hI j h2
    · have : j = k := by omega
      subst this; exact h0
  · have e : k = n := by omega
    subst e
    exact he rec (by rw [idxN_none hI] at hΦ; exact hΦ)
theorem idxN_nonneg {p : Nat → Bool} {n : Nat} : 0 ≤ idxN p n ↔ ∃ k, k < n ∧ p k = true := by
  unfold idxN
  cases h : (List.range n).find? p with
  | some k => exact ⟨fun _ => ⟨k, List.mem_range.1 (List.mem_of_find?_eq_some h), List.find?_some h⟩, fun _ => by simp⟩
  | none =>
    rw [List.find?_eq_none] at h
    exact ⟨fun q => absurd q (by simp), fun ⟨k, hk, hp⟩ => absurd hp (h k (List.mem_range.2 hk))⟩
theorem image_checkSizes_ok {l : List Int} {Φ : Int → Prop} (hΦ : Φ (sizesE l)) : image_checkSizes_W l Φ := by
  unfold sizesE at hΦ
  refine ⟨fun h => by rw [if_pos h] at hΦ; exact hΦ, fun h => ?_⟩
  rw [if_neg h] at hΦ
  have hz : ∀ v : Int, v = idxN (fun k => decide ((ix l (k : Int) < 1) ∨ (4096 < ix l (k : Int)))) l.length → (decide (0 ≤ v) = true → Φ 2) ∧ (¬ (decide (0 ≤ v) = true) → Φ 0) := by
    rintro _ rfl
    rw [decide_eq_true_iff, idxN_nonneg]
    refine ⟨fun ⟨k, hk, hp⟩ => ?_, fun q => ?_⟩
    · have hne : firstN (fun k => if ix l (k : Int) < 1 ∨ 4096 < ix l (k : Int) then 2 else 0) l.length ≠ 0 := fun q0 => by
        have := firstN_zero.1 q0 k hk
        rw [if_pos (of_decide_eq_true hp)] at this; omega
      have h2 : ∀ n, firstN (fun k => if ix l (k : Int) < 1 ∨ 4096 < ix l (k : Int) then 2 else 0) n = 0 ∨ firstN (fun k => if ix l (k : Int) < 1 ∨ 4096 < ix l (k : Int) then 2 else 0) n = 2 := by
        intro n
        induction n with
        | zero => exact .inl rfl
        | succ n ih => unfold firstN; split
                       · exact ih
                       · split <;> simp
      rw [(h2 _).resolve_left hne] at hΦ; exact hΦ
    · rw [firstN_zero.2 fun k hk => if_neg fun hp => q ⟨k, hk, decide_eq_true hp⟩] at hΦ; exact hΦ
  exact LoopW.idxL (Φ := fun v => (decide (0 ≤ v) = true → Φ 2) ∧ (¬ (decide (0 ≤ v) = true) → Φ 0)) _ _ (hz _ rfl)
    (fun k rec hk h1 h2 => ⟨fun _ => ⟨iX (by omega) (by omega), h1, fun q => ⟨iI (by omega) (by omega), h2 (by simpa using q)⟩⟩, fun q => absurd (by omega) q⟩) fun rec h1 => ⟨fun q => absurd q (by omega), fun _ => h1⟩
def spanP (l : List api_Span) (k : Nat) : Bool :=
  decide ((ix l (k : Int)).From = (if k = 0 then 0 else (ix l ((k : Int) - 1)).To) + 1 ∧ (ix l (k : Int)).From ≤ (ix l (k : Int)).To ∧ (ix l (k : Int)).To ≤ 1073741824 ∧ (if k = 0 then 0 else (ix l ((k : Int) - 1)).Epoch) < (ix l (k : Int)).Epoch ∧ (ix l (k : Int)).Epoch ≤ 1073741824)
def linB (l : List api_Span) : Bool := allN (spanP l) l.length
def dirtyE (p : api_Point) (k : Nat) : Int := if chkB (ix p.Dirty (k : Int)) ≠ 0 then chkB (ix p.Dirty (k : Int)) else if (ix p.Dirty (k : Int)).Size ≠ ((ix p.Image (k : Int)).length : Int) then 22 else 0
def ptE (p : api_Point) : Int :=
  if p.Site < 0 ∨ 1073741824 < p.Site then 2 else if ¬ (linB p.Lineage = true) then 3 else if imgE p.Image ≠ 0 then imgE p.Image else if (p.Dirty.length : Int) ≠ (p.Image.length : Int) then 6 else firstN (dirtyE p) p.Dirty.length
end Go.Proofs.YtahlanamngfkcaaDoor
