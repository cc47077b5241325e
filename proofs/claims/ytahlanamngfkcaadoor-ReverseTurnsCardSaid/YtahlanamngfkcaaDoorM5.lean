/- Part 5 of the proof of the statement ReverseTurnsCardSaid: lemmas. No condition of its own. -/
import Derived.Test.YtahlanamngfkcaaDoorM4
namespace Go.Proofs.YtahlanamngfkcaaDoor
open Go.RowKit
theorem ref07_Apply_lift {H : Hp} (x0 : List (List Sec)) (x1 : List api_Write) {A1 : Option Addr} {n1 c1 : Nat} {s1 : List Value} (hF1 : Fz (α := List Sec) H A1 n1 c1 x0 s1) {A2 : Option Addr} {n2 c2 : Nat} {s2 : List Value} (hF2 : Fz (α := api_Write) H A2 n2 c2 x1 s2) {Φ : List (List Sec) × Int × Int → Prop} (hm : ref07_Apply_W x0 x1 Φ) : RetP Tryd.prog 89 #[.slice A1 n1 c1, .slice A2 n2 c2] H (fun H' v L => ∃ y, Φ y ∧ ∃ A70, ∃ n70, ∃ c70, ∃ s70, ∃ rs71, v = .tuple #[.slice A70 n70 c70, .int .i64 (y.2.1), .int .i64 (y.2.2)] ∧ DeepL (α := List Sec) [71] H' s70 y.1 rs71 ∧ n70 = y.1.length ∧ L = .row (.slice A70 n70 c70) 61 1 n70 s70 :: rs71) := by
 refine RetP.of_code Tryd.func89 rfl (nb rfl) fun w0 hM => ?_
 refine CW.sr <| RW.st (Ex.assign (.slice none 0 0) rfl) rfl <| RW.st (Ex.assign (.int .i64 0) rfl) rfl <| RW.st (Ex.assign (.int .i64 0) rfl) rfl <| RW.nil <| CW.seq <| CW.sr <| RW.st (Ex.move (.slice A1 n1 c1) rfl) rfl ?_
 refine RW.callP hM (ref07_Check_lift x0 hF1 hm) en97 rfl rfl rfl rfl ?_; rintro _ w H4 _ hle5 ⟨v3, hm, rfl, rfl⟩ hM
 refine RW.st (Ex.assign (.int .i64 v3) rfl) rfl <| RW.nil <| CW.sr <| RW.st (Ex.move (.int .i64 v3) rfl) rfl <| RW.st (Ex.neq rfl rfl) rfl <| RW.nil ?_
 refine CW.cond_dec (p := v3 ≠ 0) rfl (fun hc6 => ?_) (fun hc6 => ?_)
 ·
  replace hm := And.left hm hc6
  refine CW.sr <| RW.st (Ex.move (.int .i64 v3) rfl) rfl <| RW.st (Ex.assign (.slice none 0 0) rfl) rfl <| RW.st (Ex.assign (.int .i64 0) rfl) rfl <| RW.st (Ex.assign (.int .i64 v3) rfl) rfl <| RW.nil <| CW.ret ?_
  refine tqr ?_
  refine end_tmp3 (.inl rfl) rfl (.slice none 0 0) (.int .i64 0) (.int .i64 v3) rfl rfl rfl ?_
  replace hM := hM.nilRow 61 1
  exact ⟨_, _, hM, (([] : List (List Sec)), 0, v3), hm, none, 0, 0, [], [], rfl, (DeepL.nil : DeepL (α := List Sec) [71] H4 [] [] []), rfl, rfl⟩
 ·
  replace hm := And.right hm hc6
  refine CW.skip <| CW.sr <| RW.st (Ex.move (.slice A1 n1 c1) rfl) rfl ?_
  refine RW.callP hM (ref07_Copy_lift x0 (hF1.mono hle5) hm) en25 rfl rfl rfl rfl ?_; rintro _ w H8 _ hle9 ⟨v7, hm, A10, n10, c10, s10, rs11, rfl, hd12, hn13, rfl⟩ hM
  replace hM := Mem.toTail (a := [.row (.slice A10 n10 c10) 61 1 n10 s10]) (b := rs11) (c := []) hM
  refine RW.st (Ex.assign (.slice A10 n10 c10) rfl) rfl <| RW.nil <| CW.seq <| CW.sr <| RW.st (Ex.assign (.int .i64 0) rfl) rfl <| RW.nil <| CW.block ?_
  obtain ⟨m69, hm⟩ := hm
  skip
  refine CW.loop (β := Nat) (fun n σ w => ∃ (v16 : List (List Sec)), ∃ (A17 : Option Addr), ∃ (n18 : Nat), ∃ (c19 : Nat), ∃ (s20 : List Value), ∃ (rs21 : List Ent), ∃ (v24 : Int), ∃ Hk14, H8.le Hk14 ∧ (∃ τ, σ = sl [(0, .slice A1 n1 c1), (1, .slice A2 n2 c2), (8, .slice A17 n18 c19), (9, .int .i64 v24)] τ) ∧ Mem w0 H w Hk14 (.row (.slice A17 n18 c19) 61 1 n18 s20 :: rs21) ∧ (DeepL (α := List Sec) [71] Hk14 s20 v16 rs21) ∧ (n18 = v16.length) ∧ LoopN (ref07_Apply_L1 x0 x1 Φ) n (v16, v24)) (fun n => n) m69 ⟨v7, A10, n10, c10, s10, rs11, 0, H8, (Hp.le.refl _), slc ⟨rfl, rfl, rfl, rfl, trivial⟩, hM, hd12, hn13, hm⟩ ?_
  rintro k25 _ w ⟨v16, A17, n18, c19, s20, rs21, v24, Hk14, hle15, ⟨τ, rfl⟩, hM, hd22, hn23, hm⟩
  obtain _ | k25 := k25
  · exact hm.elim
  replace hm : (ref07_Apply_L1 x0 x1 Φ) (v16, v24) (LoopN (ref07_Apply_L1 x0 x1 Φ) k25) := hm
  generalize hrec26 : LoopN (ref07_Apply_L1 x0 x1 Φ) k25 = rec1 at hm
  refine CW.seq <| CW.sr <| RW.st (Ex.move (.int .i64 v24) rfl) rfl <| RW.st (Ex.move (.slice A2 n2 c2) rfl) rfl <| RW.st (Ex.lenN st43.1 rfl hF2.hn) rfl <| RW.st (Ex.lss rfl rfl) rfl <| RW.nil ?_
  refine CW.cond_dec (p := v24 < (x1.length : Int)) rfl (fun hc27 => ?_) (fun hc27 => ?_)
  ·
   replace hm := And.left hm hc27
   refine CW.skip <| CW.seq <| CW.block <| CW.seq <| CW.sr <| RW.st (Ex.move (.slice A1 n1 c1) rfl) rfl <| RW.st (Ex.move (.slice A2 n2 c2) rfl) rfl <| RW.st (Ex.move (.int .i64 v24) rfl) rfl ?_
   obtain ⟨hg28, hm⟩ := hm
   refine RW.st (Ex.index st43 rfl rfl v24.toNat (hF2.ne hg28) hg28.nat (hF2.lt hg28)) rfl ?_
   obtain ⟨_, ⟨A29, n29, c29, s29, rfl, hF29⟩, hx30⟩ := DtL.getI (α := api_Write) (hF2.mono ((hle5.trans hle9).trans hle15)).dat hg28
   refine RW.st (Ex.loadEA hM ((hle5.trans hle9).trans hle15) hF2.rdc [.int .i64 ((ix x1 v24).Volume), .int .i64 ((ix x1 v24).Start), .slice A29 n29 c29] ta100 rfl (hF2.ne hg28) rfl (chunk_sub (off := 0) (n := 3) hx30 rfl)) rfl ?_
   refine RW.callP hM (ref07_Fits_lift x0 (ix x1 v24) (hF1.mono ((hle5.trans hle9).trans hle15)) hF29 hm) en109 rfl rfl rfl rfl ?_; rintro _ w H32 _ hle33 ⟨v31, hm, rfl, rfl⟩ hM
   refine RW.st (Ex.assign (.int .i64 v31) rfl) rfl <| RW.nil <| CW.sr <| RW.st (Ex.move (.int .i64 v31) rfl) rfl <| RW.st (Ex.neq rfl rfl) rfl <| RW.nil ?_
   refine CW.cond_dec (p := v31 ≠ 0) rfl (fun hc34 => ?_) (fun hc34 => ?_)
   ·
    replace hm := And.left hm hc34
    refine CW.sr <| RW.st (Ex.move (.int .i64 v24) rfl) rfl <| RW.st (Ex.move (.int .i64 v31) rfl) rfl <| RW.st (Ex.assign (.slice none 0 0) rfl) rfl <| RW.st (Ex.assign (.int .i64 v24) rfl) rfl <| RW.st (Ex.assign (.int .i64 v31) rfl) rfl <| RW.nil <| CW.ret ?_
    refine tqr (bqr (tqr (tqr (bqr (tqr ?_)))))
    refine end_tmp3 (.inl rfl) rfl (.slice none 0 0) (.int .i64 v24) (.int .i64 v31) rfl rfl rfl ?_
    replace hM := hM.nilRow 61 1
    exact ⟨_, _, ((Mem.dropT (L1 := [.row (.slice none 0 0) 61 1 0 [], .row (.slice A17 n18 c19) 61 1 n18 s20]) (T := rs21) hM).pick [0] rfl rfl), (([] : List (List Sec)), v24, v31), hm, none, 0, 0, [], [], rfl, (DeepL.nil : DeepL (α := List Sec) [71] H32 [] [] []), rfl, rfl⟩
   ·
    replace hm := And.right hm hc34
    refine CW.skip <| CW.sr <| RW.st (Ex.assign (.int .i64 0) rfl) rfl <| RW.nil <| CW.block ?_
    obtain ⟨m68, hm⟩ := hm
    skip
    refine CW.loop (β := Nat) (fun n σ w => ∃ (v37 : List (List Sec)), ∃ (A38 : Option Addr), ∃ (n39 : Nat), ∃ (c40 : Nat), ∃ (s41 : List Value), ∃ (rs42 : List Ent), ∃ (v45 : Int), ∃ Hk35, H32.le Hk35 ∧ (∃ τ, σ = sl [(0, .slice A1 n1 c1), (1, .slice A2 n2 c2), (8, .slice A38 n39 c40), (9, .int .i64 v24), (11, .int .i64 v45)] τ) ∧ Mem w0 H w Hk35 (.row (.slice A38 n39 c40) 61 1 n39 s41 :: rs42) ∧ (DeepL (α := List Sec) [71] Hk35 s41 v37 rs42) ∧ (n39 = v37.length) ∧ LoopN (ref07_Apply_L2 x1 v24 rec1 Φ) n (v37, v45)) (fun n => n) m68 ⟨v16, A17, n18, c19, s20, rs21, 0, H32, (Hp.le.refl _), slc ⟨rfl, rfl, rfl, rfl, rfl, trivial⟩, hM, (hd22.mono hle33), hn23, hm⟩ ?_
    rintro k46 _ w ⟨v37, A38, n39, c40, s41, rs42, v45, Hk35, hle36, ⟨τ, rfl⟩, hM, hd43, hn44, hm⟩
    obtain _ | k46 := k46
    · exact hm.elim
    replace hm : (ref07_Apply_L2 x1 v24 rec1 Φ) (v37, v45) (LoopN (ref07_Apply_L2 x1 v24 rec1 Φ) k46) := hm
    generalize hrec47 : LoopN (ref07_Apply_L2 x1 v24 rec1 Φ) k46 = rec2 at hm
    refine CW.seq <| CW.sr <| RW.st (Ex.move (.int .i64 v45) rfl) rfl <| RW.st (Ex.move (.slice A2 n2 c2) rfl) rfl <| RW.st (Ex.move (.int .i64 v24) rfl) rfl <| RW.st (Ex.index st43 rfl rfl v24.toNat (hF2.ne hg28) hg28.nat (hF2.lt hg28)) rfl <| RW.st (Ex.fieldE fa100_2 (hF2.ne hg28) rfl) rfl <| RW.st (Ex.loadE hM ((((hle5.trans hle9).trans hle15).trans hle33).trans hle36) hF2.rdc to61 rfl (hx30 2 _ rfl)) rfl <| RW.st (Ex.lenN st61.1 rfl hF29.hn) rfl <| RW.st (Ex.lss rfl rfl) rfl <| RW.nil ?_
    refine CW.cond_dec (p := v45 < (((ix x1 v24).Data).length : Int)) rfl (fun hc48 => ?_) (fun hc48 => ?_)
    ·
     replace hm := And.left hm hc48
     refine CW.skip <| CW.seq <| CW.block ?_
     obtain ⟨hg49, hm⟩ := hm
     obtain ⟨c51, _, c52, _, rs53, rfl, ⟨A50, n50, c50, s50, rfl, rfl, hF50, hn55⟩, hh54, hM⟩ := Mem.focus [.row (.slice A38 n39 c40) 61 1 n39 s41] hM hd43 hg49
     have hx56 := Hole.get (ch := [.slice A50 n50 c50]) hh54
     obtain ⟨hg57, hm⟩ := hm
     obtain ⟨hg58, hm⟩ := hm
     obtain ⟨_, rfl, hx59⟩ := DtL.getI (α := Sec) (hF29.mono (hle33.trans hle36)).dat hg58
     refine CW.drawE 23 [.slice A38 n39 c40, .slice A2 n2 c2, .int .i64 v24, elp A2 (v24.toNat * 3 + 0), elp A2 (v24.toNat * 3 + 0), .int .i64 ((ix x1 v24).Volume), elp A38 ((((ix x1 v24).Volume).toNat) * 1 + 0), .slice A50 n50 c50, .slice A2 n2 c2, .int .i64 v24, elp A2 (v24.toNat * 3 + 0), elp A2 (v24.toNat * 3 + 1), .int .i64 ((ix x1 v24).Start), .int .i64 v45, .int .i64 (((ix x1 v24).Start) + v45), .slice A2 n2 c2, .int .i64 v24, elp A2 (v24.toNat * 3 + 0), elp A2 (v24.toNat * 3 + 2), .slice A29 n29 c29, .int .i64 v45, elp A29 (v45.toNat * 8 + 0), .agg #[u8 (ix ((ix x1 v24).Data) v45).b0, u8 (ix ((ix x1 v24).Data) v45).b1, u8 (ix ((ix x1 v24).Data) v45).b2, u8 (ix ((ix x1 v24).Data) v45).b3, u8 (ix ((ix x1 v24).Data) v45).b4, u8 (ix ((ix x1 v24).Data) v45).b5, u8 (ix ((ix x1 v24).Data) v45).b6, u8 (ix ((ix x1 v24).Data) v45).b7]]
      [[(8, none)], [(1, none)], [(9, none)], [(46, some 1), (47, some 2)], [(48, some 3)], [(49, some 4)], [(45, some 0), (50, some 5)], [(51, some 6)], [(1, none)], [(9, none)], [(53, some 8), (54, some 9)], [(55, some 10)], [(56, some 11)], [(11, none)], [(57, some 12), (58, some 13)], [(1, none)], [(9, none)], [(60, some 15), (61, some 16)], [(62, some 17)], [(63, some 18)], [(11, none)], [(64, some 19), (65, some 20)], [(66, some 21)]] [(0, none), (1, none), (8, none), (9, none), (11, none), (52, some 7), (59, some 14), (67, some 22)] (by kernel_rfl) hM (by kernel_rfl) ⟨?_, ?_, ?_, ?_, ?_, ?_, ?_, ?_, ?_, ?_, ?_, ?_, ?_, ?_, ?_, ?_, ?_, ?_, ?_, ?_, ?_, ?_, ?_, trivial⟩ ?_
     · exact One.ex (fun H' τ w hled hM => Ex.move (.slice A38 n39 c40) rfl) rfl (fun _ => rfl) rfl
     · exact One.ex (fun H' τ w hled hM => Ex.move (.slice A2 n2 c2) rfl) rfl (fun _ => rfl) rfl
     · exact One.ex (fun H' τ w hled hM => Ex.move (.int .i64 v24) rfl) rfl (fun _ => rfl) rfl
     · exact One.ex (fun H' τ w hled hM => Ex.index st43 rfl rfl v24.toNat (hF2.ne hg28) hg28.nat (hF2.lt hg28)) rfl (fun _ => rfl) rfl
     · exact One.ex (fun H' τ w hled hM => Ex.fieldE fa100_0 (hF2.ne hg28) rfl) rfl (fun _ => rfl) rfl
     · exact One.ex (fun H' τ w hled hM => Ex.loadE hM (((((hle5.trans hle9).trans hle15).trans hle33).trans hle36).trans hled) hF2.rdc to3 rfl (hx30 0 _ rfl)) rfl (fun _ => rfl) rfl
     · exact One.ex (fun H' τ w hled hM => Ex.index st25 rfl rfl (((ix x1 v24).Volume).toNat) (hM.rowNeD (α := List Sec) (p := 1) rfl hn44 hg49) hg49.nat (Nat.lt_of_lt_of_eq hg49.lt (hn44).symm)) rfl (fun _ => rfl) rfl
     · exact One.ex (fun H' τ w hled hM => Ex.loadR hM 1 rfl to61 (hM.rowNeD (α := List Sec) (p := 1) rfl hn44 hg49) rfl (hx56 0 _ rfl)) rfl (fun _ => rfl) rfl
     · exact One.ex (fun H' τ w hled hM => Ex.move (.slice A2 n2 c2) rfl) rfl (fun _ => rfl) rfl
     · exact One.ex (fun H' τ w hled hM => Ex.move (.int .i64 v24) rfl) rfl (fun _ => rfl) rfl
     · exact One.ex (fun H' τ w hled hM => Ex.index st43 rfl rfl v24.toNat (hF2.ne hg28) hg28.nat (hF2.lt hg28)) rfl (fun _ => rfl) rfl
     · exact One.ex (fun H' τ w hled hM => Ex.fieldE fa100_1 (hF2.ne hg28) rfl) rfl (fun _ => rfl) rfl
     · exact One.ex (fun H' τ w hled hM => Ex.loadE hM (((((hle5.trans hle9).trans hle15).trans hle33).trans hle36).trans hled) hF2.rdc to3 rfl (hx30 1 _ rfl)) rfl (fun _ => rfl) rfl
     · exact One.ex (fun H' τ w hled hM => Ex.move (.int .i64 v45) rfl) rfl (fun _ => rfl) rfl
     · exact One.ex (fun H' τ w hled hM => Ex.add rfl rfl hg57.1 hg57.2) rfl (fun _ => rfl) rfl
     · exact One.ex (fun H' τ w hled hM => Ex.move (.slice A2 n2 c2) rfl) rfl (fun _ => rfl) rfl
     · exact One.ex (fun H' τ w hled hM => Ex.move (.int .i64 v24) rfl) rfl (fun _ => rfl) rfl
     · exact One.ex (fun H' τ w hled hM => Ex.index st43 rfl rfl v24.toNat (hF2.ne hg28) hg28.nat (hF2.lt hg28)) rfl (fun _ => rfl) rfl
     · exact One.ex (fun H' τ w hled hM => Ex.fieldE fa100_2 (hF2.ne hg28) rfl) rfl (fun _ => rfl) rfl
     · exact One.ex (fun H' τ w hled hM => Ex.loadE hM (((((hle5.trans hle9).trans hle15).trans hle33).trans hle36).trans hled) hF2.rdc to61 rfl (hx30 2 _ rfl)) rfl (fun _ => rfl) rfl
     · exact One.ex (fun H' τ w hled hM => Ex.move (.int .i64 v45) rfl) rfl (fun _ => rfl) rfl
     · exact One.ex (fun H' τ w hled hM => Ex.index st61 rfl rfl v45.toNat (hF29.ne hg58) hg58.nat (hF29.lt hg58)) rfl (fun _ => rfl) rfl
     · exact One.ex (fun H' τ w hled hM => Ex.loadEA hM ((hle33.trans hle36).trans hled) hF29.rdc [u8 (ix ((ix x1 v24).Data) v45).b0, u8 (ix ((ix x1 v24).Data) v45).b1, u8 (ix ((ix x1 v24).Data) v45).b2, u8 (ix ((ix x1 v24).Data) v45).b3, u8 (ix ((ix x1 v24).Data) v45).b4, u8 (ix ((ix x1 v24).Data) v45).b5, u8 (ix ((ix x1 v24).Data) v45).b6, u8 (ix ((ix x1 v24).Data) v45).b7] ta71 rfl (hF29.ne hg58) rfl (chunk_sub (off := 0) (n := 8) hx59 rfl)) rfl (fun _ => rfl) rfl
     intro τ w hM
     change RW _ _ _ _ _ _ _ _ (sl [(0, .slice A1 n1 c1), (1, .slice A2 n2 c2), (8, .slice A38 n39 c40), (9, .int .i64 v24), (11, .int .i64 v45), (52, .slice A50 n50 c50), (59, .int .i64 (((ix x1 v24).Start) + v45)), (67, .agg #[u8 (ix ((ix x1 v24).Data) v45).b0, u8 (ix ((ix x1 v24).Data) v45).b1, u8 (ix ((ix x1 v24).Data) v45).b2, u8 (ix ((ix x1 v24).Data) v45).b3, u8 (ix ((ix x1 v24).Data) v45).b4, u8 (ix ((ix x1 v24).Data) v45).b5, u8 (ix ((ix x1 v24).Data) v45).b6, u8 (ix ((ix x1 v24).Data) v45).b7])] τ) _
     obtain ⟨hg60, hm⟩ := hm
     refine RW.st (Ex.index st61 rfl rfl ((((ix x1 v24).Start) + v45).toNat) (hM.rowNeD (α := Sec) (p := 0) rfl hn55 hg60) hg60.nat (Nat.lt_of_lt_of_eq hg60.lt (hn55).symm)) rfl ?_
     refine RW.storeD (α := Sec) (off := 0) (x' := (ix ((ix x1 v24).Data) v45)) hM 0 hF50 (.agg #[u8 (ix ((ix x1 v24).Data) v45).b0, u8 (ix ((ix x1 v24).Data) v45).b1, u8 (ix ((ix x1 v24).Data) v45).b2, u8 (ix ((ix x1 v24).Data) v45).b3, u8 (ix ((ix x1 v24).Data) v45).b4, u8 (ix ((ix x1 v24).Data) v45).b5, u8 (ix ((ix x1 v24).Data) v45).b6, u8 (ix ((ix x1 v24).Data) v45).b7]) [u8 (ix ((ix x1 v24).Data) v45).b0, u8 (ix ((ix x1 v24).Data) v45).b1, u8 (ix ((ix x1 v24).Data) v45).b2, u8 (ix ((ix x1 v24).Data) v45).b3, u8 (ix ((ix x1 v24).Data) v45).b4, u8 (ix ((ix x1 v24).Data) v45).b5, u8 (ix ((ix x1 v24).Data) v45).b6, u8 (ix ((ix x1 v24).Data) v45).b7] sz71 rfl hn55 hg60 (nb rfl) rfl rfl (oneAll ⟨rfl, rfl, rfl, rfl, rfl, rfl, rfl, rfl, trivial⟩) rfl (fun ch h => rdWhole h (show Dt.rd (α := Sec) _ [u8 (ix ((ix x1 v24).Data) v45).b0, u8 (ix ((ix x1 v24).Data) v45).b1, u8 (ix ((ix x1 v24).Data) v45).b2, u8 (ix ((ix x1 v24).Data) v45).b3, u8 (ix ((ix x1 v24).Data) v45).b4, u8 (ix ((ix x1 v24).Data) v45).b5, u8 (ix ((ix x1 v24).Data) v45).b6, u8 (ix ((ix x1 v24).Data) v45).b7] (ix ((ix x1 v24).Data) v45) from rfl)) rfl rfl ?_
     intro s61 w hd62 hM
     refine RW.nil <| CW.region <| RW.st (Ex.move (.int .i64 v45) rfl) rfl ?_
     obtain ⟨hg63, hm⟩ := hm
     refine RW.st (Ex.add rfl rfl hg63.1 hg63.2) rfl <| RW.st (Ex.assign (.int .i64 (v45 + 1)) rfl) rfl <| RW.nil ?_
     obtain ⟨s64, rs65, hd66, hM⟩ := Mem.unfocus (α := List Sec) (Ts := [71]) (x := (put (ix v37 ((ix x1 v24).Volume)) (((ix x1 v24).Start) + v45) (ix ((ix x1 v24).Data) v45))) [.row (.slice A38 n39 c40) 61 1 n39 (c51 ++ ([.slice A50 n50 c50] ++ c52))] hM 0 rfl hh54 ⟨A50, n50, c50, s61, rfl, rfl, hd62, (hn55).trans (put_len _ _ _).symm⟩
     exact And.intro rfl ⟨k46, ⟨(put v37 ((ix x1 v24).Volume) (put (ix v37 ((ix x1 v24).Volume)) (((ix x1 v24).Start) + v45) (ix ((ix x1 v24).Data) v45))), A38, n39, c40, s64, rs65, v45 + 1, Hk35, hle36.trans (Hp.le.refl _), slc ⟨rfl, rfl, rfl, rfl, rfl, trivial⟩, hM, hd66, (hn44).trans (put_len _ _ _).symm, (by rw [hrec47]; exact hm)⟩, Nat.lt_succ_self _⟩
    ·
     replace hm := And.right hm hc48
     refine CW.exit ?_
     refine CW.region <| RW.st (Ex.move (.int .i64 v24) rfl) rfl ?_
     obtain ⟨hg67, hm⟩ := hm
     refine RW.st (Ex.add rfl rfl hg67.1 hg67.2) rfl <| RW.st (Ex.assign (.int .i64 (v24 + 1)) rfl) rfl <| RW.nil ?_
     exact And.intro rfl ⟨k25, ⟨v37, A38, n39, c40, s41, rs42, v24 + 1, Hk35, hle15.trans (hle33.trans hle36), slc ⟨rfl, rfl, rfl, rfl, trivial⟩, hM, hd43, hn44, (by rw [hrec26]; exact hm)⟩, Nat.lt_succ_self _⟩
  ·
   replace hm := And.right hm hc27
   refine CW.exit ?_
   refine CW.sr <| RW.st (Ex.move (.slice A17 n18 c19) rfl) rfl <| RW.st (Ex.assign (.slice A17 n18 c19) rfl) rfl <| RW.st (Ex.assign (.int .i64 0) rfl) rfl <| RW.st (Ex.assign (.int .i64 0) rfl) rfl <| RW.nil <| CW.ret ?_
   refine end_tmp3 (.inl rfl) rfl (.slice A17 n18 c19) (.int .i64 0) (.int .i64 0) rfl rfl rfl ?_
   exact ⟨_, _, hM, (v16, 0, 0), hm, A17, n18, c19, s20, rs21, rfl, hd22, hn23, rfl⟩
theorem ref02_Set_lift {H : Hp} (x0 : api_Bitmap) (x1 : api_Extent) {A1 : Option Addr} {n1 c1 : Nat} {s1 : List Value} (hF1 : Fz (α := BitVec 64) H A1 n1 c1 x0.Words s1) {Φ : api_Bitmap × Int → Prop} (hm : ref02_Set_W x0 x1 Φ) : RetP Tryd.prog 66 #[.agg #[.int .i64 x0.Size, .slice A1 n1 c1], .agg #[.int .i64 x1.Start, .int .i64 x1.Count]] H (fun H' v L => ∃ y, Φ y ∧ ∃ A11, ∃ n11, ∃ c11, ∃ s11, v = .tuple #[.agg #[.int .i64 (y.1.Size), .slice A11 n11 c11], .int .i64 (y.2)] ∧ DtL (α := BitVec 64) H' s11 y.1.Words ∧ n11 = y.1.Words.length ∧ L = [.row (.slice A11 n11 c11) 151 1 n11 s11]) := by
 refine RetP.of_code Tryd.func66 rfl (nb rfl) fun w0 hM => ?_
 refine CW.sr ?_
 refine RW.box hM (.agg #[.int .i64 x0.Size, .slice A1 n1 c1]) [.int .i64 x0.Size, .slice A1 n1 c1] rfl rfl rfl rfl ?_; intro b2 w hM
 refine RW.box hM (.agg #[.int .i64 x1.Start, .int .i64 x1.Count]) [.int .i64 x1.Start, .int .i64 x1.Count] rfl rfl rfl rfl ?_; intro b3 w hM
 refine RW.alloc hM tz65 [.int .i64 0, .slice none 0 0] rfl rfl rfl ?_; intro b4 w hM
 refine RW.st (Ex.assign (.int .i64 0) rfl) rfl <| RW.nil <| CW.sr <| RW.st (Ex.loadA hM 2 [.int .i64 x0.Size, .slice A1 n1 c1] ta65 rfl rfl rfl rfl) rfl <| RW.st (Ex.loadA hM 1 [.int .i64 x1.Start, .int .i64 x1.Count] ta103 rfl rfl rfl rfl) rfl ?_
 refine RW.callP hM (ref02_change_lift x0 x1 true hF1 hm) en114 rfl rfl rfl rfl ?_; rintro _ w H6 _ hle7 ⟨v5, hm, A8, n8, c8, s8, rfl, hd9, hn10, rfl⟩ hM
 refine RW.st (Ex.extract rfl rfl) rfl <| RW.st (Ex.extract rfl rfl) rfl ?_
 refine RW.store hM 1 (.agg #[.int .i64 v5.1.Size, .slice A8 n8 c8]) [.int .i64 v5.1.Size, .slice A8 n8 c8] [.int .i64 v5.1.Size, .slice A8 n8 c8] sz65 rfl rfl rfl (oneAll ⟨rfl, rfl, trivial⟩) rfl (nb rfl) rfl [.row (.slice A8 n8 c8) 151 1 n8 s8, .box b4 65 [.int .i64 v5.1.Size, .slice A8 n8 c8], .box b3 103 [.int .i64 x1.Start, .int .i64 x1.Count], .box b2 65 [.int .i64 x0.Size, .slice A1 n1 c1]] rfl rfl rfl ?_; intro w hM
 refine RW.st (Ex.assign (.int .i64 v5.2) rfl) rfl <| RW.nil <| CW.ret ?_
 refine ect (k := 1) (.inl rfl) rfl hM rfl (.int .i64 v5.2) rfl ta65 [.int .i64 v5.1.Size, .slice A8 n8 c8] rfl rfl ?_
 exact ⟨_, _, (hM.pick [0] rfl rfl), (v5.1, v5.2), hm, A8, n8, c8, s8, rfl, hd9, hn10, rfl⟩
theorem image_checkSizes_lift {H : Hp} (x0 : List Int) {A1 : Option Addr} {n1 c1 : Nat} {s1 : List Value} (hF1 : Fz (α := Int) H A1 n1 c1 x0 s1) {Φ : Int → Prop} (hm : image_checkSizes_W x0 Φ) : RetP Tryd.prog 110 #[.slice A1 n1 c1] H (fun _ v L => ∃ y, Φ y ∧ v = .int .i64 (y) ∧ L = []) := by
 refine RetP.of_code Tryd.func110 rfl (nb rfl) fun w0 hM => ?_
 refine CW.sr <| RW.st (Ex.assign (.int .i64 0) rfl) rfl <| RW.nil <| CW.seq ?_
 skip
 refine CW.cut (fun D σ w => D = [] ∧ (∃ τ, σ = sl [(0, .slice A1 n1 c1), (10, .bool (decide (((x0.length : Int) < 1) ∨ (8 < (x0.length : Int)))))] τ) ∧ Mem w0 H w H []) ?_ ?_
 ·
  skip
  refine CW.region <| RW.st (Ex.move (.slice A1 n1 c1) rfl) rfl <| RW.st (Ex.lenN st40.1 rfl hF1.hn) rfl <| RW.st (Ex.lss rfl rfl) rfl <| RW.st (Ex.move (.bool (decide ((x0.length : Int) < 1))) rfl) rfl ?_
  refine RW.split 6 (p := (x0.length : Int) < 1) rfl (fun hc2 => ?_) (fun hc2 => ?_)
  ·
   skip
   refine RW.pp <| RW.pass rfl rfl <| RW.st (Ex.pickT (.bool true) rfl rfl) rfl <| RW.nil ?_
   exact And.intro rfl (And.intro (slc ⟨rfl, (congrArg Value.bool (decide_eq_true (.inl hc2)).symm), trivial⟩) hM)
  ·
   skip
   refine RW.st (Ex.move (.slice A1 n1 c1) rfl) rfl <| RW.st (Ex.lenN st40.1 rfl hF1.hn) rfl <| RW.st (Ex.gtr rfl rfl) rfl <| RW.st (Ex.pickF (.bool (decide (8 < (x0.length : Int)))) rfl rfl) rfl <| RW.nil ?_
   exact And.intro rfl (And.intro (slc ⟨rfl, (congrArg Value.bool (decide_eq_decide.2 (imOr hc2 Iff.rfl))), trivial⟩) hM)
 rintro _ _ w ⟨rfl, ⟨τ, rfl⟩, hM⟩
 refine CW.cond_dec (p := ((x0.length : Int) < 1) ∨ (8 < (x0.length : Int))) rfl (fun hc3 => ?_) (fun hc3 => ?_)
 ·
  replace hm := And.left hm hc3
  refine CW.sr <| RW.st (Ex.assign (.int .i64 6) rfl) rfl <| RW.nil <| CW.ret ?_
  refine tqr ?_
  refine end_tmp (.inl rfl) rfl (.int .i64 6) rfl ?_
  exact ⟨_, _, hM, 6, hm, rfl, rfl⟩
 ·
  replace hm := And.right hm hc3
  refine CW.skip <| CW.seq <| CW.sr <| RW.st (Ex.move (.slice A1 n1 c1) rfl) rfl ?_
  refine RW.callP hM (slices_ContainsFunc_int_int__image_checkSizes_1_lift x0 hF1 hm) en140 rfl rfl rfl rfl ?_; rintro _ w H5 _ hle6 ⟨v4, hm, rfl, rfl⟩ hM
  refine RW.nil ?_
  refine CW.cond_b rfl (fun hc7 => ?_) (fun hc7 => ?_)
  ·
   replace hm := And.left hm hc7
   refine CW.sr <| RW.st (Ex.assign (.int .i64 2) rfl) rfl <| RW.nil <| CW.ret ?_
   refine tqr ?_
   refine end_tmp (.inl rfl) rfl (.int .i64 2) rfl ?_
   exact ⟨_, _, hM, 2, hm, rfl, rfl⟩
  ·
   replace hm := And.right hm hc7
   refine CW.skip <| CW.sr <| RW.st (Ex.assign (.int .i64 0) rfl) rfl <| RW.nil <| CW.ret ?_
   refine end_tmp (.inl rfl) rfl (.int .i64 0) rfl ?_
   exact ⟨_, _, hM, 0, hm, rfl, rfl⟩
theorem bitmap_Or_lift {H : Hp} (x0 : api_Bitmap) (x1 : api_Bitmap) {A1 : Option Addr} {n1 c1 : Nat} {s1 : List Value} (hF1 : Fz (α := BitVec 64) H A1 n1 c1 x0.Words s1) {A2 : Option Addr} {n2 c2 : Nat} {s2 : List Value} (hF2 : Fz (α := BitVec 64) H A2 n2 c2 x1.Words s2) {Φ : api_Bitmap × Int → Prop} (hm : bitmap_Or_W x0 x1 Φ) : RetP Tryd.prog 82 #[.agg #[.int .i64 x0.Size, .slice A1 n1 c1], .agg #[.int .i64 x1.Size, .slice A2 n2 c2]] H (fun H' v L => ∃ y, Φ y ∧ ∃ A12, ∃ n12, ∃ c12, ∃ s12, v = .tuple #[.agg #[.int .i64 (y.1.Size), .slice A12 n12 c12], .int .i64 (y.2)] ∧ DtL (α := BitVec 64) H' s12 y.1.Words ∧ n12 = y.1.Words.length ∧ L = [.row (.slice A12 n12 c12) 151 1 n12 s12]) := by
 refine RetP.of_code Tryd.func82 rfl (nb rfl) fun w0 hM => ?_
 refine CW.sr ?_
 refine RW.box hM (.agg #[.int .i64 x0.Size, .slice A1 n1 c1]) [.int .i64 x0.Size, .slice A1 n1 c1] rfl rfl rfl rfl ?_; intro b3 w hM
 refine RW.box hM (.agg #[.int .i64 x1.Size, .slice A2 n2 c2]) [.int .i64 x1.Size, .slice A2 n2 c2] rfl rfl rfl rfl ?_; intro b4 w hM
 refine RW.alloc hM tz65 [.int .i64 0, .slice none 0 0] rfl rfl rfl ?_; intro b5 w hM
 refine RW.st (Ex.assign (.int .i64 0) rfl) rfl <| RW.nil <| CW.sr <| RW.st (Ex.loadA hM 2 [.int .i64 x0.Size, .slice A1 n1 c1] ta65 rfl rfl rfl rfl) rfl <| RW.st (Ex.loadA hM 1 [.int .i64 x1.Size, .slice A2 n2 c2] ta65 rfl rfl rfl rfl) rfl ?_
 refine RW.callP hM (bitmap_both__bitmap_Or_1_lift x0 x1 hF1 hF2 hm) en125 rfl rfl rfl rfl ?_; rintro _ w H7 _ hle8 ⟨v6, hm, A9, n9, c9, s9, rfl, hd10, hn11, rfl⟩ hM
 refine RW.st (Ex.extract rfl rfl) rfl <| RW.st (Ex.extract rfl rfl) rfl ?_
 refine RW.store hM 1 (.agg #[.int .i64 v6.1.Size, .slice A9 n9 c9]) [.int .i64 v6.1.Size, .slice A9 n9 c9] [.int .i64 v6.1.Size, .slice A9 n9 c9] sz65 rfl rfl rfl (oneAll ⟨rfl, rfl, trivial⟩) rfl (nb rfl) rfl [.row (.slice A9 n9 c9) 151 1 n9 s9, .box b5 65 [.int .i64 v6.1.Size, .slice A9 n9 c9], .box b4 65 [.int .i64 x1.Size, .slice A2 n2 c2], .box b3 65 [.int .i64 x0.Size, .slice A1 n1 c1]] rfl rfl rfl ?_; intro w hM
 refine RW.st (Ex.assign (.int .i64 v6.2) rfl) rfl <| RW.nil <| CW.ret ?_
 refine ect (k := 1) (.inl rfl) rfl hM rfl (.int .i64 v6.2) rfl ta65 [.int .i64 v6.1.Size, .slice A9 n9 c9] rfl rfl ?_
 exact ⟨_, _, (hM.pick [0] rfl rfl), (v6.1, v6.2), hm, A9, n9, c9, s9, rfl, hd10, hn11, rfl⟩
theorem slices_ContainsFunc_int_int__cycle_positions_1_lift {H : Hp} (x0 : List Int) {A1 : Option Addr} {n1 c1 : Nat} {s1 : List Value} (hF1 : Fz (α := Int) H A1 n1 c1 x0 s1) {Φ : Bool → Prop} (hm : slices_ContainsFunc_int_int__cycle_positions_1_W x0 Φ) : RetP Tryd.prog 140 #[.slice A1 n1 c1, .func (.func 141) #[] #[]] H (fun _ v L => ∃ y, Φ y ∧ v = .bool y ∧ L = []) := by
 refine RetP.of_code Tryd.func140 rfl (nb rfl) fun w0 hM => ?_
 refine CW.sr <| RW.st (Ex.assign (.bool false) rfl) rfl <| RW.nil <| CW.sr <| RW.st (Ex.move (.slice A1 n1 c1) rfl) rfl <| RW.st (Ex.move (.func (.func 141) #[] #[]) rfl) rfl ?_
 refine RW.callP hM (slices_IndexFunc_int_int__cycle_positions_1_lift x0 hF1 hm) en157 rfl rfl rfl rfl ?_; rintro _ w H3 _ hle4 ⟨v2, hm, rfl, rfl⟩ hM
 refine RW.st (Ex.geq rfl rfl) rfl <| RW.st (Ex.assign (.bool (decide (0 ≤ v2))) rfl) rfl <| RW.nil <| CW.ret ?_
 refine end_tmp (.inl rfl) rfl (.bool (decide (0 ≤ v2))) rfl ?_
 exact ⟨_, _, hM, decide (0 ≤ v2), hm, rfl, rfl⟩
theorem tracker_each_api_Bitmap_int_bool__tracker_checkBitmaps_1_lift {H : Hp} (x0 : List api_Bitmap) (x1 : List Int) {A1 : Option Addr} {n1 c1 : Nat} {s1 : List Value} (hF1 : Fz (α := api_Bitmap) H A1 n1 c1 x0 s1) {A2 : Option Addr} {n2 c2 : Nat} {s2 : List Value} (hF2 : Fz (α := Int) H A2 n2 c2 x1 s2) {Φ : List Bool × Int → Prop} (hm : tracker_each_api_Bitmap_int_bool__tracker_checkBitmaps_1_W x0 x1 Φ) : RetP Tryd.prog 153 #[.slice A1 n1 c1, .slice A2 n2 c2, .func (.func 154) #[] #[]] H (fun H' v L => ∃ y, Φ y ∧ ∃ A69, ∃ n69, ∃ c69, ∃ s69, v = .tuple #[.slice A69 n69 c69, .int .i64 (y.2)] ∧ DtL (α := Bool) H' s69 y.1 ∧ n69 = y.1.length ∧ L = [.row (.slice A69 n69 c69) 4 1 n69 s69]) := by
 refine RetP.of_code Tryd.func153 rfl (nb rfl) fun w0 hM => ?_
 refine CW.sr <| RW.st (Ex.assign (.slice none 0 0) rfl) rfl <| RW.st (Ex.assign (.int .i64 0) rfl) rfl <| RW.nil <| CW.sr <| RW.st (Ex.assign (.slice none 0 0) rfl) rfl <| RW.nil <| CW.seq <| CW.sr <| RW.st (Ex.move (.slice A1 n1 c1) rfl) rfl <| RW.st (Ex.lenN st23.1 rfl hF1.hn) rfl ?_
 refine RW.st (Ex.move (.int .i64 0) rfl) rfl <| RW.nil <| CW.block ?_
 obtain ⟨m68, hm⟩ := hm
 skip
 replace hM := hM.nilRow 4 1
 refine CW.loop (β := Nat) (fun n σ w => ∃ (v5 : List Bool), ∃ (A6 : Option Addr), ∃ (n7 : Nat), ∃ (c8 : Nat), ∃ (s9 : List Value), ∃ (v12 : Int), ∃ Hk3, H.le Hk3 ∧ (∃ τ, σ = sl [(0, .slice A1 n1 c1), (1, .slice A2 n2 c2), (2, .func (.func 154) #[] #[]), (8, .slice A6 n7 c8), (13, .int .i64 ((x0.length : Int))), (14, .int .i64 v12)] τ) ∧ Mem w0 H w Hk3 [.row (.slice A6 n7 c8) 4 1 n7 s9] ∧ (DtL (α := Bool) Hk3 s9 v5) ∧ (n7 = v5.length) ∧ LoopN (tracker_each_api_Bitmap_int_bool__tracker_checkBitmaps_1_L1 x0 x1 Φ) n (v5, v12)) (fun n => n) m68 ⟨([] : List Bool), none, 0, 0, [], 0, H, (Hp.le.refl _), slc ⟨rfl, rfl, rfl, rfl, rfl, rfl, trivial⟩, hM, (DtL.nil : DtL _ [] ([] : List Bool)), rfl, hm⟩ ?_
 rintro k13 _ w ⟨v5, A6, n7, c8, s9, v12, Hk3, hle4, ⟨τ, rfl⟩, hM, hd10, hn11, hm⟩
 obtain _ | k13 := k13
 · exact hm.elim
 replace hm : (tracker_each_api_Bitmap_int_bool__tracker_checkBitmaps_1_L1 x0 x1 Φ) (v5, v12) (LoopN (tracker_each_api_Bitmap_int_bool__tracker_checkBitmaps_1_L1 x0 x1 Φ) k13) := hm
 generalize hrec14 : LoopN (tracker_each_api_Bitmap_int_bool__tracker_checkBitmaps_1_L1 x0 x1 Φ) k13 = rec1 at hm
 refine CW.sr <| RW.st (Ex.lss rfl rfl) rfl <| RW.nil <| CW.seq ?_
 refine CW.cond_dec (p := v12 < (x0.length : Int)) rfl (fun hc15 => ?_) (fun hc15 => ?_)
 ·
  replace hm := And.left hm hc15
  refine CW.skip <| CW.seq <| CW.block <| CW.sr <| RW.st (Ex.move (.int .i64 v12) rfl) rfl <| RW.st (Ex.assign (.int .i64 v12) rfl) rfl <| RW.nil <| CW.seq ?_
  obtain ⟨hg16, hm⟩ := hm
  obtain ⟨_, ⟨A17, n17, c17, s17, rfl, hF17⟩, hx18⟩ := DtL.getI (α := api_Bitmap) (hF1.mono hle4).dat hg16
  obtain ⟨hg19, hm⟩ := hm
  obtain ⟨_, rfl, hx20⟩ := DtL.getI (α := Int) (hF2.mono hle4).dat hg19
  obtain ⟨v21, hW22, hm⟩ := hm
  refine CW.drawL 15 [] [(fun Hq us E => us = [.func (.func 154) #[] #[]] ∧ E = [] ∧ True), (fun Hq us E => us = [.slice A1 n1 c1] ∧ E = [] ∧ True), (fun Hq us E => us = [.int .i64 v12] ∧ E = [] ∧ True), (fun Hq us E => us = [elp A1 (v12.toNat * 2 + 0)] ∧ E = [] ∧ True), (fun Hq us E => us = [.agg #[.int .i64 ((ix x0 v12).Size), .slice A17 n17 c17]] ∧ E = [] ∧ True), (fun Hq us E => us = [.slice A2 n2 c2] ∧ E = [] ∧ True), (fun Hq us E => us = [.int .i64 v12] ∧ E = [] ∧ True), (fun Hq us E => us = [elp A2 (v12.toNat * 1 + 0)] ∧ E = [] ∧ True), (fun Hq us E => us = [.int .i64 ((ix x1 v12))] ∧ E = [] ∧ True), (fun Hq us E => us = [.tuple #[.bool v21.1, .int .i64 v21.2]] ∧ E = [] ∧ True), (fun Hq us E => us = [.tuple #[.bool v21.1, .int .i64 v21.2]] ∧ E = [] ∧ True), (fun Hq us E => us = [.bool v21.1] ∧ E = [] ∧ True), (fun Hq us E => us = [.int .i64 v21.2] ∧ E = [] ∧ True), (fun Hq us E => us = [.bool v21.1] ∧ E = [] ∧ True), (fun Hq us E => us = [.int .i64 v21.2] ∧ E = [] ∧ True)]
   (fun k => [[0], [1], [2], [3], [4], [5], [6], [7], [8], [9], [10], [11], [12], [13], [14]].getD k []) (fun _ => none) (by kernel_rfl) hM (by kernel_rfl) (by kernel_rfl) (by kernel_rfl) rfl (by simp only [List.forall_mem_cons]; exact ⟨fun _ _ _ _ hle ⟨e1, e2, _⟩ => ⟨e1, e2, trivial⟩, fun _ _ _ _ hle ⟨e1, e2, _⟩ => ⟨e1, e2, trivial⟩, fun _ _ _ _ hle ⟨e1, e2, _⟩ => ⟨e1, e2, trivial⟩, fun _ _ _ _ hle ⟨e1, e2, _⟩ => ⟨e1, e2, trivial⟩, fun _ _ _ _ hle ⟨e1, e2, _⟩ => ⟨e1, e2, trivial⟩, fun _ _ _ _ hle ⟨e1, e2, _⟩ => ⟨e1, e2, trivial⟩, fun _ _ _ _ hle ⟨e1, e2, _⟩ => ⟨e1, e2, trivial⟩, fun _ _ _ _ hle ⟨e1, e2, _⟩ => ⟨e1, e2, trivial⟩, fun _ _ _ _ hle ⟨e1, e2, _⟩ => ⟨e1, e2, trivial⟩, fun _ _ _ _ hle ⟨e1, e2, _⟩ => ⟨e1, e2, trivial⟩, fun _ _ _ _ hle ⟨e1, e2, _⟩ => ⟨e1, e2, trivial⟩, fun _ _ _ _ hle ⟨e1, e2, _⟩ => ⟨e1, e2, trivial⟩, fun _ _ _ _ hle ⟨e1, e2, _⟩ => ⟨e1, e2, trivial⟩, fun _ _ _ _ hle ⟨e1, e2, _⟩ => ⟨e1, e2, trivial⟩, fun _ _ _ _ hle ⟨e1, e2, _⟩ => ⟨e1, e2, trivial⟩, by simp⟩) ⟨?_, ?_, ?_, ?_, ?_, ?_, ?_, ?_, ?_, ?_, ?_, ?_, ?_, ?_, ?_, trivial⟩ ?_
  ·
   intro H' σ' w R E hle hMR hE0 hE hp hf
   obtain rfl := hE0 rfl
   obtain ⟨τ, rfl⟩ := slc (σ := σ') (l := [(2, .func (.func 154) #[] #[])]) ⟨(hf 2 (by kernel_rfl)).trans rfl, trivial⟩
   have hM := Mem.subR (R := R) hMR
   exact RW.step (Ex.move (.func (.func 154) #[] #[]) rfl) rfl rfl rfl (RW.nil ⟨rfl, rfl, _, rfl, H', [], Hp.le.refl _, hMR, rfl, rfl, trivial⟩)
  ·
   intro H' σ' w R E hle hMR hE0 hE hp hf
   obtain rfl := hE0 rfl
   obtain ⟨τ, rfl⟩ := slc (σ := σ') (l := [(0, .slice A1 n1 c1)]) ⟨(hf 0 (by kernel_rfl)).trans rfl, trivial⟩
   have hM := Mem.subR (R := R) hMR
   exact RW.step (Ex.move (.slice A1 n1 c1) rfl) rfl rfl rfl (RW.nil ⟨rfl, rfl, _, rfl, H', [], Hp.le.refl _, hMR, rfl, rfl, trivial⟩)
  ·
   intro H' σ' w R E hle hMR hE0 hE hp hf
   obtain rfl := hE0 rfl
   obtain ⟨τ, rfl⟩ := slc (σ := σ') (l := [(9, .int .i64 v12)]) ⟨(hf 9 (by kernel_rfl)).trans rfl, trivial⟩
   have hM := Mem.subR (R := R) hMR
   exact RW.step (Ex.move (.int .i64 v12) rfl) rfl rfl rfl (RW.nil ⟨rfl, rfl, _, rfl, H', [], Hp.le.refl _, hMR, rfl, rfl, trivial⟩)
  ·
   intro H' σ' w R E hle hMR hE0 hE hp hf
   obtain rfl := hE0 rfl
   obtain ⟨_, hg⟩ := hp 1 (by decide) (by kernel_rfl)
   obtain ⟨e23, _, _⟩ := hg.get rfl
   have e24 : σ' 19 = .slice A1 n1 c1 := (List.cons.inj e23).1
   obtain ⟨_, hg⟩ := hp 2 (by decide) (by kernel_rfl)
   obtain ⟨e25, _, _⟩ := hg.get rfl
   have e26 : σ' 20 = .int .i64 v12 := (List.cons.inj e25).1
   obtain ⟨τ, rfl⟩ := slc (σ := σ') (l := [(19, .slice A1 n1 c1), (20, .int .i64 v12)]) ⟨e24, e26, trivial⟩
   have hM := Mem.subR (R := R) hMR
   exact RW.step (Ex.index st23 rfl rfl v12.toNat (hF1.ne hg16) hg16.nat (hF1.lt hg16)) rfl rfl rfl (RW.nil ⟨rfl, rfl, _, rfl, H', [], Hp.le.refl _, hMR, rfl, rfl, trivial⟩)
  ·
   intro H' σ' w R E hle hMR hE0 hE hp hf
   obtain rfl := hE0 rfl
   obtain ⟨_, hg⟩ := hp 3 (by decide) (by kernel_rfl)
   obtain ⟨e27, _, _⟩ := hg.get rfl
   have e28 : σ' 21 = elp A1 (v12.toNat * 2 + 0) := (List.cons.inj e27).1
   obtain ⟨τ, rfl⟩ := slc (σ := σ') (l := [(21, elp A1 (v12.toNat * 2 + 0))]) ⟨e28, trivial⟩
   have hM := Mem.subR (R := R) hMR
   exact RW.step (Ex.loadEA hM (hle4.trans hle) hF1.rdc [.int .i64 ((ix x0 v12).Size), .slice A17 n17 c17] ta65 rfl (hF1.ne hg16) rfl (chunk_sub (off := 0) (n := 2) hx18 rfl)) rfl rfl rfl (RW.nil ⟨rfl, rfl, _, rfl, H', [], Hp.le.refl _, hMR, rfl, rfl, trivial⟩)
  ·
   intro H' σ' w R E hle hMR hE0 hE hp hf
   obtain rfl := hE0 rfl
   obtain ⟨τ, rfl⟩ := slc (σ := σ') (l := [(1, .slice A2 n2 c2)]) ⟨(hf 1 (by kernel_rfl)).trans rfl, trivial⟩
   have hM := Mem.subR (R := R) hMR
   exact RW.step (Ex.move (.slice A2 n2 c2) rfl) rfl rfl rfl (RW.nil ⟨rfl, rfl, _, rfl, H', [], Hp.le.refl _, hMR, rfl, rfl, trivial⟩)
  ·
   intro H' σ' w R E hle hMR hE0 hE hp hf
   obtain rfl := hE0 rfl
   obtain ⟨τ, rfl⟩ := slc (σ := σ') (l := [(9, .int .i64 v12)]) ⟨(hf 9 (by kernel_rfl)).trans rfl, trivial⟩
   have hM := Mem.subR (R := R) hMR
   exact RW.step (Ex.move (.int .i64 v12) rfl) rfl rfl rfl (RW.nil ⟨rfl, rfl, _, rfl, H', [], Hp.le.refl _, hMR, rfl, rfl, trivial⟩)
  ·
   intro H' σ' w R E hle hMR hE0 hE hp hf
   obtain rfl := hE0 rfl
   obtain ⟨_, hg⟩ := hp 5 (by decide) (by kernel_rfl)
   obtain ⟨e29, _, _⟩ := hg.get rfl
   have e30 : σ' 23 = .slice A2 n2 c2 := (List.cons.inj e29).1
   obtain ⟨_, hg⟩ := hp 6 (by decide) (by kernel_rfl)
   obtain ⟨e31, _, _⟩ := hg.get rfl
   have e32 : σ' 24 = .int .i64 v12 := (List.cons.inj e31).1
   obtain ⟨τ, rfl⟩ := slc (σ := σ') (l := [(23, .slice A2 n2 c2), (24, .int .i64 v12)]) ⟨e30, e32, trivial⟩
   have hM := Mem.subR (R := R) hMR
   exact RW.step (Ex.index st40 rfl rfl v12.toNat (hF2.ne hg19) hg19.nat (hF2.lt hg19)) rfl rfl rfl (RW.nil ⟨rfl, rfl, _, rfl, H', [], Hp.le.refl _, hMR, rfl, rfl, trivial⟩)
  ·
   intro H' σ' w R E hle hMR hE0 hE hp hf
   obtain rfl := hE0 rfl
   obtain ⟨_, hg⟩ := hp 7 (by decide) (by kernel_rfl)
   obtain ⟨e33, _, _⟩ := hg.get rfl
   have e34 : σ' 25 = elp A2 (v12.toNat * 1 + 0) := (List.cons.inj e33).1
   obtain ⟨τ, rfl⟩ := slc (σ := σ') (l := [(25, elp A2 (v12.toNat * 1 + 0))]) ⟨e34, trivial⟩
   have hM := Mem.subR (R := R) hMR
   exact RW.step (Ex.loadE hM (hle4.trans hle) hF2.rdc to3 rfl (hx20 0 _ rfl)) rfl rfl rfl (RW.nil ⟨rfl, rfl, _, rfl, H', [], Hp.le.refl _, hMR, rfl, rfl, trivial⟩)
  ·
   intro H' σ' w R E hle hMR hE0 hE hp hf
   obtain rfl := hE0 rfl
   obtain ⟨_, hg⟩ := hp 0 (by decide) (by kernel_rfl)
   obtain ⟨e35, _, _⟩ := hg.get rfl
   have e36 : σ' 18 = .func (.func 154) #[] #[] := (List.cons.inj e35).1
   obtain ⟨_, hg⟩ := hp 4 (by decide) (by kernel_rfl)
   obtain ⟨e37, _, _⟩ := hg.get rfl
   have e38 : σ' 22 = .agg #[.int .i64 ((ix x0 v12).Size), .slice A17 n17 c17] := (List.cons.inj e37).1
   obtain ⟨_, hg⟩ := hp 8 (by decide) (by kernel_rfl)
   obtain ⟨e39, _, _⟩ := hg.get rfl
   have e40 : σ' 26 = .int .i64 ((ix x1 v12)) := (List.cons.inj e39).1
   obtain ⟨τ, rfl⟩ := slc (σ := σ') (l := [(18, .func (.func 154) #[] #[]), (22, .agg #[.int .i64 ((ix x0 v12).Size), .slice A17 n17 c17]), (26, .int .i64 ((ix x1 v12)))]) ⟨e36, e38, e40, trivial⟩
   have hM := Mem.subR (R := R) hMR
   refine RW.callP hMR (tracker_checkBitmaps_1_lift (ix x0 v12) (ix x1 v12) (hF17.mono hle) hW22) en154 rfl rfl rfl rfl ?_; rintro _ w HS9 _ hleS ⟨_, rfl, rfl, rfl⟩ hMR
   exact RW.nil ⟨rfl, rfl, _, rfl, HS9, [], hleS, hMR, rfl, rfl, trivial⟩
  ·
   intro H' σ' w R E hle hMR hE0 hE hp hf
   obtain rfl := hE0 rfl
   obtain ⟨_, hg⟩ := hp 9 (by decide) (by kernel_rfl)
   obtain ⟨e41, _, _⟩ := hg.get rfl
   have e42 : σ' 27 = .tuple #[.bool v21.1, .int .i64 v21.2] := (List.cons.inj e41).1
   obtain ⟨τ, rfl⟩ := slc (σ := σ') (l := [(27, .tuple #[.bool v21.1, .int .i64 v21.2])]) ⟨e42, trivial⟩
   have hM := Mem.subR (R := R) hMR
   exact RW.step (Ex.move (.tuple #[.bool v21.1, .int .i64 v21.2]) rfl) rfl rfl rfl (RW.nil ⟨rfl, rfl, _, rfl, H', [], Hp.le.refl _, hMR, rfl, rfl, trivial⟩)
  ·
   intro H' σ' w R E hle hMR hE0 hE hp hf
   obtain rfl := hE0 rfl
   obtain ⟨_, hg⟩ := hp 10 (by decide) (by kernel_rfl)
   obtain ⟨e43, _, _⟩ := hg.get rfl
   have e44 : σ' 17 = .tuple #[.bool v21.1, .int .i64 v21.2] := (List.cons.inj e43).1
   obtain ⟨τ, rfl⟩ := slc (σ := σ') (l := [(17, .tuple #[.bool v21.1, .int .i64 v21.2])]) ⟨e44, trivial⟩
   have hM := Mem.subR (R := R) hMR
   exact RW.step (Ex.extract rfl rfl) rfl rfl rfl (RW.nil ⟨rfl, rfl, _, rfl, H', [], Hp.le.refl _, hMR, rfl, rfl, trivial⟩)
  ·
   intro H' σ' w R E hle hMR hE0 hE hp hf
   obtain rfl := hE0 rfl
   obtain ⟨_, hg⟩ := hp 10 (by decide) (by kernel_rfl)
   obtain ⟨e45, _, _⟩ := hg.get rfl
   have e46 : σ' 17 = .tuple #[.bool v21.1, .int .i64 v21.2] := (List.cons.inj e45).1
   obtain ⟨τ, rfl⟩ := slc (σ := σ') (l := [(17, .tuple #[.bool v21.1, .int .i64 v21.2])]) ⟨e46, trivial⟩
   have hM := Mem.subR (R := R) hMR
   exact RW.step (Ex.extract rfl rfl) rfl rfl rfl (RW.nil ⟨rfl, rfl, _, rfl, H', [], Hp.le.refl _, hMR, rfl, rfl, trivial⟩)
  ·
   intro H' σ' w R E hle hMR hE0 hE hp hf
   obtain rfl := hE0 rfl
   obtain ⟨_, hg⟩ := hp 11 (by decide) (by kernel_rfl)
   obtain ⟨e47, _, _⟩ := hg.get rfl
   have e48 : σ' 28 = .bool v21.1 := (List.cons.inj e47).1
   obtain ⟨τ, rfl⟩ := slc (σ := σ') (l := [(28, .bool v21.1)]) ⟨e48, trivial⟩
   have hM := Mem.subR (R := R) hMR
   exact RW.step (Ex.assign (.bool v21.1) rfl) rfl rfl rfl (RW.nil ⟨rfl, rfl, _, rfl, H', [], Hp.le.refl _, hMR, rfl, rfl, trivial⟩)
  ·
   intro H' σ' w R E hle hMR hE0 hE hp hf
   obtain rfl := hE0 rfl
   obtain ⟨_, hg⟩ := hp 12 (by decide) (by kernel_rfl)
   obtain ⟨e49, _, _⟩ := hg.get rfl
   have e50 : σ' 29 = .int .i64 v21.2 := (List.cons.inj e49).1
   obtain ⟨τ, rfl⟩ := slc (σ := σ') (l := [(29, .int .i64 v21.2)]) ⟨e50, trivial⟩
   have hM := Mem.subR (R := R) hMR
   exact RW.step (Ex.assign (.int .i64 v21.2) rfl) rfl rfl rfl (RW.nil ⟨rfl, rfl, _, rfl, H', [], Hp.le.refl _, hMR, rfl, rfl, trivial⟩)
  ·
   intro HR8 σ' w X miss hms hleR hM hX hX0 hf
   simp [subs] at hms
   rcases hms with rfl
   ·
    obtain ⟨H51, hH8⟩ : ∃ x, x = HR8 := ⟨_, rfl⟩
    subst hH8
    have hle52 := hleR
    obtain ⟨_, g0, y0⟩ := hX 0 (by decide) (by kernel_rfl)
    obtain ⟨_, rfl, _⟩ := g0.get rfl
    replace y0 : X 0 = [] := y0
    obtain ⟨_, g0, y1⟩ := hX 1 (by decide) (by kernel_rfl)
    obtain ⟨_, rfl, _⟩ := g0.get rfl
    replace y1 : X 1 = [] := y1
    obtain ⟨_, g0, y2⟩ := hX 2 (by decide) (by kernel_rfl)
    obtain ⟨_, rfl, _⟩ := g0.get rfl
    replace y2 : X 2 = [] := y2
    obtain ⟨_, g0, y3⟩ := hX 3 (by decide) (by kernel_rfl)
    obtain ⟨_, rfl, _⟩ := g0.get rfl
    replace y3 : X 3 = [] := y3
    obtain ⟨_, g0, y4⟩ := hX 4 (by decide) (by kernel_rfl)
    obtain ⟨_, rfl, _⟩ := g0.get rfl
    replace y4 : X 4 = [] := y4
    obtain ⟨_, g0, y5⟩ := hX 5 (by decide) (by kernel_rfl)
    obtain ⟨_, rfl, _⟩ := g0.get rfl
    replace y5 : X 5 = [] := y5
    obtain ⟨_, g0, y6⟩ := hX 6 (by decide) (by kernel_rfl)
    obtain ⟨_, rfl, _⟩ := g0.get rfl
    replace y6 : X 6 = [] := y6
    obtain ⟨_, g0, y7⟩ := hX 7 (by decide) (by kernel_rfl)
    obtain ⟨_, rfl, _⟩ := g0.get rfl
    replace y7 : X 7 = [] := y7
    obtain ⟨_, g0, y8⟩ := hX 8 (by decide) (by kernel_rfl)
    obtain ⟨_, rfl, _⟩ := g0.get rfl
    replace y8 : X 8 = [] := y8
    obtain ⟨_, g0, y9⟩ := hX 9 (by decide) (by kernel_rfl)
    obtain ⟨_, rfl, _⟩ := g0.get rfl
    replace y9 : X 9 = [] := y9
    obtain ⟨_, g0, y10⟩ := hX 10 (by decide) (by kernel_rfl)
    obtain ⟨_, rfl, _⟩ := g0.get rfl
    replace y10 : X 10 = [] := y10
    obtain ⟨_, g0, y11⟩ := hX 11 (by decide) (by kernel_rfl)
    obtain ⟨_, rfl, _⟩ := g0.get rfl
    replace y11 : X 11 = [] := y11
    obtain ⟨_, g0, y12⟩ := hX 12 (by decide) (by kernel_rfl)
    obtain ⟨_, rfl, _⟩ := g0.get rfl
    replace y12 : X 12 = [] := y12
    obtain ⟨_, g0, y13⟩ := hX 13 (by decide) (by kernel_rfl)
    obtain ⟨e53, rfl, _⟩ := g0.get rfl
    have e54 : σ' 10 = .bool v21.1 := (List.cons.inj e53).1
    replace y13 : X 13 = [] := y13
    obtain ⟨_, g0, y14⟩ := hX 14 (by decide) (by kernel_rfl)
    obtain ⟨e55, rfl, _⟩ := g0.get rfl
    have e56 : σ' 11 = .int .i64 v21.2 := (List.cons.inj e55).1
    replace y14 : X 14 = [] := y14
    have hfl : flatX X 15 = [] := by
     show X 0 ++ (X 1 ++ (X 2 ++ (X 3 ++ (X 4 ++ (X 5 ++ (X 6 ++ (X 7 ++ (X 8 ++ (X 9 ++ (X 10 ++ (X 11 ++ (X 12 ++ (X 13 ++ (X 14 ++ [])))))))))))))) = _
     rw [y0, y1, y2, y3, y4, y5, y6, y7, y8, y9, y10, y11, y12, y13, y14]; rfl
    rw [hfl] at hM
    obtain ⟨τ, rfl⟩ := slc (σ := σ') (l := [(0, .slice A1 n1 c1), (1, .slice A2 n2 c2), (2, .func (.func 154) #[] #[]), (8, .slice A6 n7 c8), (10, .bool v21.1), (11, .int .i64 v21.2), (13, .int .i64 ((x0.length : Int))), (14, .int .i64 v12)]) ⟨(hf 0 (by kernel_rfl)).trans rfl, (hf 1 (by kernel_rfl)).trans rfl, (hf 2 (by kernel_rfl)).trans rfl, (hf 8 (by kernel_rfl)).trans rfl, e54, e56, (hf 13 (by kernel_rfl)).trans rfl, (hf 14 (by kernel_rfl)).trans rfl, trivial⟩
    change RA _ _ _ _ _ _ _ (sl [(0, .slice A1 n1 c1), (1, .slice A2 n2 c2), (2, .func (.func 154) #[] #[]), (8, .slice A6 n7 c8), (10, .bool v21.1), (11, .int .i64 v21.2), (13, .int .i64 ((x0.length : Int))), (14, .int .i64 v12)] τ) _ 15 _
    refine RA.done (by kernel_rfl) ?_
    refine CW.seq <| CW.sr <| RW.st (Ex.move (.int .i64 v21.2) rfl) rfl <| RW.st (Ex.neq rfl rfl) rfl <| RW.nil ?_
    refine CW.cond_dec (p := v21.2 ≠ 0) rfl (fun hc57 => ?_) (fun hc57 => ?_)
    ·
     replace hm := And.left hm hc57
     refine CW.sr <| RW.st (Ex.move (.int .i64 v21.2) rfl) rfl <| RW.st (Ex.assign (.slice none 0 0) rfl) rfl <| RW.st (Ex.assign (.int .i64 v21.2) rfl) rfl <| RW.nil <| CW.ret ?_
     refine tqr (bqr (tqr (tqr (bqr (tqr ?_)))))
     refine end_tmp2 (.inl rfl) rfl (.slice none 0 0) (.int .i64 v21.2) rfl rfl ?_
     replace hM := hM.nilRow 4 1
     exact ⟨_, _, (hM.pick [0] rfl rfl), (([] : List Bool), v21.2), hm, none, 0, 0, [], rfl, (DtL.nil : DtL _ [] ([] : List Bool)), rfl, rfl⟩
    ·
     replace hm := And.right hm hc57
     refine CW.skip <| CW.region <| RW.st (Ex.move (.slice A6 n7 c8) rfl) rfl <| RW.st (Ex.move (.bool v21.1) rfl) rfl ?_
     refine RW.buildSlice hM st80 tz4 [(0, .bool v21.1)] [.bool v21.1] (by decide) rfl rfl rfl (by decide) rfl rfl ?_; intro b58 w hM
     have hd59 : DtL H51 [.bool v21.1] ([v21.1] : List Bool) := (DtL.cons (c1 := [.bool v21.1]) rfl DtL.nil)
     obtain ⟨hg66, hm⟩ := hm
     refine RW.appendD (α := Bool) (xs := v5) (ys := ([v21.1] : List Bool)) hM 1 st80 rfl rfl (hd10.mono hle52) hn11 rfl (fun j u hj => hM.rowCell (k := 0) rfl rfl hj) hd59 rfl hg66 rfl rfl ?_; intro A60 n61 c62 s63 w hd64 hn65 hM
     refine RW.st (Ex.assign (.slice A60 n61 c62) rfl) rfl <| RW.nil <| CW.region ?_
     obtain ⟨hg67, hm⟩ := hm
     refine RW.st (Ex.add rfl rfl hg67.1 hg67.2) rfl <| RW.st (Ex.move (.int .i64 (v12 + 1)) rfl) rfl <| RW.nil ?_
     exact And.intro rfl ⟨k13, ⟨(v5 ++ ([v21.1] : List Bool)), A60, n61, c62, s63, v12 + 1, H51, hle4.trans hle52, slc ⟨rfl, rfl, rfl, rfl, rfl, rfl, trivial⟩, (hM.pick [1] rfl rfl), hd64, hn65, (by rw [hrec14]; exact hm)⟩, Nat.lt_succ_self _⟩
 ·
  replace hm := And.right hm hc15
  refine CW.exit ?_
  refine CW.sr <| RW.st (Ex.move (.slice A6 n7 c8) rfl) rfl <| RW.st (Ex.assign (.slice A6 n7 c8) rfl) rfl <| RW.st (Ex.assign (.int .i64 0) rfl) rfl <| RW.nil <| CW.ret ?_
  refine end_tmp2 (.inl rfl) rfl (.slice A6 n7 c8) (.int .i64 0) rfl rfl ?_
  exact ⟨_, _, hM, (v5, 0), hm, A6, n7, c8, s9, rfl, hd10, hn11, rfl⟩
theorem ref02_FromExtents_lift {H : Hp} (x0 : Int) (x1 : List api_Extent) {A1 : Option Addr} {n1 c1 : Nat} {s1 : List Value} (hF1 : Fz (α := api_Extent) H A1 n1 c1 x1 s1) {Φ : api_Bitmap × Int → Prop} (hm : ref02_FromExtents_W x0 x1 Φ) : RetP Tryd.prog 26 #[.int .i64 x0, .slice A1 n1 c1] H (fun H' v L => ∃ y, Φ y ∧ ∃ A91, ∃ n91, ∃ c91, ∃ s91, v = .tuple #[.agg #[.int .i64 (y.1.Size), .slice A91 n91 c91], .int .i64 (y.2)] ∧ Fz (α := BitVec 64) H' A91 n91 c91 y.1.Words s91 ∧ L = []) := by
 refine RetP.of_code Tryd.func26 rfl (nb rfl) fun w0 hM => ?_
 refine CW.sr ?_
 refine RW.alloc hM tz65 [.int .i64 0, .slice none 0 0] rfl rfl rfl ?_; intro b2 w hM
 refine RW.st (Ex.assign (.int .i64 0) rfl) rfl <| RW.nil <| CW.sr <| RW.st (Ex.move (.int .i64 x0) rfl) rfl ?_
 refine RW.callP hM (ref02_New_lift x0 hm) en65 rfl rfl rfl rfl ?_; rintro _ w H4 _ hle5 ⟨v3, hm, A6, n6, c6, s6, rfl, hd7, hn8, rfl⟩ hM
 refine RW.st (Ex.move (.tuple #[.agg #[.int .i64 v3.1.Size, .slice A6 n6 c6], .int .i64 v3.2]) rfl) rfl <| RW.st (Ex.extract rfl rfl) rfl <| RW.st (Ex.extract rfl rfl) rfl ?_
 refine RW.alloc hM tz65 [.int .i64 0, .slice none 0 0] rfl rfl rfl ?_; intro b9 w hM
 refine RW.store hM 0 (.agg #[.int .i64 v3.1.Size, .slice A6 n6 c6]) [.int .i64 v3.1.Size, .slice A6 n6 c6] [.int .i64 v3.1.Size, .slice A6 n6 c6] sz65 rfl rfl rfl (oneAll ⟨rfl, rfl, trivial⟩) rfl (nb rfl) rfl [.box b9 65 [.int .i64 v3.1.Size, .slice A6 n6 c6], .row (.slice A6 n6 c6) 151 1 n6 s6, .box b2 65 [.int .i64 0, .slice none 0 0]] rfl rfl rfl ?_; intro w hM
 refine RW.st (Ex.assign (.int .i64 v3.2) rfl) rfl <| RW.nil <| CW.seq <| CW.sr <| RW.st (Ex.assign (.int .i64 0) rfl) rfl <| RW.nil <| CW.block ?_
 obtain ⟨m90, hm⟩ := hm
 skip
 obtain ⟨H21, hM, hle22, hF23⟩ := hM.giveF (α := BitVec 64) 1 rfl hd7 hn8
 refine CW.loop (β := Nat) (fun n σ w => ∃ (v12 : Int), ∃ (v13 : List (BitVec 64)), ∃ (A14 : Option Addr), ∃ (n15 : Nat), ∃ (c16 : Nat), ∃ (s17 : List Value), ∃ (v19 : Int), ∃ (v20 : Int), ∃ Hk10, H4.le Hk10 ∧ (∃ τ, σ = sl [(1, .slice A1 n1 c1), (4, .pointer (some ⟨b2, 0, none⟩)), (6, .pointer (some ⟨b9, 0, none⟩)), (7, .int .i64 v19), (8, .int .i64 v20)] τ) ∧ Mem w0 H w Hk10 [.box b2 65 [.int .i64 0, .slice none 0 0], .box b9 65 [.int .i64 v12, .slice A14 n15 c16]] ∧ (Fz (α := BitVec 64) Hk10 A14 n15 c16 v13 s17) ∧ LoopN (ref02_FromExtents_L1 x1 Φ) n (v12, v13, v19, v20)) (fun n => n) m90 ⟨v3.1.Size, v3.1.Words, A6, n6, c6, s6, v3.2, 0, H21, hle22, slc ⟨rfl, rfl, rfl, rfl, rfl, trivial⟩, (hM.pick [1, 0] rfl rfl), hF23, hm⟩ ?_
 rintro k24 _ w ⟨v12, v13, A14, n15, c16, s17, v19, v20, Hk10, hle11, ⟨τ, rfl⟩, hM, hF18, hm⟩
 obtain _ | k24 := k24
 · exact hm.elim
 replace hm : (ref02_FromExtents_L1 x1 Φ) (v12, v13, v19, v20) (LoopN (ref02_FromExtents_L1 x1 Φ) k24) := hm
 generalize hrec25 : LoopN (ref02_FromExtents_L1 x1 Φ) k24 = rec1 at hm
 refine CW.seq ?_
 skip
 refine CW.cut (fun D σ w => D = [] ∧ (∃ τ, σ = sl [(1, .slice A1 n1 c1), (4, .pointer (some ⟨b2, 0, none⟩)), (6, .pointer (some ⟨b9, 0, none⟩)), (7, .int .i64 v19), (8, .int .i64 v20), (21, .bool (decide ((v20 < (x1.length : Int)) ∧ (v19 = 0))))] τ) ∧ Mem w0 H w Hk10 [.box b2 65 [.int .i64 0, .slice none 0 0], .box b9 65 [.int .i64 v12, .slice A14 n15 c16]]) ?_ ?_
 ·
  skip
  refine CW.region <| RW.st (Ex.move (.int .i64 v20) rfl) rfl <| RW.st (Ex.move (.slice A1 n1 c1) rfl) rfl <| RW.st (Ex.lenN st68.1 rfl hF1.hn) rfl <| RW.st (Ex.lss rfl rfl) rfl <| RW.st (Ex.move (.bool (decide (v20 < (x1.length : Int)))) rfl) rfl ?_
  refine RW.split 18 (p := v20 < (x1.length : Int)) rfl (fun hc26 => ?_) (fun hc26 => ?_)
  ·
   skip
   refine RW.st (Ex.move (.int .i64 v19) rfl) rfl <| RW.st (Ex.eql rfl rfl) rfl <| RW.st (Ex.pickT (.bool (decide (v19 = 0))) rfl rfl) rfl <| RW.nil ?_
   exact And.intro rfl (And.intro (slc ⟨rfl, rfl, rfl, rfl, rfl, (congrArg Value.bool (decide_eq_decide.2 (imAnd hc26 Iff.rfl))), trivial⟩) hM)
  ·
   skip
   refine RW.pp <| RW.st (Ex.pickF (.bool false) rfl rfl) rfl <| RW.nil ?_
   exact And.intro rfl (And.intro (slc ⟨rfl, rfl, rfl, rfl, rfl, (congrArg Value.bool (decide_eq_false (fun q => hc26 q.1)).symm), trivial⟩) hM)
 rintro _ _ w ⟨rfl, ⟨τ, rfl⟩, hM⟩
 refine CW.cond_dec (p := (v20 < (x1.length : Int)) ∧ (v19 = 0)) rfl (fun hc27 => ?_) (fun hc27 => ?_)
 ·
  replace hm := And.left hm hc27
  refine CW.skip <| CW.seq <| CW.block ?_
  obtain ⟨hg47, hm⟩ := hm
  obtain ⟨_, rfl, hx48⟩ := DtL.getI (α := api_Extent) (hF1.mono (hle5.trans hle11)).dat hg47
  obtain ⟨v49, hW50, hm⟩ := hm
  refine CW.drawL 9 [8] [(fun Hq us E => us = [.agg #[.int .i64 v12, .slice A14 n15 c16]] ∧ E = [] ∧ True), (fun Hq us E => us = [.slice A1 n1 c1] ∧ E = [] ∧ True), (fun Hq us E => us = [.int .i64 v20] ∧ E = [] ∧ True), (fun Hq us E => us = [elp A1 (v20.toNat * 2 + 0)] ∧ E = [] ∧ True), (fun Hq us E => us = [.agg #[.int .i64 ((ix x1 v20).Start), .int .i64 ((ix x1 v20).Count)]] ∧ E = [] ∧ True), (fun Hq us E => ∃ (A51 : Option Addr), ∃ (n51 : Nat), ∃ (c51 : Nat), ∃ (s51 : List Value), us = [.tuple #[.agg #[.int .i64 v49.1.Size, .slice A51 n51 c51], .int .i64 v49.2]] ∧ E = [] ∧ Fz (α := BitVec 64) Hq A51 n51 c51 v49.1.Words s51 ∧ True), (fun Hq us E => ∃ (A51 : Option Addr), ∃ (n51 : Nat), ∃ (c51 : Nat), ∃ (s51 : List Value), us = [.tuple #[.agg #[.int .i64 v49.1.Size, .slice A51 n51 c51], .int .i64 v49.2], .tuple #[.agg #[.int .i64 v49.1.Size, .slice A51 n51 c51], .int .i64 v49.2]] ∧ E = [] ∧ Fz (α := BitVec 64) Hq A51 n51 c51 v49.1.Words s51 ∧ True), (fun Hq us E => ∃ (A51 : Option Addr), ∃ (n51 : Nat), ∃ (c51 : Nat), ∃ (s51 : List Value), us = [.tuple #[.agg #[.int .i64 v49.1.Size, .slice A51 n51 c51], .int .i64 v49.2], .agg #[.int .i64 v49.1.Size, .slice A51 n51 c51]] ∧ E = [] ∧ Fz (α := BitVec 64) Hq A51 n51 c51 v49.1.Words s51 ∧ True), (fun Hq us E => us = [.int .i64 v49.2] ∧ E = [] ∧ True)]
   (fun k => [[0], [1], [2], [3], [4], [5], [5, 6], [6, 7], [8]].getD k []) (fun _ => none) (by kernel_rfl) hM (by kernel_rfl) (by kernel_rfl) (by kernel_rfl) rfl (by simp only [List.forall_mem_cons]; exact ⟨fun _ _ _ _ hle ⟨e1, e2, _⟩ => ⟨e1, e2, trivial⟩, fun _ _ _ _ hle ⟨e1, e2, _⟩ => ⟨e1, e2, trivial⟩, fun _ _ _ _ hle ⟨e1, e2, _⟩ => ⟨e1, e2, trivial⟩, fun _ _ _ _ hle ⟨e1, e2, _⟩ => ⟨e1, e2, trivial⟩, fun _ _ _ _ hle ⟨e1, e2, _⟩ => ⟨e1, e2, trivial⟩, fun _ _ _ _ hle ⟨A51, n51, c51, s51, e1, e2, hF54, _⟩ => ⟨A51, n51, c51, s51, e1, e2, hF54.mono hle, trivial⟩, fun _ _ _ _ hle ⟨A51, n51, c51, s51, e1, e2, hF54, _⟩ => ⟨A51, n51, c51, s51, e1, e2, hF54.mono hle, trivial⟩, fun _ _ _ _ hle ⟨A51, n51, c51, s51, e1, e2, hF54, _⟩ => ⟨A51, n51, c51, s51, e1, e2, hF54.mono hle, trivial⟩, fun _ _ _ _ hle ⟨e1, e2, _⟩ => ⟨e1, e2, trivial⟩, by simp⟩) ⟨?_, ?_, ?_, ?_, ?_, ?_, ?_, ?_, ?_, trivial⟩ ?_
  ·
   intro H' σ' w R E hle hMR hE0 hE hp hf
   obtain rfl := hE0 rfl
   obtain ⟨τ, rfl⟩ := slc (σ := σ') (l := [(6, .pointer (some ⟨b9, 0, none⟩))]) ⟨(hf 6 (by kernel_rfl)).trans rfl, trivial⟩
   have hM := Mem.subR (R := R) hMR
   exact RW.step (Ex.loadA hM 1 [.int .i64 v12, .slice A14 n15 c16] ta65 rfl rfl rfl rfl) rfl rfl rfl (RW.nil ⟨rfl, rfl, _, rfl, H', [], Hp.le.refl _, hMR, rfl, rfl, trivial⟩)
  ·
   intro H' σ' w R E hle hMR hE0 hE hp hf
   obtain rfl := hE0 rfl
   obtain ⟨τ, rfl⟩ := slc (σ := σ') (l := [(1, .slice A1 n1 c1)]) ⟨(hf 1 (by kernel_rfl)).trans rfl, trivial⟩
   have hM := Mem.subR (R := R) hMR
   exact RW.step (Ex.move (.slice A1 n1 c1) rfl) rfl rfl rfl (RW.nil ⟨rfl, rfl, _, rfl, H', [], Hp.le.refl _, hMR, rfl, rfl, trivial⟩)
  ·
   intro H' σ' w R E hle hMR hE0 hE hp hf
   obtain rfl := hE0 rfl
   obtain ⟨τ, rfl⟩ := slc (σ := σ') (l := [(8, .int .i64 v20)]) ⟨(hf 8 (by kernel_rfl)).trans rfl, trivial⟩
   have hM := Mem.subR (R := R) hMR
   exact RW.step (Ex.move (.int .i64 v20) rfl) rfl rfl rfl (RW.nil ⟨rfl, rfl, _, rfl, H', [], Hp.le.refl _, hMR, rfl, rfl, trivial⟩)
  ·
   intro H' σ' w R E hle hMR hE0 hE hp hf
   obtain rfl := hE0 rfl
   obtain ⟨_, hg⟩ := hp 1 (by decide) (by kernel_rfl)
   obtain ⟨e55, _, _⟩ := hg.get rfl
   have e56 : σ' 26 = .slice A1 n1 c1 := (List.cons.inj e55).1
   obtain ⟨_, hg⟩ := hp 2 (by decide) (by kernel_rfl)
   obtain ⟨e57, _, _⟩ := hg.get rfl
   have e58 : σ' 27 = .int .i64 v20 := (List.cons.inj e57).1
   obtain ⟨τ, rfl⟩ := slc (σ := σ') (l := [(26, .slice A1 n1 c1), (27, .int .i64 v20)]) ⟨e56, e58, trivial⟩
   have hM := Mem.subR (R := R) hMR
   exact RW.step (Ex.index st68 rfl rfl v20.toNat (hF1.ne hg47) hg47.nat (hF1.lt hg47)) rfl rfl rfl (RW.nil ⟨rfl, rfl, _, rfl, H', [], Hp.le.refl _, hMR, rfl, rfl, trivial⟩)
  ·
   intro H' σ' w R E hle hMR hE0 hE hp hf
   obtain rfl := hE0 rfl
   obtain ⟨_, hg⟩ := hp 3 (by decide) (by kernel_rfl)
   obtain ⟨e59, _, _⟩ := hg.get rfl
   have e60 : σ' 28 = elp A1 (v20.toNat * 2 + 0) := (List.cons.inj e59).1
   obtain ⟨τ, rfl⟩ := slc (σ := σ') (l := [(28, elp A1 (v20.toNat * 2 + 0))]) ⟨e60, trivial⟩
   have hM := Mem.subR (R := R) hMR
   exact RW.step (Ex.loadEA hM ((hle5.trans hle11).trans hle) hF1.rdc [.int .i64 ((ix x1 v20).Start), .int .i64 ((ix x1 v20).Count)] ta103 rfl (hF1.ne hg47) rfl (chunk_sub (off := 0) (n := 2) hx48 rfl)) rfl rfl rfl (RW.nil ⟨rfl, rfl, _, rfl, H', [], Hp.le.refl _, hMR, rfl, rfl, trivial⟩)
  ·
   intro H' σ' w R E hle hMR hE0 hE hp hf
   obtain rfl := hE0 rfl
   obtain ⟨_, hg⟩ := hp 0 (by decide) (by kernel_rfl)
   obtain ⟨e61, _, _⟩ := hg.get rfl
   have e62 : σ' 25 = .agg #[.int .i64 v12, .slice A14 n15 c16] := (List.cons.inj e61).1
   obtain ⟨_, hg⟩ := hp 4 (by decide) (by kernel_rfl)
   obtain ⟨e63, _, _⟩ := hg.get rfl
   have e64 : σ' 29 = .agg #[.int .i64 ((ix x1 v20).Start), .int .i64 ((ix x1 v20).Count)] := (List.cons.inj e63).1
   obtain ⟨τ, rfl⟩ := slc (σ := σ') (l := [(25, .agg #[.int .i64 v12, .slice A14 n15 c16]), (29, .agg #[.int .i64 ((ix x1 v20).Start), .int .i64 ((ix x1 v20).Count)])]) ⟨e62, e64, trivial⟩
   have hM := Mem.subR (R := R) hMR
   refine RW.callP hMR (ref02_Set_lift (api_Bitmap.mk v12 v13) (ix x1 v20) (hF18.mono hle) hW50) en66 rfl rfl rfl rfl ?_; rintro _ w HS9 _ hleS ⟨_, rfl, A51, n51, c51, s51, rfl, hd52, hn53, rfl⟩ hMR
   obtain ⟨HS90, hMR, hleS0, hF54⟩ := hMR.giveF (α := BitVec 64) 0 rfl hd52 hn53
   exact RW.nil ⟨rfl, rfl, _, rfl, HS90, [], (hleS.trans hleS0), hMR, A51, n51, c51, s51, rfl, rfl, hF54, trivial⟩
  ·
   intro H' σ' w R E hle hMR hE0 hE hp hf
   obtain rfl := hE0 rfl
   obtain ⟨_, hg⟩ := hp 5 (by decide) (by kernel_rfl)
   obtain ⟨A51, n51, c51, s51, e65, _, hF54, _⟩ := hg.get rfl
   have e66 : σ' 30 = .tuple #[.agg #[.int .i64 v49.1.Size, .slice A51 n51 c51], .int .i64 v49.2] := (List.cons.inj e65).1
   obtain ⟨τ, rfl⟩ := slc (σ := σ') (l := [(30, .tuple #[.agg #[.int .i64 v49.1.Size, .slice A51 n51 c51], .int .i64 v49.2])]) ⟨e66, trivial⟩
   have hM := Mem.subR (R := R) hMR
   exact RW.step (Ex.move (.tuple #[.agg #[.int .i64 v49.1.Size, .slice A51 n51 c51], .int .i64 v49.2]) rfl) rfl rfl rfl (RW.nil ⟨rfl, rfl, _, rfl, H', [], Hp.le.refl _, hMR, A51, n51, c51, s51, rfl, rfl, hF54, trivial⟩)
  ·
   intro H' σ' w R E hle hMR hE0 hE hp hf
   obtain rfl := hE0 rfl
   obtain ⟨_, hg⟩ := hp 6 (by decide) (by kernel_rfl)
   obtain ⟨A51, n51, c51, s51, e67, _, hF54, _⟩ := hg.get rfl
   have e68 : σ' 30 = .tuple #[.agg #[.int .i64 v49.1.Size, .slice A51 n51 c51], .int .i64 v49.2] := (List.cons.inj e67).1
   have e69 : σ' 24 = .tuple #[.agg #[.int .i64 v49.1.Size, .slice A51 n51 c51], .int .i64 v49.2] := (List.cons.inj (List.cons.inj e67).2).1
   obtain ⟨τ, rfl⟩ := slc (σ := σ') (l := [(24, .tuple #[.agg #[.int .i64 v49.1.Size, .slice A51 n51 c51], .int .i64 v49.2])]) ⟨e69, trivial⟩
   have hM := Mem.subR (R := R) hMR
   exact RW.step (Ex.extract rfl rfl) rfl rfl rfl (RW.nil ⟨rfl, rfl, _, rfl, H', [], Hp.le.refl _, hMR, A51, n51, c51, s51, rfl, rfl, hF54, trivial⟩)
  ·
   intro H' σ' w R E hle hMR hE0 hE hp hf
   obtain rfl := hE0 rfl
   obtain ⟨_, hg⟩ := hp 6 (by decide) (by kernel_rfl)
   obtain ⟨A51, n51, c51, s51, e70, _, hF54, _⟩ := hg.get rfl
   have e71 : σ' 30 = .tuple #[.agg #[.int .i64 v49.1.Size, .slice A51 n51 c51], .int .i64 v49.2] := (List.cons.inj e70).1
   have e72 : σ' 24 = .tuple #[.agg #[.int .i64 v49.1.Size, .slice A51 n51 c51], .int .i64 v49.2] := (List.cons.inj (List.cons.inj e70).2).1
   obtain ⟨τ, rfl⟩ := slc (σ := σ') (l := [(24, .tuple #[.agg #[.int .i64 v49.1.Size, .slice A51 n51 c51], .int .i64 v49.2])]) ⟨e72, trivial⟩
   have hM := Mem.subR (R := R) hMR
   exact RW.step (Ex.extract rfl rfl) rfl rfl rfl (RW.nil ⟨rfl, rfl, _, rfl, H', [], Hp.le.refl _, hMR, rfl, rfl, trivial⟩)
  ·
   intro HR8 σ' w X miss hms hleR hM hX hX0 hf
   simp [subs] at hms
   rcases hms with rfl | rfl
   ·
    obtain ⟨H73, hH8⟩ : ∃ x, x = HR8 := ⟨_, rfl⟩
    subst hH8
    have hle74 := hleR
    obtain ⟨_, g0, y0⟩ := hX 0 (by decide) (by kernel_rfl)
    obtain ⟨_, rfl, _⟩ := g0.get rfl
    replace y0 : X 0 = [] := y0
    obtain ⟨_, g0, y1⟩ := hX 1 (by decide) (by kernel_rfl)
    obtain ⟨_, rfl, _⟩ := g0.get rfl
    replace y1 : X 1 = [] := y1
    obtain ⟨_, g0, y2⟩ := hX 2 (by decide) (by kernel_rfl)
    obtain ⟨_, rfl, _⟩ := g0.get rfl
    replace y2 : X 2 = [] := y2
    obtain ⟨_, g0, y3⟩ := hX 3 (by decide) (by kernel_rfl)
    obtain ⟨_, rfl, _⟩ := g0.get rfl
    replace y3 : X 3 = [] := y3
    obtain ⟨_, g0, y4⟩ := hX 4 (by decide) (by kernel_rfl)
    obtain ⟨_, rfl, _⟩ := g0.get rfl
    replace y4 : X 4 = [] := y4
    obtain ⟨_, g0, y5⟩ := hX 5 (by decide) (by kernel_rfl)
    obtain ⟨A51, n51, c51, s51, e75, rfl, hF54, _⟩ := g0.get rfl
    have e76 : σ' 30 = .tuple #[.agg #[.int .i64 v49.1.Size, .slice A51 n51 c51], .int .i64 v49.2] := (List.cons.inj e75).1
    replace y5 : X 5 = [] := y5
    obtain ⟨_, g0, y6⟩ := hX 6 (by decide) (by kernel_rfl)
    obtain ⟨A51q, n51q, c51q, s51q, e77, rfl, _, _⟩ := g0.get rfl
    have e78 : σ' 30 = .tuple #[.agg #[.int .i64 v49.1.Size, .slice A51q n51q c51q], .int .i64 v49.2] := (List.cons.inj e77).1
    have he_ := e76.symm.trans e78
    have ⟨e79, e80, e81⟩ : A51 = A51q ∧ n51 = n51q ∧ c51 = c51q := by simp at he_; simp [he_]
    subst e79
    subst e80
    subst e81
    have e82 : σ' 24 = .tuple #[.agg #[.int .i64 v49.1.Size, .slice A51 n51 c51], .int .i64 v49.2] := (List.cons.inj (List.cons.inj e77).2).1
    replace y6 : X 6 = [] := y6
    obtain ⟨_, g0, y7⟩ := hX 7 (by decide) (by kernel_rfl)
    obtain ⟨A51q, n51q, c51q, s51q, e83, rfl, _, _⟩ := g0.get rfl
    have e84 : σ' 24 = .tuple #[.agg #[.int .i64 v49.1.Size, .slice A51q n51q c51q], .int .i64 v49.2] := (List.cons.inj e83).1
    have he_ := e82.symm.trans e84
    have ⟨e85, e86, e87⟩ : A51 = A51q ∧ n51 = n51q ∧ c51 = c51q := by simp at he_; simp [he_]
    subst e85
    subst e86
    subst e87
    have e88 : σ' 31 = .agg #[.int .i64 v49.1.Size, .slice A51 n51 c51] := (List.cons.inj (List.cons.inj e83).2).1
    replace y7 : X 7 = [] := y7
    obtain ⟨_, g0, y8⟩ := hX 8 (by decide) (by kernel_rfl)
    obtain ⟨e89, rfl, _⟩ := g0.get rfl
    have e90 : σ' 32 = .int .i64 v49.2 := (List.cons.inj e89).1
    replace y8 : X 8 = [] := y8
    have hfl : flatX X 9 = [] := by
     show X 0 ++ (X 1 ++ (X 2 ++ (X 3 ++ (X 4 ++ (X 5 ++ (X 6 ++ (X 7 ++ (X 8 ++ [])))))))) = _
     rw [y0, y1, y2, y3, y4, y5, y6, y7, y8]; rfl
    rw [hfl] at hM
    obtain ⟨τ, rfl⟩ := slc (σ := σ') (l := [(1, .slice A1 n1 c1), (4, .pointer (some ⟨b2, 0, none⟩)), (6, .pointer (some ⟨b9, 0, none⟩)), (7, .int .i64 v19), (8, .int .i64 v20), (31, .agg #[.int .i64 v49.1.Size, .slice A51 n51 c51]), (32, .int .i64 v49.2)]) ⟨(hf 1 (by kernel_rfl)).trans rfl, (hf 4 (by kernel_rfl)).trans rfl, (hf 6 (by kernel_rfl)).trans rfl, (hf 7 (by kernel_rfl)).trans rfl, (hf 8 (by kernel_rfl)).trans rfl, e88, e90, trivial⟩
    change RA _ _ _ _ _ _ _ (sl [(1, .slice A1 n1 c1), (4, .pointer (some ⟨b2, 0, none⟩)), (6, .pointer (some ⟨b9, 0, none⟩)), (7, .int .i64 v19), (8, .int .i64 v20), (31, .agg #[.int .i64 v49.1.Size, .slice A51 n51 c51]), (32, .int .i64 v49.2)] τ) _ 11 _
    refine RA.step [9] (by kernel_rfl) rfl ⟨⟨_, rfl, ?_⟩, trivial⟩
    refine RW.store hM 1 (.agg #[.int .i64 v49.1.Size, .slice A51 n51 c51]) [.int .i64 v49.1.Size, .slice A51 n51 c51] [.int .i64 v49.1.Size, .slice A51 n51 c51] sz65 rfl rfl rfl (oneAll ⟨rfl, rfl, trivial⟩) rfl (nb rfl) rfl [.box b2 65 [.int .i64 0, .slice none 0 0], .box b9 65 [.int .i64 v49.1.Size, .slice A51 n51 c51]] rfl rfl rfl ?_; intro w hM
    refine RW.nil ?_
    refine And.intro rfl ?_
    refine RA.step [10] (by kernel_rfl) rfl ⟨⟨_, rfl, ?_⟩, trivial⟩
    refine RW.st (Ex.assign (.int .i64 v49.2) rfl) rfl <| RW.nil ?_
    refine And.intro rfl ?_
    refine RA.done (by kernel_rfl) ?_
    refine CW.region <| RW.st (Ex.move (.int .i64 v20) rfl) rfl ?_
    obtain ⟨hg91, hm⟩ := hm
    refine RW.st (Ex.add rfl rfl hg91.1 hg91.2) rfl <| RW.st (Ex.assign (.int .i64 (v20 + 1)) rfl) rfl <| RW.nil ?_
    exact And.intro rfl ⟨k24, ⟨v49.1.Size, v49.1.Words, A51, n51, c51, s51, v49.2, v20 + 1, H73, hle11.trans hle74, slc ⟨rfl, rfl, rfl, rfl, rfl, trivial⟩, hM, hF54, (by rw [hrec25]; exact hm)⟩, Nat.lt_succ_self _⟩
   ·
    obtain ⟨H73, hH8⟩ : ∃ x, x = HR8 := ⟨_, rfl⟩
    subst hH8
    have hle74 := hleR
    obtain ⟨_, g0, y0⟩ := hX 0 (by decide) (by kernel_rfl)
    obtain ⟨_, rfl, _⟩ := g0.get rfl
    replace y0 : X 0 = [] := y0
    obtain ⟨_, g0, y1⟩ := hX 1 (by decide) (by kernel_rfl)
    obtain ⟨_, rfl, _⟩ := g0.get rfl
    replace y1 : X 1 = [] := y1
    obtain ⟨_, g0, y2⟩ := hX 2 (by decide) (by kernel_rfl)
    obtain ⟨_, rfl, _⟩ := g0.get rfl
    replace y2 : X 2 = [] := y2
    obtain ⟨_, g0, y3⟩ := hX 3 (by decide) (by kernel_rfl)
    obtain ⟨_, rfl, _⟩ := g0.get rfl
    replace y3 : X 3 = [] := y3
    obtain ⟨_, g0, y4⟩ := hX 4 (by decide) (by kernel_rfl)
    obtain ⟨_, rfl, _⟩ := g0.get rfl
    replace y4 : X 4 = [] := y4
    obtain ⟨_, g0, y5⟩ := hX 5 (by decide) (by kernel_rfl)
    obtain ⟨A51, n51, c51, s51, e75, rfl, hF54, _⟩ := g0.get rfl
    have e76 : σ' 30 = .tuple #[.agg #[.int .i64 v49.1.Size, .slice A51 n51 c51], .int .i64 v49.2] := (List.cons.inj e75).1
    replace y5 : X 5 = [] := y5
    obtain ⟨_, g0, y6⟩ := hX 6 (by decide) (by kernel_rfl)
    obtain ⟨A51q, n51q, c51q, s51q, e77, rfl, _, _⟩ := g0.get rfl
    have e78 : σ' 30 = .tuple #[.agg #[.int .i64 v49.1.Size, .slice A51q n51q c51q], .int .i64 v49.2] := (List.cons.inj e77).1
    have he_ := e76.symm.trans e78
    have ⟨e79, e80, e81⟩ : A51 = A51q ∧ n51 = n51q ∧ c51 = c51q := by simp at he_; simp [he_]
    subst e79
    subst e80
    subst e81
    have e82 : σ' 24 = .tuple #[.agg #[.int .i64 v49.1.Size, .slice A51 n51 c51], .int .i64 v49.2] := (List.cons.inj (List.cons.inj e77).2).1
    replace y6 : X 6 = [] := y6
    obtain ⟨_, g0, y7⟩ := hX 7 (by decide) (by kernel_rfl)
    obtain ⟨A51q, n51q, c51q, s51q, e83, rfl, _, _⟩ := g0.get rfl
    have e84 : σ' 24 = .tuple #[.agg #[.int .i64 v49.1.Size, .slice A51q n51q c51q], .int .i64 v49.2] := (List.cons.inj e83).1
    have he_ := e82.symm.trans e84
    have ⟨e85, e86, e87⟩ : A51 = A51q ∧ n51 = n51q ∧ c51 = c51q := by simp at he_; simp [he_]
    subst e85
    subst e86
    subst e87
    have e88 : σ' 31 = .agg #[.int .i64 v49.1.Size, .slice A51 n51 c51] := (List.cons.inj (List.cons.inj e83).2).1
    replace y7 : X 7 = [] := y7
    have y8 : X 8 = [] := hX0 8 (by decide) (by kernel_rfl)
    have hfl : flatX X 9 = [] := by
     show X 0 ++ (X 1 ++ (X 2 ++ (X 3 ++ (X 4 ++ (X 5 ++ (X 6 ++ (X 7 ++ (X 8 ++ [])))))))) = _
     rw [y0, y1, y2, y3, y4, y5, y6, y7, y8]; rfl
    rw [hfl] at hM
    obtain ⟨τ, rfl⟩ := slc (σ := σ') (l := [(1, .slice A1 n1 c1), (4, .pointer (some ⟨b2, 0, none⟩)), (6, .pointer (some ⟨b9, 0, none⟩)), (7, .int .i64 v19), (8, .int .i64 v20), (24, .tuple #[.agg #[.int .i64 v49.1.Size, .slice A51 n51 c51], .int .i64 v49.2]), (31, .agg #[.int .i64 v49.1.Size, .slice A51 n51 c51])]) ⟨(hf 1 (by kernel_rfl)).trans rfl, (hf 4 (by kernel_rfl)).trans rfl, (hf 6 (by kernel_rfl)).trans rfl, (hf 7 (by kernel_rfl)).trans rfl, (hf 8 (by kernel_rfl)).trans rfl, e82, e88, trivial⟩
    change RA _ _ _ _ _ _ _ (sl [(1, .slice A1 n1 c1), (4, .pointer (some ⟨b2, 0, none⟩)), (6, .pointer (some ⟨b9, 0, none⟩)), (7, .int .i64 v19), (8, .int .i64 v20), (24, .tuple #[.agg #[.int .i64 v49.1.Size, .slice A51 n51 c51], .int .i64 v49.2]), (31, .agg #[.int .i64 v49.1.Size, .slice A51 n51 c51])] τ) _ 11 _
    refine RA.step [8, 9] (by kernel_rfl) rfl ⟨⟨_, rfl, ?_⟩, ⟨_, rfl, ?_⟩, trivial⟩
    ·
     refine RW.st (Ex.extract rfl rfl) rfl <| RW.nil ?_
     refine And.intro rfl ?_
     refine RA.step [9] (by kernel_rfl) rfl ⟨⟨_, rfl, ?_⟩, trivial⟩
     refine RW.store hM 1 (.agg #[.int .i64 v49.1.Size, .slice A51 n51 c51]) [.int .i64 v49.1.Size, .slice A51 n51 c51] [.int .i64 v49.1.Size, .slice A51 n51 c51] sz65 rfl rfl rfl (oneAll ⟨rfl, rfl, trivial⟩) rfl (nb rfl) rfl [.box b2 65 [.int .i64 0, .slice none 0 0], .box b9 65 [.int .i64 v49.1.Size, .slice A51 n51 c51]] rfl rfl rfl ?_; intro w hM
     refine RW.nil ?_
     refine And.intro rfl ?_
     refine RA.step [10] (by kernel_rfl) rfl ⟨⟨_, rfl, ?_⟩, trivial⟩
     refine RW.st (Ex.assign (.int .i64 v49.2) rfl) rfl <| RW.nil ?_
     refine And.intro rfl ?_
     refine RA.done (by kernel_rfl) ?_
     refine CW.region <| RW.st (Ex.move (.int .i64 v20) rfl) rfl ?_
     obtain ⟨hg89, hm⟩ := hm
     refine RW.st (Ex.add rfl rfl hg89.1 hg89.2) rfl <| RW.st (Ex.assign (.int .i64 (v20 + 1)) rfl) rfl <| RW.nil ?_
     exact And.intro rfl ⟨k24, ⟨v49.1.Size, v49.1.Words, A51, n51, c51, s51, v49.2, v20 + 1, H73, hle11.trans hle74, slc ⟨rfl, rfl, rfl, rfl, rfl, trivial⟩, hM, hF54, (by rw [hrec25]; exact hm)⟩, Nat.lt_succ_self _⟩
    ·
     refine RW.store hM 1 (.agg #[.int .i64 v49.1.Size, .slice A51 n51 c51]) [.int .i64 v49.1.Size, .slice A51 n51 c51] [.int .i64 v49.1.Size, .slice A51 n51 c51] sz65 rfl rfl rfl (oneAll ⟨rfl, rfl, trivial⟩) rfl (nb rfl) rfl [.box b2 65 [.int .i64 0, .slice none 0 0], .box b9 65 [.int .i64 v49.1.Size, .slice A51 n51 c51]] rfl rfl rfl ?_; intro w hM
     refine RW.nil ?_
     refine And.intro rfl ?_
     refine RA.step [8] (by kernel_rfl) rfl ⟨⟨_, rfl, ?_⟩, trivial⟩
     refine RW.st (Ex.extract rfl rfl) rfl <| RW.nil ?_
     refine And.intro rfl ?_
     refine RA.step [10] (by kernel_rfl) rfl ⟨⟨_, rfl, ?_⟩, trivial⟩
     refine RW.st (Ex.assign (.int .i64 v49.2) rfl) rfl <| RW.nil ?_
     refine And.intro rfl ?_
     refine RA.done (by kernel_rfl) ?_
     refine CW.region <| RW.st (Ex.move (.int .i64 v20) rfl) rfl ?_
     obtain ⟨hg89, hm⟩ := hm
     refine RW.st (Ex.add rfl rfl hg89.1 hg89.2) rfl <| RW.st (Ex.assign (.int .i64 (v20 + 1)) rfl) rfl <| RW.nil ?_
     exact And.intro rfl ⟨k24, ⟨v49.1.Size, v49.1.Words, A51, n51, c51, s51, v49.2, v20 + 1, H73, hle11.trans hle74, slc ⟨rfl, rfl, rfl, rfl, rfl, trivial⟩, hM, hF54, (by rw [hrec25]; exact hm)⟩, Nat.lt_succ_self _⟩
 ·
  replace hm := And.right hm hc27
  refine CW.exit ?_
  refine CW.sr <| RW.st (Ex.loadA hM 1 [.int .i64 v12, .slice A14 n15 c16] ta65 rfl rfl rfl rfl) rfl <| RW.st (Ex.move (.int .i64 v19) rfl) rfl ?_
  refine RW.store hM 0 (.agg #[.int .i64 v12, .slice A14 n15 c16]) [.int .i64 v12, .slice A14 n15 c16] [.int .i64 v12, .slice A14 n15 c16] sz65 rfl rfl rfl (oneAll ⟨rfl, rfl, trivial⟩) rfl (nb rfl) rfl [.box b2 65 [.int .i64 v12, .slice A14 n15 c16], .box b9 65 [.int .i64 v12, .slice A14 n15 c16]] rfl rfl rfl ?_; intro w hM
  refine RW.st (Ex.assign (.int .i64 v19) rfl) rfl <| RW.nil <| CW.ret ?_
  refine ect (k := 0) (.inl rfl) rfl hM rfl (.int .i64 v19) rfl ta65 [.int .i64 v12, .slice A14 n15 c16] rfl rfl ?_
  exact ⟨_, _, (hM.pick [] rfl rfl), ((api_Bitmap.mk v12 v13), v19), hm, A14, n15, c16, s17, rfl, hF18, rfl⟩
theorem tracker_checkBitmaps_lift {H : Hp} (x0 : List api_Bitmap) (x1 : List Int) {A1 : Option Addr} {n1 c1 : Nat} {s1 : List Value} (hF1 : Fz (α := api_Bitmap) H A1 n1 c1 x0 s1) {A2 : Option Addr} {n2 c2 : Nat} {s2 : List Value} (hF2 : Fz (α := Int) H A2 n2 c2 x1 s2) {Φ : Int → Prop} (hm : tracker_checkBitmaps_W x0 x1 Φ) : RetP Tryd.prog 122 #[.slice A1 n1 c1, .slice A2 n2 c2] H (fun _ v L => ∃ y, Φ y ∧ v = .int .i64 (y) ∧ L = []) := by
 refine RetP.of_code Tryd.func122 rfl (nb rfl) fun w0 hM => ?_
 refine CW.sr <| RW.st (Ex.assign (.int .i64 0) rfl) rfl <| RW.nil <| CW.seq <| CW.sr <| RW.st (Ex.move (.slice A1 n1 c1) rfl) rfl <| RW.st (Ex.lenN st23.1 rfl hF1.hn) rfl <| RW.st (Ex.move (.slice A2 n2 c2) rfl) rfl <| RW.st (Ex.lenN st40.1 rfl hF2.hn) rfl <| RW.st (Ex.neq rfl rfl) rfl <| RW.nil ?_
 refine CW.cond_dec (p := (x0.length : Int) ≠ (x1.length : Int)) rfl (fun hc3 => ?_) (fun hc3 => ?_)
 ·
  replace hm := And.left hm hc3
  refine CW.sr <| RW.st (Ex.assign (.int .i64 6) rfl) rfl <| RW.nil <| CW.ret ?_
  refine tqr ?_
  refine end_tmp (.inl rfl) rfl (.int .i64 6) rfl ?_
  exact ⟨_, _, hM, 6, hm, rfl, rfl⟩
 ·
  replace hm := And.right hm hc3
  refine CW.skip <| CW.sr <| RW.st (Ex.move (.slice A1 n1 c1) rfl) rfl <| RW.st (Ex.move (.slice A2 n2 c2) rfl) rfl ?_
  refine RW.callP hM (tracker_each_api_Bitmap_int_bool__tracker_checkBitmaps_1_lift x0 x1 hF1 hF2 hm) en153 rfl rfl rfl rfl ?_; rintro _ w H5 _ hle6 ⟨v4, hm, A7, n7, c7, s7, rfl, hd8, hn9, rfl⟩ hM
  refine RW.st (Ex.move (.tuple #[.slice A7 n7 c7, .int .i64 v4.2]) rfl) rfl <| RW.st (Ex.extract rfl rfl) rfl <| RW.st (Ex.extract rfl rfl) rfl <| RW.st (Ex.assign (.slice A7 n7 c7) rfl) rfl <| RW.st (Ex.assign (.int .i64 v4.2) rfl) rfl <| RW.nil <| CW.sr <| RW.st (Ex.move (.int .i64 v4.2) rfl) rfl <| RW.st (Ex.assign (.int .i64 v4.2) rfl) rfl <| RW.nil <| CW.ret ?_
  refine end_tmp (.inl rfl) rfl (.int .i64 v4.2) rfl ?_
  exact ⟨_, _, (hM.pick [] rfl rfl), v4.2, hm, rfl, rfl⟩
theorem ref47_Turn_lift {H : Hp} (x0 : api_Tracker) (x1 : Int) (x2 : Int) (x3 : List (List api_Extent)) {A1 : Option Addr} {n1 c1 : Nat} {s1 : List Value} (hF1 : Fz (α := Int) H A1 n1 c1 x0.Sizes s1) {A2 : Option Addr} {n2 c2 : Nat} {s2 : List Value} (hF2 : Fz (α := api_Peer) H A2 n2 c2 x0.Peers s2) {A3 : Option Addr} {n3 c3 : Nat} {s3 : List Value} (hF3 : Fz (α := List api_Extent) H A3 n3 c3 x3 s3) {Φ : api_Tracker × Int → Prop} (hm : ref47_Turn_W x0 x1 x2 x3 Φ) : RetP Tryd.prog 35 #[.agg #[.slice A1 n1 c1, .slice A2 n2 c2], .int .i64 x1, .int .i64 x2, .slice A3 n3 c3] H (fun H' v L => ∃ y, Φ y ∧ ∃ A289, ∃ n289, ∃ c289, ∃ s289, ∃ A290, ∃ n290, ∃ c290, ∃ s290, v = .tuple #[.agg #[.slice A289 n289 c289, .slice A290 n290 c290], .int .i64 (y.2)] ∧ DtL (α := Int) H' s289 y.1.Sizes ∧ n289 = y.1.Sizes.length ∧ DtL (α := api_Peer) H' s290 y.1.Peers ∧ n290 = y.1.Peers.length ∧ L = [.row (.slice A289 n289 c289) 3 1 n289 s289, .row (.slice A290 n290 c290) 142 3 n290 s290]) := by
 refine RetP.of_code Tryd.func35 rfl (nb rfl) fun w0 hM => ?_
 refine CW.sr ?_
 refine RW.box hM (.agg #[.slice A1 n1 c1, .slice A2 n2 c2]) [.slice A1 n1 c1, .slice A2 n2 c2] rfl rfl rfl rfl ?_; intro b4 w hM
 refine RW.alloc hM tz85 [.slice none 0 0, .slice none 0 0] rfl rfl rfl ?_; intro b5 w hM
 refine RW.st (Ex.assign (.int .i64 0) rfl) rfl <| RW.nil <| CW.seq <| CW.sr <| RW.st (Ex.loadA hM 1 [.slice A1 n1 c1, .slice A2 n2 c2] ta85 rfl rfl rfl rfl) rfl ?_
 refine RW.callP hM (ref43_Check_lift x0 hF1 hF2 hm) en86 rfl rfl rfl rfl ?_; rintro _ w H7 _ hle8 ⟨v6, hm, rfl, rfl⟩ hM
 refine RW.st (Ex.assign (.int .i64 v6) rfl) rfl <| RW.nil <| CW.sr <| RW.st (Ex.move (.int .i64 v6) rfl) rfl <| RW.st (Ex.neq rfl rfl) rfl <| RW.nil ?_
 refine CW.cond_dec (p := v6 ≠ 0) rfl (fun hc9 => ?_) (fun hc9 => ?_)
 ·
  replace hm := And.left hm hc9
  refine CW.sr <| RW.st (Ex.build bs85 [] [.slice none 0 0, .slice none 0 0] rfl rfl) rfl <| RW.st (Ex.move (.int .i64 v6) rfl) rfl ?_
  refine RW.store hM 0 (.agg #[.slice none 0 0, .slice none 0 0]) [.slice none 0 0, .slice none 0 0] [.slice none 0 0, .slice none 0 0] sz85 rfl rfl rfl (oneAll ⟨rfl, rfl, trivial⟩) rfl (nb rfl) rfl [.box b5 85 [.slice none 0 0, .slice none 0 0], .box b4 85 [.slice A1 n1 c1, .slice A2 n2 c2]] rfl rfl rfl ?_; intro w hM
  refine RW.st (Ex.assign (.int .i64 v6) rfl) rfl <| RW.nil <| CW.ret ?_
  refine tqr ?_
  refine ect (k := 0) (.inl rfl) rfl hM rfl (.int .i64 v6) rfl ta85 [.slice none 0 0, .slice none 0 0] rfl rfl ?_
  replace hM := hM.nilRow 3 1
  replace hM := hM.nilRow 142 3
  exact ⟨_, _, (hM.pick [1, 0] rfl rfl), ((api_Tracker.mk ([] : List Int) ([] : List api_Peer)), v6), hm, none, 0, 0, [], none, 0, 0, [], rfl, (DtL.nil : DtL _ [] ([] : List Int)), rfl, (DtL.nil : DtL _ [] ([] : List api_Peer)), rfl, rfl⟩
 ·
  replace hm := And.right hm hc9
  refine CW.skip <| CW.sr <| RW.st (Ex.assign (.int .i64 ((-1))) rfl) rfl <| RW.nil <| CW.seq <| CW.sr <| RW.st (Ex.assign (.int .i64 0) rfl) rfl <| RW.nil <| CW.block ?_
  obtain ⟨m288, hm⟩ := hm
  skip
  refine CW.loop (β := Nat) (fun n σ w => ∃ (v12 : Int), ∃ (v13 : Int), ∃ Hk10, H7.le Hk10 ∧ (∃ τ, σ = sl [(1, .int .i64 x1), (2, .int .i64 x2), (3, .slice A3 n3 c3), (4, .pointer (some ⟨b4, 0, none⟩)), (8, .pointer (some ⟨b5, 0, none⟩)), (11, .int .i64 v12), (12, .int .i64 v13)] τ) ∧ Mem w0 H w Hk10 [.box b4 85 [.slice A1 n1 c1, .slice A2 n2 c2], .box b5 85 [.slice none 0 0, .slice none 0 0]] ∧ LoopN (ref47_Turn_L1 x0 x1 x2 x3 Φ) n (v12, v13)) (fun n => n) m288 ⟨(-1), 0, H7, (Hp.le.refl _), slc ⟨rfl, rfl, rfl, rfl, rfl, rfl, rfl, trivial⟩, (hM.pick [1, 0] rfl rfl), hm⟩ ?_
  rintro k14 _ w ⟨v12, v13, Hk10, hle11, ⟨τ, rfl⟩, hM, hm⟩
  obtain _ | k14 := k14
  · exact hm.elim
  replace hm : (ref47_Turn_L1 x0 x1 x2 x3 Φ) (v12, v13) (LoopN (ref47_Turn_L1 x0 x1 x2 x3 Φ) k14) := hm
  generalize hrec15 : LoopN (ref47_Turn_L1 x0 x1 x2 x3 Φ) k14 = rec1 at hm
  refine CW.seq <| CW.sr <| RW.st (Ex.move (.int .i64 v13) rfl) rfl <| RW.st (Ex.fieldAddr fa85_1 rfl) rfl <| RW.st (Ex.load1 hM 0 to83 rfl rfl rfl) rfl <| RW.st (Ex.lenN st83.1 rfl hF2.hn) rfl <| RW.st (Ex.lss rfl rfl) rfl <| RW.nil ?_
  refine CW.cond_dec (p := v13 < (x0.Peers.length : Int)) rfl (fun hc16 => ?_) (fun hc16 => ?_)
  ·
   replace hm := And.left hm hc16
   refine CW.skip ?_
   obtain ⟨hG22, hm⟩ := hm
   refine CW.cut (fun D σ w => D = [] ∧ (∃ τ, σ = sl [(1, .int .i64 x1), (2, .int .i64 x2), (3, .slice A3 n3 c3), (4, .pointer (some ⟨b4, 0, none⟩)), (8, .pointer (some ⟨b5, 0, none⟩)), (11, .int .i64 (if ((ix x0.Peers v13).Site) = x1 then v13 else v12)), (12, .int .i64 v13)] τ) ∧ Mem w0 H w Hk10 [.box b4 85 [.slice A1 n1 c1, .slice A2 n2 c2], .box b5 85 [.slice none 0 0, .slice none 0 0]]) ?_ ?_
   ·
    replace hm := hG22
    refine CW.block <| CW.sr <| RW.st (Ex.fieldAddr fa85_1 rfl) rfl <| RW.st (Ex.load1 hM 0 to83 rfl rfl rfl) rfl <| RW.st (Ex.move (.int .i64 v13) rfl) rfl ?_
    have hg17 := hm
    refine RW.st (Ex.index st83 rfl rfl v13.toNat (hF2.ne hg17) hg17.nat (hF2.lt hg17)) rfl <| RW.st (Ex.fieldE fa142_0 (hF2.ne hg17) rfl) rfl ?_
    obtain ⟨_, ⟨A18, n18, c18, s18, rfl, hF18⟩, hx19⟩ := DtL.getI (α := api_Peer) (hF2.mono (hle8.trans hle11)).dat hg17
    refine RW.st (Ex.loadE hM (hle8.trans hle11) hF2.rdc to3 rfl (hx19 0 _ rfl)) rfl <| RW.st (Ex.move (.int .i64 x1) rfl) rfl <| RW.st (Ex.eql rfl rfl) rfl <| RW.nil ?_
    refine CW.cond_dec (p := ((ix x0.Peers v13).Site) = x1) rfl (fun hc20 => ?_) (fun hc20 => ?_)
    ·
     skip
     refine CW.region <| RW.st (Ex.move (.int .i64 v13) rfl) rfl <| RW.st (Ex.assign (.int .i64 v13) rfl) rfl <| RW.nil ?_
     exact And.intro rfl (And.intro (slc ⟨rfl, rfl, rfl, rfl, rfl, (congrArg (Value.int .i64) (if_pos hc20).symm), rfl, trivial⟩) hM)
    ·
     skip
     refine CW.skip ?_
     exact And.intro rfl (And.intro (slc ⟨rfl, rfl, rfl, rfl, rfl, (congrArg (Value.int .i64) (if_neg hc20).symm), rfl, trivial⟩) hM)
   rintro _ _ w ⟨rfl, ⟨τ, rfl⟩, hM⟩
   refine CW.region <| RW.st (Ex.move (.int .i64 v13) rfl) rfl ?_
   obtain ⟨hg21, hm⟩ := hm
   refine RW.st (Ex.add rfl rfl hg21.1 hg21.2) rfl <| RW.st (Ex.assign (.int .i64 (v13 + 1)) rfl) rfl <| RW.nil ?_
   exact And.intro rfl ⟨k14, ⟨if ((ix x0.Peers v13).Site) = x1 then v13 else v12, v13 + 1, Hk10, hle11.trans (Hp.le.refl _), slc ⟨rfl, rfl, rfl, rfl, rfl, rfl, rfl, trivial⟩, hM, (by rw [hrec15]; exact hm)⟩, Nat.lt_succ_self _⟩
  ·
   replace hm := And.right hm hc16
   refine CW.exit ?_
   refine CW.seq <| CW.sr <| RW.st (Ex.move (.int .i64 v12) rfl) rfl <| RW.st (Ex.lss rfl rfl) rfl <| RW.nil ?_
   refine CW.cond_dec (p := v12 < 0) rfl (fun hc23 => ?_) (fun hc23 => ?_)
   ·
    replace hm := And.left hm hc23
    refine CW.sr <| RW.st (Ex.build bs85 [] [.slice none 0 0, .slice none 0 0] rfl rfl) rfl ?_
    refine RW.store hM 1 (.agg #[.slice none 0 0, .slice none 0 0]) [.slice none 0 0, .slice none 0 0] [.slice none 0 0, .slice none 0 0] sz85 rfl rfl rfl (oneAll ⟨rfl, rfl, trivial⟩) rfl (nb rfl) rfl [.box b4 85 [.slice A1 n1 c1, .slice A2 n2 c2], .box b5 85 [.slice none 0 0, .slice none 0 0]] rfl rfl rfl ?_; intro w hM
    refine RW.st (Ex.assign (.int .i64 7) rfl) rfl <| RW.nil <| CW.ret ?_
    refine tqr ?_
    refine ect (k := 1) (.inl rfl) rfl hM rfl (.int .i64 7) rfl ta85 [.slice none 0 0, .slice none 0 0] rfl rfl ?_
    replace hM := hM.nilRow 3 1
    replace hM := hM.nilRow 142 3
    exact ⟨_, _, (hM.pick [1, 0] rfl rfl), ((api_Tracker.mk ([] : List Int) ([] : List api_Peer)), 7), hm, none, 0, 0, [], none, 0, 0, [], rfl, (DtL.nil : DtL _ [] ([] : List Int)), rfl, (DtL.nil : DtL _ [] ([] : List api_Peer)), rfl, rfl⟩
   ·
    replace hm := And.right hm hc23
    refine CW.skip <| CW.seq ?_
    skip
    refine CW.cut (fun D σ w => D = [] ∧ (∃ τ, σ = sl [(1, .int .i64 x1), (2, .int .i64 x2), (3, .slice A3 n3 c3), (4, .pointer (some ⟨b4, 0, none⟩)), (8, .pointer (some ⟨b5, 0, none⟩)), (11, .int .i64 v12), (48, .bool (decide ((x2 < 0) ∨ (1073741824 < x2))))] τ) ∧ Mem w0 H w Hk10 [.box b4 85 [.slice A1 n1 c1, .slice A2 n2 c2], .box b5 85 [.slice none 0 0, .slice none 0 0]]) ?_ ?_
    ·
     skip
     refine CW.region <| RW.st (Ex.move (.int .i64 x2) rfl) rfl <| RW.st (Ex.lss rfl rfl) rfl <| RW.st (Ex.move (.bool (decide (x2 < 0))) rfl) rfl ?_
     refine RW.split 45 (p := x2 < 0) rfl (fun hc24 => ?_) (fun hc24 => ?_)
     ·
      skip
      refine RW.pp <| RW.st (Ex.pickT (.bool true) rfl rfl) rfl <| RW.nil ?_
      exact And.intro rfl (And.intro (slc ⟨rfl, rfl, rfl, rfl, rfl, rfl, (congrArg Value.bool (decide_eq_true (.inl hc24)).symm), trivial⟩) hM)
     ·
      skip
      refine RW.st (Ex.move (.int .i64 x2) rfl) rfl <| RW.st (Ex.gtr rfl rfl) rfl <| RW.st (Ex.pickF (.bool (decide (1073741824 < x2))) rfl rfl) rfl <| RW.nil ?_
      exact And.intro rfl (And.intro (slc ⟨rfl, rfl, rfl, rfl, rfl, rfl, (congrArg Value.bool (decide_eq_decide.2 (imOr hc24 Iff.rfl))), trivial⟩) hM)
    rintro _ _ w ⟨rfl, ⟨τ, rfl⟩, hM⟩
    refine CW.cond_dec (p := (x2 < 0) ∨ (1073741824 < x2)) rfl (fun hc25 => ?_) (fun hc25 => ?_)
    ·
     replace hm := And.left hm hc25
     refine CW.sr <| RW.st (Ex.build bs85 [] [.slice none 0 0, .slice none 0 0] rfl rfl) rfl ?_
     refine RW.store hM 1 (.agg #[.slice none 0 0, .slice none 0 0]) [.slice none 0 0, .slice none 0 0] [.slice none 0 0, .slice none 0 0] sz85 rfl rfl rfl (oneAll ⟨rfl, rfl, trivial⟩) rfl (nb rfl) rfl [.box b4 85 [.slice A1 n1 c1, .slice A2 n2 c2], .box b5 85 [.slice none 0 0, .slice none 0 0]] rfl rfl rfl ?_; intro w hM
     refine RW.st (Ex.assign (.int .i64 2) rfl) rfl <| RW.nil <| CW.ret ?_
     refine tqr ?_
     refine ect (k := 1) (.inl rfl) rfl hM rfl (.int .i64 2) rfl ta85 [.slice none 0 0, .slice none 0 0] rfl rfl ?_
     replace hM := hM.nilRow 3 1
     replace hM := hM.nilRow 142 3
     exact ⟨_, _, (hM.pick [1, 0] rfl rfl), ((api_Tracker.mk ([] : List Int) ([] : List api_Peer)), 2), hm, none, 0, 0, [], none, 0, 0, [], rfl, (DtL.nil : DtL _ [] ([] : List Int)), rfl, (DtL.nil : DtL _ [] ([] : List api_Peer)), rfl, rfl⟩
    ·
     replace hm := And.right hm hc25
     refine CW.skip <| CW.seq <| CW.sr <| RW.st (Ex.move (.slice A3 n3 c3) rfl) rfl <| RW.st (Ex.lenN st30.1 rfl hF3.hn) rfl <| RW.st (Ex.fieldAddr fa85_0 rfl) rfl <| RW.st (Ex.load1 hM 0 to40 rfl rfl rfl) rfl <| RW.st (Ex.lenN st40.1 rfl hF1.hn) rfl <| RW.st (Ex.neq rfl rfl) rfl <| RW.nil ?_
     refine CW.cond_dec (p := (x3.length : Int) ≠ (x0.Sizes.length : Int)) rfl (fun hc26 => ?_) (fun hc26 => ?_)
     ·
      replace hm := And.left hm hc26
      refine CW.sr <| RW.st (Ex.build bs85 [] [.slice none 0 0, .slice none 0 0] rfl rfl) rfl ?_
      refine RW.store hM 1 (.agg #[.slice none 0 0, .slice none 0 0]) [.slice none 0 0, .slice none 0 0] [.slice none 0 0, .slice none 0 0] sz85 rfl rfl rfl (oneAll ⟨rfl, rfl, trivial⟩) rfl (nb rfl) rfl [.box b4 85 [.slice A1 n1 c1, .slice A2 n2 c2], .box b5 85 [.slice none 0 0, .slice none 0 0]] rfl rfl rfl ?_; intro w hM
      refine RW.st (Ex.assign (.int .i64 6) rfl) rfl <| RW.nil <| CW.ret ?_
      refine tqr ?_
      refine ect (k := 1) (.inl rfl) rfl hM rfl (.int .i64 6) rfl ta85 [.slice none 0 0, .slice none 0 0] rfl rfl ?_
      replace hM := hM.nilRow 3 1
      replace hM := hM.nilRow 142 3
      exact ⟨_, _, (hM.pick [1, 0] rfl rfl), ((api_Tracker.mk ([] : List Int) ([] : List api_Peer)), 6), hm, none, 0, 0, [], none, 0, 0, [], rfl, (DtL.nil : DtL _ [] ([] : List Int)), rfl, (DtL.nil : DtL _ [] ([] : List api_Peer)), rfl, rfl⟩
     ·
      replace hm := And.right hm hc26
      refine CW.skip <| CW.sr <| RW.st (Ex.assign (.slice none 0 0) rfl) rfl <| RW.nil <| CW.seq <| CW.sr <| RW.st (Ex.assign (.int .i64 0) rfl) rfl <| RW.nil <| CW.block ?_
      obtain ⟨m287, hm⟩ := hm
      skip
      replace hM := hM.nilRow 65 2
      refine CW.loop (β := Nat) (fun n σ w => ∃ (v29 : List api_Bitmap), ∃ (A30 : Option Addr), ∃ (n31 : Nat), ∃ (c32 : Nat), ∃ (s33 : List Value), ∃ (v36 : Int), ∃ Hk27, Hk10.le Hk27 ∧ (∃ τ, σ = sl [(1, .int .i64 x1), (2, .int .i64 x2), (3, .slice A3 n3 c3), (4, .pointer (some ⟨b4, 0, none⟩)), (8, .pointer (some ⟨b5, 0, none⟩)), (11, .int .i64 v12), (13, .slice A30 n31 c32), (14, .int .i64 v36)] τ) ∧ Mem w0 H w Hk27 [.box b4 85 [.slice A1 n1 c1, .slice A2 n2 c2], .box b5 85 [.slice none 0 0, .slice none 0 0], .row (.slice A30 n31 c32) 65 2 n31 s33] ∧ (DtL (α := api_Bitmap) Hk27 s33 v29) ∧ (n31 = v29.length) ∧ LoopN (ref47_Turn_L2 x0 x1 x2 x3 v12 Φ) n (v29, v36)) (fun n => n) m287 ⟨([] : List api_Bitmap), none, 0, 0, [], 0, Hk10, (Hp.le.refl _), slc ⟨rfl, rfl, rfl, rfl, rfl, rfl, rfl, rfl, trivial⟩, (hM.pick [1, 2, 0] rfl rfl), (DtL.nil : DtL _ [] ([] : List api_Bitmap)), rfl, hm⟩ ?_
      rintro k37 _ w ⟨v29, A30, n31, c32, s33, v36, Hk27, hle28, ⟨τ, rfl⟩, hM, hd34, hn35, hm⟩
      obtain _ | k37 := k37
      · exact hm.elim
      replace hm : (ref47_Turn_L2 x0 x1 x2 x3 v12 Φ) (v29, v36) (LoopN (ref47_Turn_L2 x0 x1 x2 x3 v12 Φ) k37) := hm
      generalize hrec38 : LoopN (ref47_Turn_L2 x0 x1 x2 x3 v12 Φ) k37 = rec2 at hm
      refine CW.seq <| CW.sr <| RW.st (Ex.move (.int .i64 v36) rfl) rfl <| RW.st (Ex.move (.slice A3 n3 c3) rfl) rfl <| RW.st (Ex.lenN st30.1 rfl hF3.hn) rfl <| RW.st (Ex.lss rfl rfl) rfl <| RW.nil ?_
      refine CW.cond_dec (p := v36 < (x3.length : Int)) rfl (fun hc39 => ?_) (fun hc39 => ?_)
      ·
       replace hm := And.left hm hc39
       refine CW.skip <| CW.seq <| CW.block <| CW.seq ?_
       obtain ⟨hg50, hm⟩ := hm
       obtain ⟨_, rfl, hx51⟩ := DtL.getI (α := Int) (hF1.mono ((hle8.trans hle11).trans hle28)).dat hg50
       obtain ⟨hg52, hm⟩ := hm
       obtain ⟨_, ⟨A53, n53, c53, s53, rfl, hF53⟩, hx54⟩ := DtL.getI (α := List api_Extent) (hF3.mono ((hle8.trans hle11).trans hle28)).dat hg52
       obtain ⟨v55, hW56, hm⟩ := hm
       refine CW.drawL 16 [] [(fun Hq us E => us = [.pointer (some ⟨b4, 0, none⟩)] ∧ E = [] ∧ True), (fun Hq us E => us = [.slice A1 n1 c1] ∧ E = [] ∧ True), (fun Hq us E => us = [.int .i64 v36] ∧ E = [] ∧ True), (fun Hq us E => us = [elp A1 (v36.toNat * 1 + 0)] ∧ E = [] ∧ True), (fun Hq us E => us = [.int .i64 ((ix x0.Sizes v36))] ∧ E = [] ∧ True), (fun Hq us E => us = [.slice A3 n3 c3] ∧ E = [] ∧ True), (fun Hq us E => us = [.int .i64 v36] ∧ E = [] ∧ True), (fun Hq us E => us = [elp A3 (v36.toNat * 1 + 0)] ∧ E = [] ∧ True), (fun Hq us E => us = [.slice A53 n53 c53] ∧ E = [] ∧ True), (fun Hq us E => ∃ (A57 : Option Addr), ∃ (n57 : Nat), ∃ (c57 : Nat), ∃ (s57 : List Value), us = [.tuple #[.agg #[.int .i64 v55.1.Size, .slice A57 n57 c57], .int .i64 v55.2]] ∧ E = [] ∧ Fz (α := BitVec 64) Hq A57 n57 c57 v55.1.Words s57 ∧ True), (fun Hq us E => ∃ (A57 : Option Addr), ∃ (n57 : Nat), ∃ (c57 : Nat), ∃ (s57 : List Value), us = [.tuple #[.agg #[.int .i64 v55.1.Size, .slice A57 n57 c57], .int .i64 v55.2], .tuple #[.agg #[.int .i64 v55.1.Size, .slice A57 n57 c57], .int .i64 v55.2]] ∧ E = [] ∧ Fz (α := BitVec 64) Hq A57 n57 c57 v55.1.Words s57 ∧ True), (fun Hq us E => ∃ (A57 : Option Addr), ∃ (n57 : Nat), ∃ (c57 : Nat), ∃ (s57 : List Value), us = [.tuple #[.agg #[.int .i64 v55.1.Size, .slice A57 n57 c57], .int .i64 v55.2], .agg #[.int .i64 v55.1.Size, .slice A57 n57 c57]] ∧ E = [] ∧ Fz (α := BitVec 64) Hq A57 n57 c57 v55.1.Words s57 ∧ True), (fun Hq us E => us = [.int .i64 v55.2] ∧ E = [] ∧ True), (fun Hq us E => ∃ (b58 : Nat), us = [.pointer (some ⟨b58, 0, none⟩)] ∧ E = [.box b58 65 [.int .i64 0, .slice none 0 0]] ∧ True), (fun Hq us E => ∃ (A57 : Option Addr), ∃ (n57 : Nat), ∃ (c57 : Nat), ∃ (s57 : List Value), ∃ (b58 : Nat), us = [.agg #[.int .i64 v55.1.Size, .slice A57 n57 c57], .pointer (some ⟨b58, 0, none⟩)] ∧ E = [.box b58 65 [.int .i64 v55.1.Size, .slice A57 n57 c57]] ∧ Fz (α := BitVec 64) Hq A57 n57 c57 v55.1.Words s57 ∧ True), (fun Hq us E => us = [.int .i64 v55.2] ∧ E = [] ∧ True)]
        (fun k => [[0], [1], [2], [3], [4], [5], [6], [7], [8], [9], [9, 10], [10, 11], [12], [13], [11, 13], [15]].getD k []) (fun k => [none, none, none, none, none, none, none, none, none, none, none, none, none, none, some 13, none].getD k none) (by kernel_rfl) hM (by kernel_rfl) (by kernel_rfl) (by kernel_rfl) rfl (by simp only [List.forall_mem_cons]; exact ⟨fun _ _ _ _ hle ⟨e1, e2, _⟩ => ⟨e1, e2, trivial⟩, fun _ _ _ _ hle ⟨e1, e2, _⟩ => ⟨e1, e2, trivial⟩, fun _ _ _ _ hle ⟨e1, e2, _⟩ => ⟨e1, e2, trivial⟩, fun _ _ _ _ hle ⟨e1, e2, _⟩ => ⟨e1, e2, trivial⟩, fun _ _ _ _ hle ⟨e1, e2, _⟩ => ⟨e1, e2, trivial⟩, fun _ _ _ _ hle ⟨e1, e2, _⟩ => ⟨e1, e2, trivial⟩, fun _ _ _ _ hle ⟨e1, e2, _⟩ => ⟨e1, e2, trivial⟩, fun _ _ _ _ hle ⟨e1, e2, _⟩ => ⟨e1, e2, trivial⟩, fun _ _ _ _ hle ⟨e1, e2, _⟩ => ⟨e1, e2, trivial⟩, fun _ _ _ _ hle ⟨A57, n57, c57, s57, e1, e2, hF57, _⟩ => ⟨A57, n57, c57, s57, e1, e2, hF57.mono hle, trivial⟩, fun _ _ _ _ hle ⟨A57, n57, c57, s57, e1, e2, hF57, _⟩ => ⟨A57, n57, c57, s57, e1, e2, hF57.mono hle, trivial⟩, fun _ _ _ _ hle ⟨A57, n57, c57, s57, e1, e2, hF57, _⟩ => ⟨A57, n57, c57, s57, e1, e2, hF57.mono hle, trivial⟩, fun _ _ _ _ hle ⟨e1, e2, _⟩ => ⟨e1, e2, trivial⟩, fun _ _ _ _ hle ⟨b58, e1, e2, _⟩ => ⟨b58, e1, e2, trivial⟩, fun _ _ _ _ hle ⟨A57, n57, c57, s57, b58, e1, e2, hF57, _⟩ => ⟨A57, n57, c57, s57, b58, e1, e2, hF57.mono hle, trivial⟩, fun _ _ _ _ hle ⟨e1, e2, _⟩ => ⟨e1, e2, trivial⟩, by simp⟩) ⟨?_, ?_, ?_, ?_, ?_, ?_, ?_, ?_, ?_, ?_, ?_, ?_, ?_, ?_, ?_, ?_, trivial⟩ ?_
       ·
        intro H' σ' w R E hle hMR hE0 hE hp hf
        obtain rfl := hE0 rfl
        obtain ⟨τ, rfl⟩ := slc (σ := σ') (l := [(4, .pointer (some ⟨b4, 0, none⟩))]) ⟨(hf 4 (by kernel_rfl)).trans rfl, trivial⟩
        have hM := Mem.subR (R := R) hMR
        exact RW.step (Ex.fieldAddr fa85_0 rfl) rfl rfl rfl (RW.nil ⟨rfl, rfl, _, rfl, H', [], Hp.le.refl _, hMR, rfl, rfl, trivial⟩)
       ·
        intro H' σ' w R E hle hMR hE0 hE hp hf
        obtain rfl := hE0 rfl
        obtain ⟨_, hg⟩ := hp 0 (by decide) (by kernel_rfl)
        obtain ⟨e59, _, _⟩ := hg.get rfl
        have e60 : σ' 64 = .pointer (some ⟨b4, 0, none⟩) := (List.cons.inj e59).1
        obtain ⟨τ, rfl⟩ := slc (σ := σ') (l := [(64, .pointer (some ⟨b4, 0, none⟩))]) ⟨e60, trivial⟩
        have hM := Mem.subR (R := R) hMR
        exact RW.step (Ex.load1 hM 0 to40 rfl rfl rfl) rfl rfl rfl (RW.nil ⟨rfl, rfl, _, rfl, H', [], Hp.le.refl _, hMR, rfl, rfl, trivial⟩)
       ·
        intro H' σ' w R E hle hMR hE0 hE hp hf
        obtain rfl := hE0 rfl
        obtain ⟨τ, rfl⟩ := slc (σ := σ') (l := [(14, .int .i64 v36)]) ⟨(hf 14 (by kernel_rfl)).trans rfl, trivial⟩
        have hM := Mem.subR (R := R) hMR
        exact RW.step (Ex.move (.int .i64 v36) rfl) rfl rfl rfl (RW.nil ⟨rfl, rfl, _, rfl, H', [], Hp.le.refl _, hMR, rfl, rfl, trivial⟩)
       ·
        intro H' σ' w R E hle hMR hE0 hE hp hf
        obtain rfl := hE0 rfl
        obtain ⟨_, hg⟩ := hp 1 (by decide) (by kernel_rfl)
        obtain ⟨e61, _, _⟩ := hg.get rfl
        have e62 : σ' 65 = .slice A1 n1 c1 := (List.cons.inj e61).1
        obtain ⟨_, hg⟩ := hp 2 (by decide) (by kernel_rfl)
        obtain ⟨e63, _, _⟩ := hg.get rfl
        have e64 : σ' 66 = .int .i64 v36 := (List.cons.inj e63).1
        obtain ⟨τ, rfl⟩ := slc (σ := σ') (l := [(65, .slice A1 n1 c1), (66, .int .i64 v36)]) ⟨e62, e64, trivial⟩
        have hM := Mem.subR (R := R) hMR
        exact RW.step (Ex.index st40 rfl rfl v36.toNat (hF1.ne hg50) hg50.nat (hF1.lt hg50)) rfl rfl rfl (RW.nil ⟨rfl, rfl, _, rfl, H', [], Hp.le.refl _, hMR, rfl, rfl, trivial⟩)
       ·
        intro H' σ' w R E hle hMR hE0 hE hp hf
        obtain rfl := hE0 rfl
        obtain ⟨_, hg⟩ := hp 3 (by decide) (by kernel_rfl)
        obtain ⟨e65, _, _⟩ := hg.get rfl
        have e66 : σ' 67 = elp A1 (v36.toNat * 1 + 0) := (List.cons.inj e65).1
        obtain ⟨τ, rfl⟩ := slc (σ := σ') (l := [(67, elp A1 (v36.toNat * 1 + 0))]) ⟨e66, trivial⟩
        have hM := Mem.subR (R := R) hMR
        exact RW.step (Ex.loadE hM (((hle8.trans hle11).trans hle28).trans hle) hF1.rdc to3 rfl (hx51 0 _ rfl)) rfl rfl rfl (RW.nil ⟨rfl, rfl, _, rfl, H', [], Hp.le.refl _, hMR, rfl, rfl, trivial⟩)
       ·
        intro H' σ' w R E hle hMR hE0 hE hp hf
        obtain rfl := hE0 rfl
        obtain ⟨τ, rfl⟩ := slc (σ := σ') (l := [(3, .slice A3 n3 c3)]) ⟨(hf 3 (by kernel_rfl)).trans rfl, trivial⟩
        have hM := Mem.subR (R := R) hMR
        exact RW.step (Ex.move (.slice A3 n3 c3) rfl) rfl rfl rfl (RW.nil ⟨rfl, rfl, _, rfl, H', [], Hp.le.refl _, hMR, rfl, rfl, trivial⟩)
       ·
        intro H' σ' w R E hle hMR hE0 hE hp hf
        obtain rfl := hE0 rfl
        obtain ⟨τ, rfl⟩ := slc (σ := σ') (l := [(14, .int .i64 v36)]) ⟨(hf 14 (by kernel_rfl)).trans rfl, trivial⟩
        have hM := Mem.subR (R := R) hMR
        exact RW.step (Ex.move (.int .i64 v36) rfl) rfl rfl rfl (RW.nil ⟨rfl, rfl, _, rfl, H', [], Hp.le.refl _, hMR, rfl, rfl, trivial⟩)
       ·
        intro H' σ' w R E hle hMR hE0 hE hp hf
        obtain rfl := hE0 rfl
        obtain ⟨_, hg⟩ := hp 5 (by decide) (by kernel_rfl)
        obtain ⟨e67, _, _⟩ := hg.get rfl
        have e68 : σ' 69 = .slice A3 n3 c3 := (List.cons.inj e67).1
        obtain ⟨_, hg⟩ := hp 6 (by decide) (by kernel_rfl)
        obtain ⟨e69, _, _⟩ := hg.get rfl
        have e70 : σ' 70 = .int .i64 v36 := (List.cons.inj e69).1
        obtain ⟨τ, rfl⟩ := slc (σ := σ') (l := [(69, .slice A3 n3 c3), (70, .int .i64 v36)]) ⟨e68, e70, trivial⟩
        have hM := Mem.subR (R := R) hMR
        exact RW.step (Ex.index st30 rfl rfl v36.toNat (hF3.ne hg52) hg52.nat (hF3.lt hg52)) rfl rfl rfl (RW.nil ⟨rfl, rfl, _, rfl, H', [], Hp.le.refl _, hMR, rfl, rfl, trivial⟩)
       ·
        intro H' σ' w R E hle hMR hE0 hE hp hf
        obtain rfl := hE0 rfl
        obtain ⟨_, hg⟩ := hp 7 (by decide) (by kernel_rfl)
        obtain ⟨e71, _, _⟩ := hg.get rfl
        have e72 : σ' 71 = elp A3 (v36.toNat * 1 + 0) := (List.cons.inj e71).1
        obtain ⟨τ, rfl⟩ := slc (σ := σ') (l := [(71, elp A3 (v36.toNat * 1 + 0))]) ⟨e72, trivial⟩
        have hM := Mem.subR (R := R) hMR
        exact RW.step (Ex.loadE hM (((hle8.trans hle11).trans hle28).trans hle) hF3.rdc to68 rfl (hx54 0 _ rfl)) rfl rfl rfl (RW.nil ⟨rfl, rfl, _, rfl, H', [], Hp.le.refl _, hMR, rfl, rfl, trivial⟩)
       ·
        intro H' σ' w R E hle hMR hE0 hE hp hf
        obtain rfl := hE0 rfl
        obtain ⟨_, hg⟩ := hp 4 (by decide) (by kernel_rfl)
        obtain ⟨e73, _, _⟩ := hg.get rfl
        have e74 : σ' 68 = .int .i64 ((ix x0.Sizes v36)) := (List.cons.inj e73).1
        obtain ⟨_, hg⟩ := hp 8 (by decide) (by kernel_rfl)
        obtain ⟨e75, _, _⟩ := hg.get rfl
        have e76 : σ' 72 = .slice A53 n53 c53 := (List.cons.inj e75).1
        obtain ⟨τ, rfl⟩ := slc (σ := σ') (l := [(68, .int .i64 ((ix x0.Sizes v36))), (72, .slice A53 n53 c53)]) ⟨e74, e76, trivial⟩
        have hM := Mem.subR (R := R) hMR
        refine RW.callP hMR (ref02_FromExtents_lift (ix x0.Sizes v36) (ix x3 v36) (hF53.mono hle) hW56) en26 rfl rfl rfl rfl ?_; rintro _ w HS9 _ hleS ⟨_, rfl, A57, n57, c57, s57, rfl, hF57, rfl⟩ hMR
        exact RW.nil ⟨rfl, rfl, _, rfl, HS9, [], hleS, hMR, A57, n57, c57, s57, rfl, rfl, hF57, trivial⟩
       ·
        intro H' σ' w R E hle hMR hE0 hE hp hf
        obtain rfl := hE0 rfl
        obtain ⟨_, hg⟩ := hp 9 (by decide) (by kernel_rfl)
        obtain ⟨A57, n57, c57, s57, e77, _, hF57, _⟩ := hg.get rfl
        have e78 : σ' 73 = .tuple #[.agg #[.int .i64 v55.1.Size, .slice A57 n57 c57], .int .i64 v55.2] := (List.cons.inj e77).1
        obtain ⟨τ, rfl⟩ := slc (σ := σ') (l := [(73, .tuple #[.agg #[.int .i64 v55.1.Size, .slice A57 n57 c57], .int .i64 v55.2])]) ⟨e78, trivial⟩
        have hM := Mem.subR (R := R) hMR
        exact RW.step (Ex.move (.tuple #[.agg #[.int .i64 v55.1.Size, .slice A57 n57 c57], .int .i64 v55.2]) rfl) rfl rfl rfl (RW.nil ⟨rfl, rfl, _, rfl, H', [], Hp.le.refl _, hMR, A57, n57, c57, s57, rfl, rfl, hF57, trivial⟩)
       ·
        intro H' σ' w R E hle hMR hE0 hE hp hf
        obtain rfl := hE0 rfl
        obtain ⟨_, hg⟩ := hp 10 (by decide) (by kernel_rfl)
        obtain ⟨A57, n57, c57, s57, e79, _, hF57, _⟩ := hg.get rfl
        have e80 : σ' 73 = .tuple #[.agg #[.int .i64 v55.1.Size, .slice A57 n57 c57], .int .i64 v55.2] := (List.cons.inj e79).1
        have e81 : σ' 63 = .tuple #[.agg #[.int .i64 v55.1.Size, .slice A57 n57 c57], .int .i64 v55.2] := (List.cons.inj (List.cons.inj e79).2).1
        obtain ⟨τ, rfl⟩ := slc (σ := σ') (l := [(63, .tuple #[.agg #[.int .i64 v55.1.Size, .slice A57 n57 c57], .int .i64 v55.2])]) ⟨e81, trivial⟩
        have hM := Mem.subR (R := R) hMR
        exact RW.step (Ex.extract rfl rfl) rfl rfl rfl (RW.nil ⟨rfl, rfl, _, rfl, H', [], Hp.le.refl _, hMR, A57, n57, c57, s57, rfl, rfl, hF57, trivial⟩)
       ·
        intro H' σ' w R E hle hMR hE0 hE hp hf
        obtain rfl := hE0 rfl
        obtain ⟨_, hg⟩ := hp 10 (by decide) (by kernel_rfl)
        obtain ⟨A57, n57, c57, s57, e82, _, hF57, _⟩ := hg.get rfl
        have e83 : σ' 73 = .tuple #[.agg #[.int .i64 v55.1.Size, .slice A57 n57 c57], .int .i64 v55.2] := (List.cons.inj e82).1
        have e84 : σ' 63 = .tuple #[.agg #[.int .i64 v55.1.Size, .slice A57 n57 c57], .int .i64 v55.2] := (List.cons.inj (List.cons.inj e82).2).1
        obtain ⟨τ, rfl⟩ := slc (σ := σ') (l := [(63, .tuple #[.agg #[.int .i64 v55.1.Size, .slice A57 n57 c57], .int .i64 v55.2])]) ⟨e84, trivial⟩
        have hM := Mem.subR (R := R) hMR
        exact RW.step (Ex.extract rfl rfl) rfl rfl rfl (RW.nil ⟨rfl, rfl, _, rfl, H', [], Hp.le.refl _, hMR, rfl, rfl, trivial⟩)
       ·
        intro H' σ' w R E hle hMR hE0 hE hp hf
        obtain rfl := hE0 rfl
        obtain ⟨τ, rfl⟩ := slc (σ := σ') (l := []) trivial
        have hM := Mem.subR (R := R) hMR
        refine RW.alloc hMR tz65 [.int .i64 0, .slice none 0 0] rfl rfl rfl ?_; intro b58 w hMR
        exact RW.nil ⟨rfl, rfl, _, rfl, H', [.box b58 65 [.int .i64 0, .slice none 0 0]], Hp.le.refl _, hMR, b58, rfl, rfl, trivial⟩
       ·
        intro H' σ' w R E hle hMR hE0 hE hp hf
        obtain ⟨b58, e85, rfl, _⟩ := (hE 13 rfl).get rfl
        have e86 : σ' 15 = .pointer (some ⟨b58, 0, none⟩) := (List.cons.inj e85).1
        obtain ⟨_, hg⟩ := hp 11 (by decide) (by kernel_rfl)
        obtain ⟨A57, n57, c57, s57, e87, _, hF57, _⟩ := hg.get rfl
        have e88 : σ' 63 = .tuple #[.agg #[.int .i64 v55.1.Size, .slice A57 n57 c57], .int .i64 v55.2] := (List.cons.inj e87).1
        have e89 : σ' 74 = .agg #[.int .i64 v55.1.Size, .slice A57 n57 c57] := (List.cons.inj (List.cons.inj e87).2).1
        obtain ⟨τ, rfl⟩ := slc (σ := σ') (l := [(74, .agg #[.int .i64 v55.1.Size, .slice A57 n57 c57]), (15, .pointer (some ⟨b58, 0, none⟩))]) ⟨e89, e86, trivial⟩
        refine RW.store hMR 0 (.agg #[.int .i64 v55.1.Size, .slice A57 n57 c57]) [.int .i64 v55.1.Size, .slice A57 n57 c57] [.int .i64 v55.1.Size, .slice A57 n57 c57] sz65 rfl rfl rfl (oneAll ⟨rfl, rfl, trivial⟩) rfl (nb rfl) rfl (.box b58 65 [.int .i64 v55.1.Size, .slice A57 n57 c57] :: (R ++ [.box b4 85 [.slice A1 n1 c1, .slice A2 n2 c2], .box b5 85 [.slice none 0 0, .slice none 0 0], .row (.slice A30 n31 c32) 65 2 n31 s33])) rfl rfl rfl ?_; intro w hMR
        exact RW.nil ⟨rfl, rfl, _, rfl, H', [.box b58 65 [.int .i64 v55.1.Size, .slice A57 n57 c57]], Hp.le.refl _, hMR, A57, n57, c57, s57, b58, rfl, rfl, hF57, trivial⟩
       ·
        intro H' σ' w R E hle hMR hE0 hE hp hf
        obtain rfl := hE0 rfl
        obtain ⟨_, hg⟩ := hp 12 (by decide) (by kernel_rfl)
        obtain ⟨e90, _, _⟩ := hg.get rfl
        have e91 : σ' 75 = .int .i64 v55.2 := (List.cons.inj e90).1
        obtain ⟨τ, rfl⟩ := slc (σ := σ') (l := [(75, .int .i64 v55.2)]) ⟨e91, trivial⟩
        have hM := Mem.subR (R := R) hMR
        exact RW.step (Ex.assign (.int .i64 v55.2) rfl) rfl rfl rfl (RW.nil ⟨rfl, rfl, _, rfl, H', [], Hp.le.refl _, hMR, rfl, rfl, trivial⟩)
       ·
        intro HR8 σ' w X miss hms hleR hM hX hX0 hf
        simp [subs] at hms
        rcases hms with rfl
        ·
         obtain ⟨H92, hH8⟩ : ∃ x, x = HR8 := ⟨_, rfl⟩
         subst hH8
         have hle93 := hleR
         obtain ⟨_, g0, y0⟩ := hX 0 (by decide) (by kernel_rfl)
         obtain ⟨_, rfl, _⟩ := g0.get rfl
         replace y0 : X 0 = [] := y0
         obtain ⟨_, g0, y1⟩ := hX 1 (by decide) (by kernel_rfl)
         obtain ⟨_, rfl, _⟩ := g0.get rfl
         replace y1 : X 1 = [] := y1
         obtain ⟨_, g0, y2⟩ := hX 2 (by decide) (by kernel_rfl)
         obtain ⟨_, rfl, _⟩ := g0.get rfl
         replace y2 : X 2 = [] := y2
         obtain ⟨_, g0, y3⟩ := hX 3 (by decide) (by kernel_rfl)
         obtain ⟨_, rfl, _⟩ := g0.get rfl
         replace y3 : X 3 = [] := y3
         obtain ⟨_, g0, y4⟩ := hX 4 (by decide) (by kernel_rfl)
         obtain ⟨_, rfl, _⟩ := g0.get rfl
         replace y4 : X 4 = [] := y4
         obtain ⟨_, g0, y5⟩ := hX 5 (by decide) (by kernel_rfl)
         obtain ⟨_, rfl, _⟩ := g0.get rfl
         replace y5 : X 5 = [] := y5
         obtain ⟨_, g0, y6⟩ := hX 6 (by decide) (by kernel_rfl)
         obtain ⟨_, rfl, _⟩ := g0.get rfl
         replace y6 : X 6 = [] := y6
         obtain ⟨_, g0, y7⟩ := hX 7 (by decide) (by kernel_rfl)
         obtain ⟨_, rfl, _⟩ := g0.get rfl
         replace y7 : X 7 = [] := y7
         obtain ⟨_, g0, y8⟩ := hX 8 (by decide) (by kernel_rfl)
         obtain ⟨_, rfl, _⟩ := g0.get rfl
         replace y8 : X 8 = [] := y8
         obtain ⟨_, g0, y9⟩ := hX 9 (by decide) (by kernel_rfl)
         obtain ⟨A57, n57, c57, s57, e94, rfl, hF57, _⟩ := g0.get rfl
         have e95 : σ' 73 = .tuple #[.agg #[.int .i64 v55.1.Size, .slice A57 n57 c57], .int .i64 v55.2] := (List.cons.inj e94).1
         replace y9 : X 9 = [] := y9
         obtain ⟨_, g0, y10⟩ := hX 10 (by decide) (by kernel_rfl)
         obtain ⟨A57q, n57q, c57q, s57q, e96, rfl, _, _⟩ := g0.get rfl
         have e97 : σ' 73 = .tuple #[.agg #[.int .i64 v55.1.Size, .slice A57q n57q c57q], .int .i64 v55.2] := (List.cons.inj e96).1
         have he_ := e95.symm.trans e97
         have ⟨e98, e99, e100⟩ : A57 = A57q ∧ n57 = n57q ∧ c57 = c57q := by simp at he_; simp [he_]
         subst e98
         subst e99
         subst e100
         have e101 : σ' 63 = .tuple #[.agg #[.int .i64 v55.1.Size, .slice A57 n57 c57], .int .i64 v55.2] := (List.cons.inj (List.cons.inj e96).2).1
         replace y10 : X 10 = [] := y10
         obtain ⟨_, g0, y11⟩ := hX 11 (by decide) (by kernel_rfl)
         obtain ⟨A57q, n57q, c57q, s57q, e102, rfl, _, _⟩ := g0.get rfl
         have e103 : σ' 63 = .tuple #[.agg #[.int .i64 v55.1.Size, .slice A57q n57q c57q], .int .i64 v55.2] := (List.cons.inj e102).1
         have he_ := e101.symm.trans e103
         have ⟨e104, e105, e106⟩ : A57 = A57q ∧ n57 = n57q ∧ c57 = c57q := by simp at he_; simp [he_]
         subst e104
         subst e105
         subst e106
         have e107 : σ' 74 = .agg #[.int .i64 v55.1.Size, .slice A57 n57 c57] := (List.cons.inj (List.cons.inj e102).2).1
         replace y11 : X 11 = [] := y11
         obtain ⟨_, g0, y12⟩ := hX 12 (by decide) (by kernel_rfl)
         obtain ⟨_, rfl, _⟩ := g0.get rfl
         replace y12 : X 12 = [] := y12
         obtain ⟨_, g0, y13⟩ := hX 13 (by decide) (by kernel_rfl)
         obtain ⟨_, _, rfl, _⟩ := g0.get rfl
         replace y13 : X 13 = [] := y13
         obtain ⟨_, g0, y14⟩ := hX 14 (by decide) (by kernel_rfl)
         obtain ⟨A57q, n57q, c57q, s57q, b58, e108, rfl, _, _⟩ := g0.get rfl
         have e109 : σ' 74 = .agg #[.int .i64 v55.1.Size, .slice A57q n57q c57q] := (List.cons.inj e108).1
         have he_ := e107.symm.trans e109
         have ⟨e110, e111, e112⟩ : A57 = A57q ∧ n57 = n57q ∧ c57 = c57q := by simp at he_; simp [he_]
         subst e110
         subst e111
         subst e112
         have e113 : σ' 15 = .pointer (some ⟨b58, 0, none⟩) := (List.cons.inj (List.cons.inj e108).2).1
         replace y14 : X 14 = [.box b58 65 [.int .i64 v55.1.Size, .slice A57 n57 c57]] := y14
         obtain ⟨_, g0, y15⟩ := hX 15 (by decide) (by kernel_rfl)
         obtain ⟨e114, rfl, _⟩ := g0.get rfl
         have e115 : σ' 16 = .int .i64 v55.2 := (List.cons.inj e114).1
         replace y15 : X 15 = [] := y15
         have hfl : flatX X 16 = [.box b58 65 [.int .i64 v55.1.Size, .slice A57 n57 c57]] := by
          show X 0 ++ (X 1 ++ (X 2 ++ (X 3 ++ (X 4 ++ (X 5 ++ (X 6 ++ (X 7 ++ (X 8 ++ (X 9 ++ (X 10 ++ (X 11 ++ (X 12 ++ (X 13 ++ (X 14 ++ (X 15 ++ []))))))))))))))) = _
          rw [y0, y1, y2, y3, y4, y5, y6, y7, y8, y9, y10, y11, y12, y13, y14, y15]; rfl
         rw [hfl] at hM
         obtain ⟨τ, rfl⟩ := slc (σ := σ') (l := [(1, .int .i64 x1), (2, .int .i64 x2), (3, .slice A3 n3 c3), (4, .pointer (some ⟨b4, 0, none⟩)), (8, .pointer (some ⟨b5, 0, none⟩)), (11, .int .i64 v12), (13, .slice A30 n31 c32), (14, .int .i64 v36), (15, .pointer (some ⟨b58, 0, none⟩)), (16, .int .i64 v55.2)]) ⟨(hf 1 (by kernel_rfl)).trans rfl, (hf 2 (by kernel_rfl)).trans rfl, (hf 3 (by kernel_rfl)).trans rfl, (hf 4 (by kernel_rfl)).trans rfl, (hf 8 (by kernel_rfl)).trans rfl, (hf 11 (by kernel_rfl)).trans rfl, (hf 13 (by kernel_rfl)).trans rfl, (hf 14 (by kernel_rfl)).trans rfl, e113, e115, trivial⟩
         change RA _ _ _ _ _ _ _ (sl [(1, .int .i64 x1), (2, .int .i64 x2), (3, .slice A3 n3 c3), (4, .pointer (some ⟨b4, 0, none⟩)), (8, .pointer (some ⟨b5, 0, none⟩)), (11, .int .i64 v12), (13, .slice A30 n31 c32), (14, .int .i64 v36), (15, .pointer (some ⟨b58, 0, none⟩)), (16, .int .i64 v55.2)] τ) _ 16 _
         refine RA.done (by kernel_rfl) ?_
         refine CW.seq <| CW.sr <| RW.st (Ex.move (.int .i64 v55.2) rfl) rfl <| RW.st (Ex.neq rfl rfl) rfl <| RW.nil ?_
         refine CW.cond_dec (p := v55.2 ≠ 0) rfl (fun hc116 => ?_) (fun hc116 => ?_)
         ·
          replace hm := And.left hm hc116
          refine CW.sr <| RW.st (Ex.build bs85 [] [.slice none 0 0, .slice none 0 0] rfl rfl) rfl <| RW.st (Ex.move (.int .i64 v55.2) rfl) rfl ?_
          refine RW.store hM 2 (.agg #[.slice none 0 0, .slice none 0 0]) [.slice none 0 0, .slice none 0 0] [.slice none 0 0, .slice none 0 0] sz85 rfl rfl rfl (oneAll ⟨rfl, rfl, trivial⟩) rfl (nb rfl) rfl [.box b58 65 [.int .i64 v55.1.Size, .slice A57 n57 c57], .box b4 85 [.slice A1 n1 c1, .slice A2 n2 c2], .box b5 85 [.slice none 0 0, .slice none 0 0], .row (.slice A30 n31 c32) 65 2 n31 s33] rfl rfl rfl ?_; intro w hM
          refine RW.st (Ex.assign (.int .i64 v55.2) rfl) rfl <| RW.nil <| CW.ret ?_
          refine tqr (bqr (tqr (tqr (bqr (tqr ?_)))))
          refine ect (k := 2) (.inl rfl) rfl hM rfl (.int .i64 v55.2) rfl ta85 [.slice none 0 0, .slice none 0 0] rfl rfl ?_
          replace hM := hM.nilRow 3 1
          replace hM := hM.nilRow 142 3
          exact ⟨_, _, (hM.pick [1, 0] rfl rfl), ((api_Tracker.mk ([] : List Int) ([] : List api_Peer)), v55.2), hm, none, 0, 0, [], none, 0, 0, [], rfl, (DtL.nil : DtL _ [] ([] : List Int)), rfl, (DtL.nil : DtL _ [] ([] : List api_Peer)), rfl, rfl⟩
         ·
          replace hm := And.right hm hc116
          refine CW.skip <| CW.seq ?_
          obtain ⟨hg148, hm⟩ := hm
          obtain ⟨_, ⟨A149, n149, c149, s149, rfl, hF149⟩, hx150⟩ := DtL.getI (α := api_Peer) (hF2.mono (((hle8.trans hle11).trans hle28).trans hle93)).dat hg148
          obtain ⟨hg151, hm⟩ := hm
          obtain ⟨_, ⟨A152, n152, c152, s152, rfl, hF152⟩, hx153⟩ := DtL.getI (α := api_Bitmap) hF149.dat hg151
          obtain ⟨v154, hW155, hm⟩ := hm
          refine CW.drawL 14 [13] [(fun Hq us E => us = [.agg #[.int .i64 v55.1.Size, .slice A57 n57 c57]] ∧ E = [] ∧ True), (fun Hq us E => us = [.pointer (some ⟨b4, 1, none⟩)] ∧ E = [] ∧ True), (fun Hq us E => us = [.slice A2 n2 c2] ∧ E = [] ∧ True), (fun Hq us E => us = [.int .i64 v12] ∧ E = [] ∧ True), (fun Hq us E => us = [elp A2 (v12.toNat * 3 + 0)] ∧ E = [] ∧ True), (fun Hq us E => us = [elp A2 (v12.toNat * 3 + 2)] ∧ E = [] ∧ True), (fun Hq us E => us = [.slice A149 n149 c149] ∧ E = [] ∧ True), (fun Hq us E => us = [.int .i64 v36] ∧ E = [] ∧ True), (fun Hq us E => us = [elp A149 (v36.toNat * 2 + 0)] ∧ E = [] ∧ True), (fun Hq us E => us = [.agg #[.int .i64 ((ix ((ix x0.Peers v12).Dirty) v36).Size), .slice A152 n152 c152]] ∧ E = [] ∧ True), (fun Hq us E => ∃ (A156 : Option Addr), ∃ (n156 : Nat), ∃ (c156 : Nat), ∃ (s156 : List Value), us = [.tuple #[.agg #[.int .i64 v154.1.Size, .slice A156 n156 c156], .int .i64 v154.2]] ∧ E = [] ∧ Fz (α := BitVec 64) Hq A156 n156 c156 v154.1.Words s156 ∧ True), (fun Hq us E => ∃ (A156 : Option Addr), ∃ (n156 : Nat), ∃ (c156 : Nat), ∃ (s156 : List Value), us = [.tuple #[.agg #[.int .i64 v154.1.Size, .slice A156 n156 c156], .int .i64 v154.2], .tuple #[.agg #[.int .i64 v154.1.Size, .slice A156 n156 c156], .int .i64 v154.2]] ∧ E = [] ∧ Fz (α := BitVec 64) Hq A156 n156 c156 v154.1.Words s156 ∧ True), (fun Hq us E => ∃ (A156 : Option Addr), ∃ (n156 : Nat), ∃ (c156 : Nat), ∃ (s156 : List Value), us = [.tuple #[.agg #[.int .i64 v154.1.Size, .slice A156 n156 c156], .int .i64 v154.2], .agg #[.int .i64 v154.1.Size, .slice A156 n156 c156]] ∧ E = [] ∧ Fz (α := BitVec 64) Hq A156 n156 c156 v154.1.Words s156 ∧ True), (fun Hq us E => us = [.int .i64 v154.2] ∧ E = [] ∧ True)]
           (fun k => [[0], [1], [2], [3], [4], [5], [6], [7], [8], [9], [10], [10, 11], [11, 12], [13]].getD k []) (fun _ => none) (by kernel_rfl) hM (by kernel_rfl) (by kernel_rfl) (by kernel_rfl) rfl (by simp only [List.forall_mem_cons]; exact ⟨fun _ _ _ _ hle ⟨e1, e2, _⟩ => ⟨e1, e2, trivial⟩, fun _ _ _ _ hle ⟨e1, e2, _⟩ => ⟨e1, e2, trivial⟩, fun _ _ _ _ hle ⟨e1, e2, _⟩ => ⟨e1, e2, trivial⟩, fun _ _ _ _ hle ⟨e1, e2, _⟩ => ⟨e1, e2, trivial⟩, fun _ _ _ _ hle ⟨e1, e2, _⟩ => ⟨e1, e2, trivial⟩, fun _ _ _ _ hle ⟨e1, e2, _⟩ => ⟨e1, e2, trivial⟩, fun _ _ _ _ hle ⟨e1, e2, _⟩ => ⟨e1, e2, trivial⟩, fun _ _ _ _ hle ⟨e1, e2, _⟩ => ⟨e1, e2, trivial⟩, fun _ _ _ _ hle ⟨e1, e2, _⟩ => ⟨e1, e2, trivial⟩, fun _ _ _ _ hle ⟨e1, e2, _⟩ => ⟨e1, e2, trivial⟩, fun _ _ _ _ hle ⟨A156, n156, c156, s156, e1, e2, hF159, _⟩ => ⟨A156, n156, c156, s156, e1, e2, hF159.mono hle, trivial⟩, fun _ _ _ _ hle ⟨A156, n156, c156, s156, e1, e2, hF159, _⟩ => ⟨A156, n156, c156, s156, e1, e2, hF159.mono hle, trivial⟩, fun _ _ _ _ hle ⟨A156, n156, c156, s156, e1, e2, hF159, _⟩ => ⟨A156, n156, c156, s156, e1, e2, hF159.mono hle, trivial⟩, fun _ _ _ _ hle ⟨e1, e2, _⟩ => ⟨e1, e2, trivial⟩, by simp⟩) ⟨?_, ?_, ?_, ?_, ?_, ?_, ?_, ?_, ?_, ?_, ?_, ?_, ?_, ?_, trivial⟩ ?_
          ·
           intro H' σ' w R E hle hMR hE0 hE hp hf
           obtain rfl := hE0 rfl
           obtain ⟨τ, rfl⟩ := slc (σ := σ') (l := [(15, .pointer (some ⟨b58, 0, none⟩))]) ⟨(hf 15 (by kernel_rfl)).trans rfl, trivial⟩
           have hM := Mem.subR (R := R) hMR
           exact RW.step (Ex.loadA hM 0 [.int .i64 v55.1.Size, .slice A57 n57 c57] ta65 rfl rfl rfl rfl) rfl rfl rfl (RW.nil ⟨rfl, rfl, _, rfl, H', [], Hp.le.refl _, hMR, rfl, rfl, trivial⟩)
          ·
           intro H' σ' w R E hle hMR hE0 hE hp hf
           obtain rfl := hE0 rfl
           obtain ⟨τ, rfl⟩ := slc (σ := σ') (l := [(4, .pointer (some ⟨b4, 0, none⟩))]) ⟨(hf 4 (by kernel_rfl)).trans rfl, trivial⟩
           have hM := Mem.subR (R := R) hMR
           exact RW.step (Ex.fieldAddr fa85_1 rfl) rfl rfl rfl (RW.nil ⟨rfl, rfl, _, rfl, H', [], Hp.le.refl _, hMR, rfl, rfl, trivial⟩)
          ·
           intro H' σ' w R E hle hMR hE0 hE hp hf
           obtain rfl := hE0 rfl
           obtain ⟨_, hg⟩ := hp 1 (by decide) (by kernel_rfl)
           obtain ⟨e160, _, _⟩ := hg.get rfl
           have e161 : σ' 82 = .pointer (some ⟨b4, 1, none⟩) := (List.cons.inj e160).1
           obtain ⟨τ, rfl⟩ := slc (σ := σ') (l := [(82, .pointer (some ⟨b4, 1, none⟩))]) ⟨e161, trivial⟩
           have hM := Mem.subR (R := R) hMR
           exact RW.step (Ex.load1 hM 1 to83 rfl rfl rfl) rfl rfl rfl (RW.nil ⟨rfl, rfl, _, rfl, H', [], Hp.le.refl _, hMR, rfl, rfl, trivial⟩)
          ·
           intro H' σ' w R E hle hMR hE0 hE hp hf
           obtain rfl := hE0 rfl
           obtain ⟨τ, rfl⟩ := slc (σ := σ') (l := [(11, .int .i64 v12)]) ⟨(hf 11 (by kernel_rfl)).trans rfl, trivial⟩
           have hM := Mem.subR (R := R) hMR
           exact RW.step (Ex.move (.int .i64 v12) rfl) rfl rfl rfl (RW.nil ⟨rfl, rfl, _, rfl, H', [], Hp.le.refl _, hMR, rfl, rfl, trivial⟩)
          ·
           intro H' σ' w R E hle hMR hE0 hE hp hf
           obtain rfl := hE0 rfl
           obtain ⟨_, hg⟩ := hp 2 (by decide) (by kernel_rfl)
           obtain ⟨e162, _, _⟩ := hg.get rfl
           have e163 : σ' 83 = .slice A2 n2 c2 := (List.cons.inj e162).1
           obtain ⟨_, hg⟩ := hp 3 (by decide) (by kernel_rfl)
           obtain ⟨e164, _, _⟩ := hg.get rfl
           have e165 : σ' 84 = .int .i64 v12 := (List.cons.inj e164).1
           obtain ⟨τ, rfl⟩ := slc (σ := σ') (l := [(83, .slice A2 n2 c2), (84, .int .i64 v12)]) ⟨e163, e165, trivial⟩
           have hM := Mem.subR (R := R) hMR
           exact RW.step (Ex.index st83 rfl rfl v12.toNat (hF2.ne hg148) hg148.nat (hF2.lt hg148)) rfl rfl rfl (RW.nil ⟨rfl, rfl, _, rfl, H', [], Hp.le.refl _, hMR, rfl, rfl, trivial⟩)
          ·
           intro H' σ' w R E hle hMR hE0 hE hp hf
           obtain rfl := hE0 rfl
           obtain ⟨_, hg⟩ := hp 4 (by decide) (by kernel_rfl)
           obtain ⟨e166, _, _⟩ := hg.get rfl
           have e167 : σ' 85 = elp A2 (v12.toNat * 3 + 0) := (List.cons.inj e166).1
           obtain ⟨τ, rfl⟩ := slc (σ := σ') (l := [(85, elp A2 (v12.toNat * 3 + 0))]) ⟨e167, trivial⟩
           have hM := Mem.subR (R := R) hMR
           exact RW.step (Ex.fieldE fa142_2 (hF2.ne hg148) rfl) rfl rfl rfl (RW.nil ⟨rfl, rfl, _, rfl, H', [], Hp.le.refl _, hMR, rfl, rfl, trivial⟩)
          ·
           intro H' σ' w R E hle hMR hE0 hE hp hf
           obtain rfl := hE0 rfl
           obtain ⟨_, hg⟩ := hp 5 (by decide) (by kernel_rfl)
           obtain ⟨e168, _, _⟩ := hg.get rfl
           have e169 : σ' 86 = elp A2 (v12.toNat * 3 + 2) := (List.cons.inj e168).1
           obtain ⟨τ, rfl⟩ := slc (σ := σ') (l := [(86, elp A2 (v12.toNat * 3 + 2))]) ⟨e169, trivial⟩
           have hM := Mem.subR (R := R) hMR
           exact RW.step (Ex.loadE hM ((((hle8.trans hle11).trans hle28).trans hle93).trans hle) hF2.rdc to23 rfl (hx150 2 _ rfl)) rfl rfl rfl (RW.nil ⟨rfl, rfl, _, rfl, H', [], Hp.le.refl _, hMR, rfl, rfl, trivial⟩)
          ·
           intro H' σ' w R E hle hMR hE0 hE hp hf
           obtain rfl := hE0 rfl
           obtain ⟨τ, rfl⟩ := slc (σ := σ') (l := [(14, .int .i64 v36)]) ⟨(hf 14 (by kernel_rfl)).trans rfl, trivial⟩
           have hM := Mem.subR (R := R) hMR
           exact RW.step (Ex.move (.int .i64 v36) rfl) rfl rfl rfl (RW.nil ⟨rfl, rfl, _, rfl, H', [], Hp.le.refl _, hMR, rfl, rfl, trivial⟩)
          ·
           intro H' σ' w R E hle hMR hE0 hE hp hf
           obtain rfl := hE0 rfl
           obtain ⟨_, hg⟩ := hp 6 (by decide) (by kernel_rfl)
           obtain ⟨e170, _, _⟩ := hg.get rfl
           have e171 : σ' 87 = .slice A149 n149 c149 := (List.cons.inj e170).1
           obtain ⟨_, hg⟩ := hp 7 (by decide) (by kernel_rfl)
           obtain ⟨e172, _, _⟩ := hg.get rfl
           have e173 : σ' 88 = .int .i64 v36 := (List.cons.inj e172).1
           obtain ⟨τ, rfl⟩ := slc (σ := σ') (l := [(87, .slice A149 n149 c149), (88, .int .i64 v36)]) ⟨e171, e173, trivial⟩
           have hM := Mem.subR (R := R) hMR
           exact RW.step (Ex.index st23 rfl rfl v36.toNat (hF149.ne hg151) hg151.nat (hF149.lt hg151)) rfl rfl rfl (RW.nil ⟨rfl, rfl, _, rfl, H', [], Hp.le.refl _, hMR, rfl, rfl, trivial⟩)
          ·
           intro H' σ' w R E hle hMR hE0 hE hp hf
           obtain rfl := hE0 rfl
           obtain ⟨_, hg⟩ := hp 8 (by decide) (by kernel_rfl)
           obtain ⟨e174, _, _⟩ := hg.get rfl
           have e175 : σ' 89 = elp A149 (v36.toNat * 2 + 0) := (List.cons.inj e174).1
           obtain ⟨τ, rfl⟩ := slc (σ := σ') (l := [(89, elp A149 (v36.toNat * 2 + 0))]) ⟨e175, trivial⟩
           have hM := Mem.subR (R := R) hMR
           exact RW.step (Ex.loadEA hM hle hF149.rdc [.int .i64 ((ix ((ix x0.Peers v12).Dirty) v36).Size), .slice A152 n152 c152] ta65 rfl (hF149.ne hg151) rfl (chunk_sub (off := 0) (n := 2) hx153 rfl)) rfl rfl rfl (RW.nil ⟨rfl, rfl, _, rfl, H', [], Hp.le.refl _, hMR, rfl, rfl, trivial⟩)
          ·
           intro H' σ' w R E hle hMR hE0 hE hp hf
           obtain rfl := hE0 rfl
           obtain ⟨_, hg⟩ := hp 0 (by decide) (by kernel_rfl)
           obtain ⟨e176, _, _⟩ := hg.get rfl
           have e177 : σ' 81 = .agg #[.int .i64 v55.1.Size, .slice A57 n57 c57] := (List.cons.inj e176).1
           obtain ⟨_, hg⟩ := hp 9 (by decide) (by kernel_rfl)
           obtain ⟨e178, _, _⟩ := hg.get rfl
           have e179 : σ' 90 = .agg #[.int .i64 ((ix ((ix x0.Peers v12).Dirty) v36).Size), .slice A152 n152 c152] := (List.cons.inj e178).1
           obtain ⟨τ, rfl⟩ := slc (σ := σ') (l := [(81, .agg #[.int .i64 v55.1.Size, .slice A57 n57 c57]), (90, .agg #[.int .i64 ((ix ((ix x0.Peers v12).Dirty) v36).Size), .slice A152 n152 c152])]) ⟨e177, e179, trivial⟩
           have hM := Mem.subR (R := R) hMR
           refine RW.callP hMR (ref02_Or_lift v55.1 (ix ((ix x0.Peers v12).Dirty) v36) (hF57.mono hle) (hF152.mono hle) hW155) en87 rfl rfl rfl rfl ?_; rintro _ w HS9 _ hleS ⟨_, rfl, A156, n156, c156, s156, rfl, hd157, hn158, rfl⟩ hMR
           obtain ⟨HS90, hMR, hleS0, hF159⟩ := hMR.giveF (α := BitVec 64) 0 rfl hd157 hn158
           exact RW.nil ⟨rfl, rfl, _, rfl, HS90, [], (hleS.trans hleS0), hMR, A156, n156, c156, s156, rfl, rfl, hF159, trivial⟩
          ·
           intro H' σ' w R E hle hMR hE0 hE hp hf
           obtain rfl := hE0 rfl
           obtain ⟨_, hg⟩ := hp 10 (by decide) (by kernel_rfl)
           obtain ⟨A156, n156, c156, s156, e180, _, hF159, _⟩ := hg.get rfl
           have e181 : σ' 91 = .tuple #[.agg #[.int .i64 v154.1.Size, .slice A156 n156 c156], .int .i64 v154.2] := (List.cons.inj e180).1
           obtain ⟨τ, rfl⟩ := slc (σ := σ') (l := [(91, .tuple #[.agg #[.int .i64 v154.1.Size, .slice A156 n156 c156], .int .i64 v154.2])]) ⟨e181, trivial⟩
           have hM := Mem.subR (R := R) hMR
           exact RW.step (Ex.move (.tuple #[.agg #[.int .i64 v154.1.Size, .slice A156 n156 c156], .int .i64 v154.2]) rfl) rfl rfl rfl (RW.nil ⟨rfl, rfl, _, rfl, H', [], Hp.le.refl _, hMR, A156, n156, c156, s156, rfl, rfl, hF159, trivial⟩)
          ·
           intro H' σ' w R E hle hMR hE0 hE hp hf
           obtain rfl := hE0 rfl
           obtain ⟨_, hg⟩ := hp 11 (by decide) (by kernel_rfl)
           obtain ⟨A156, n156, c156, s156, e182, _, hF159, _⟩ := hg.get rfl
           have e183 : σ' 91 = .tuple #[.agg #[.int .i64 v154.1.Size, .slice A156 n156 c156], .int .i64 v154.2] := (List.cons.inj e182).1
           have e184 : σ' 80 = .tuple #[.agg #[.int .i64 v154.1.Size, .slice A156 n156 c156], .int .i64 v154.2] := (List.cons.inj (List.cons.inj e182).2).1
           obtain ⟨τ, rfl⟩ := slc (σ := σ') (l := [(80, .tuple #[.agg #[.int .i64 v154.1.Size, .slice A156 n156 c156], .int .i64 v154.2])]) ⟨e184, trivial⟩
           have hM := Mem.subR (R := R) hMR
           exact RW.step (Ex.extract rfl rfl) rfl rfl rfl (RW.nil ⟨rfl, rfl, _, rfl, H', [], Hp.le.refl _, hMR, A156, n156, c156, s156, rfl, rfl, hF159, trivial⟩)
          ·
           intro H' σ' w R E hle hMR hE0 hE hp hf
           obtain rfl := hE0 rfl
           obtain ⟨_, hg⟩ := hp 11 (by decide) (by kernel_rfl)
           obtain ⟨A156, n156, c156, s156, e185, _, hF159, _⟩ := hg.get rfl
           have e186 : σ' 91 = .tuple #[.agg #[.int .i64 v154.1.Size, .slice A156 n156 c156], .int .i64 v154.2] := (List.cons.inj e185).1
           have e187 : σ' 80 = .tuple #[.agg #[.int .i64 v154.1.Size, .slice A156 n156 c156], .int .i64 v154.2] := (List.cons.inj (List.cons.inj e185).2).1
           obtain ⟨τ, rfl⟩ := slc (σ := σ') (l := [(80, .tuple #[.agg #[.int .i64 v154.1.Size, .slice A156 n156 c156], .int .i64 v154.2])]) ⟨e187, trivial⟩
           have hM := Mem.subR (R := R) hMR
           exact RW.step (Ex.extract rfl rfl) rfl rfl rfl (RW.nil ⟨rfl, rfl, _, rfl, H', [], Hp.le.refl _, hMR, rfl, rfl, trivial⟩)
          ·
           intro HR8 σ' w X miss hms hleR hM hX hX0 hf
           simp [subs] at hms
           rcases hms with rfl | rfl
           ·
            obtain ⟨H188, hH8⟩ : ∃ x, x = HR8 := ⟨_, rfl⟩
            subst hH8
            have hle189 := hleR
            obtain ⟨_, g0, y0⟩ := hX 0 (by decide) (by kernel_rfl)
            obtain ⟨_, rfl, _⟩ := g0.get rfl
            replace y0 : X 0 = [] := y0
            obtain ⟨_, g0, y1⟩ := hX 1 (by decide) (by kernel_rfl)
            obtain ⟨_, rfl, _⟩ := g0.get rfl
            replace y1 : X 1 = [] := y1
            obtain ⟨_, g0, y2⟩ := hX 2 (by decide) (by kernel_rfl)
            obtain ⟨_, rfl, _⟩ := g0.get rfl
            replace y2 : X 2 = [] := y2
            obtain ⟨_, g0, y3⟩ := hX 3 (by decide) (by kernel_rfl)
            obtain ⟨_, rfl, _⟩ := g0.get rfl
            replace y3 : X 3 = [] := y3
            obtain ⟨_, g0, y4⟩ := hX 4 (by decide) (by kernel_rfl)
            obtain ⟨_, rfl, _⟩ := g0.get rfl
            replace y4 : X 4 = [] := y4
            obtain ⟨_, g0, y5⟩ := hX 5 (by decide) (by kernel_rfl)
            obtain ⟨_, rfl, _⟩ := g0.get rfl
            replace y5 : X 5 = [] := y5
            obtain ⟨_, g0, y6⟩ := hX 6 (by decide) (by kernel_rfl)
            obtain ⟨_, rfl, _⟩ := g0.get rfl
            replace y6 : X 6 = [] := y6
            obtain ⟨_, g0, y7⟩ := hX 7 (by decide) (by kernel_rfl)
            obtain ⟨_, rfl, _⟩ := g0.get rfl
            replace y7 : X 7 = [] := y7
            obtain ⟨_, g0, y8⟩ := hX 8 (by decide) (by kernel_rfl)
            obtain ⟨_, rfl, _⟩ := g0.get rfl
            replace y8 : X 8 = [] := y8
            obtain ⟨_, g0, y9⟩ := hX 9 (by decide) (by kernel_rfl)
            obtain ⟨_, rfl, _⟩ := g0.get rfl
            replace y9 : X 9 = [] := y9
            obtain ⟨_, g0, y10⟩ := hX 10 (by decide) (by kernel_rfl)
            obtain ⟨A156, n156, c156, s156, e190, rfl, hF159, _⟩ := g0.get rfl
            have e191 : σ' 91 = .tuple #[.agg #[.int .i64 v154.1.Size, .slice A156 n156 c156], .int .i64 v154.2] := (List.cons.inj e190).1
            replace y10 : X 10 = [] := y10
            obtain ⟨_, g0, y11⟩ := hX 11 (by decide) (by kernel_rfl)
            obtain ⟨A156q, n156q, c156q, s156q, e192, rfl, _, _⟩ := g0.get rfl
            have e193 : σ' 91 = .tuple #[.agg #[.int .i64 v154.1.Size, .slice A156q n156q c156q], .int .i64 v154.2] := (List.cons.inj e192).1
            have he_ := e191.symm.trans e193
            have ⟨e194, e195, e196⟩ : A156 = A156q ∧ n156 = n156q ∧ c156 = c156q := by simp at he_; simp [he_]
            subst e194
            subst e195
            subst e196
            have e197 : σ' 80 = .tuple #[.agg #[.int .i64 v154.1.Size, .slice A156 n156 c156], .int .i64 v154.2] := (List.cons.inj (List.cons.inj e192).2).1
            replace y11 : X 11 = [] := y11
            obtain ⟨_, g0, y12⟩ := hX 12 (by decide) (by kernel_rfl)
            obtain ⟨A156q, n156q, c156q, s156q, e198, rfl, _, _⟩ := g0.get rfl
            have e199 : σ' 80 = .tuple #[.agg #[.int .i64 v154.1.Size, .slice A156q n156q c156q], .int .i64 v154.2] := (List.cons.inj e198).1
            have he_ := e197.symm.trans e199
            have ⟨e200, e201, e202⟩ : A156 = A156q ∧ n156 = n156q ∧ c156 = c156q := by simp at he_; simp [he_]
            subst e200
            subst e201
            subst e202
            have e203 : σ' 92 = .agg #[.int .i64 v154.1.Size, .slice A156 n156 c156] := (List.cons.inj (List.cons.inj e198).2).1
            replace y12 : X 12 = [] := y12
            obtain ⟨_, g0, y13⟩ := hX 13 (by decide) (by kernel_rfl)
            obtain ⟨_, rfl, _⟩ := g0.get rfl
            replace y13 : X 13 = [] := y13
            have hfl : flatX X 14 = [] := by
             show X 0 ++ (X 1 ++ (X 2 ++ (X 3 ++ (X 4 ++ (X 5 ++ (X 6 ++ (X 7 ++ (X 8 ++ (X 9 ++ (X 10 ++ (X 11 ++ (X 12 ++ (X 13 ++ []))))))))))))) = _
             rw [y0, y1, y2, y3, y4, y5, y6, y7, y8, y9, y10, y11, y12, y13]; rfl
            rw [hfl] at hM
            obtain ⟨τ, rfl⟩ := slc (σ := σ') (l := [(1, .int .i64 x1), (2, .int .i64 x2), (3, .slice A3 n3 c3), (4, .pointer (some ⟨b4, 0, none⟩)), (8, .pointer (some ⟨b5, 0, none⟩)), (11, .int .i64 v12), (13, .slice A30 n31 c32), (14, .int .i64 v36), (15, .pointer (some ⟨b58, 0, none⟩)), (92, .agg #[.int .i64 v154.1.Size, .slice A156 n156 c156])]) ⟨(hf 1 (by kernel_rfl)).trans rfl, (hf 2 (by kernel_rfl)).trans rfl, (hf 3 (by kernel_rfl)).trans rfl, (hf 4 (by kernel_rfl)).trans rfl, (hf 8 (by kernel_rfl)).trans rfl, (hf 11 (by kernel_rfl)).trans rfl, (hf 13 (by kernel_rfl)).trans rfl, (hf 14 (by kernel_rfl)).trans rfl, (hf 15 (by kernel_rfl)).trans rfl, e203, trivial⟩
            change RA _ _ _ _ _ _ _ (sl [(1, .int .i64 x1), (2, .int .i64 x2), (3, .slice A3 n3 c3), (4, .pointer (some ⟨b4, 0, none⟩)), (8, .pointer (some ⟨b5, 0, none⟩)), (11, .int .i64 v12), (13, .slice A30 n31 c32), (14, .int .i64 v36), (15, .pointer (some ⟨b58, 0, none⟩)), (92, .agg #[.int .i64 v154.1.Size, .slice A156 n156 c156])] τ) _ 15 _
            refine RA.step [14] (by kernel_rfl) rfl ⟨⟨_, rfl, ?_⟩, trivial⟩
            refine RW.store hM 0 (.agg #[.int .i64 v154.1.Size, .slice A156 n156 c156]) [.int .i64 v154.1.Size, .slice A156 n156 c156] [.int .i64 v154.1.Size, .slice A156 n156 c156] sz65 rfl rfl rfl (oneAll ⟨rfl, rfl, trivial⟩) rfl (nb rfl) rfl [.box b58 65 [.int .i64 v154.1.Size, .slice A156 n156 c156], .box b4 85 [.slice A1 n1 c1, .slice A2 n2 c2], .box b5 85 [.slice none 0 0, .slice none 0 0], .row (.slice A30 n31 c32) 65 2 n31 s33] rfl rfl rfl ?_; intro w hM
            refine RW.nil ?_
            refine And.intro rfl ?_
            refine RA.done (by kernel_rfl) ?_
            refine CW.region <| RW.st (Ex.move (.slice A30 n31 c32) rfl) rfl <| RW.st (Ex.loadA hM 0 [.int .i64 v154.1.Size, .slice A156 n156 c156] ta65 rfl rfl rfl rfl) rfl ?_
            refine RW.buildSlice hM st23 tz65 [(0, .agg #[.int .i64 v154.1.Size, .slice A156 n156 c156])] [.int .i64 v154.1.Size, .slice A156 n156 c156] (by decide) rfl rfl rfl (by decide) rfl rfl ?_; intro b204 w hM
            have hd205 : DtL H188 [.int .i64 v154.1.Size, .slice A156 n156 c156] ([v154.1] : List api_Bitmap) := (DtL.cons (c1 := [.int .i64 v154.1.Size, .slice A156 n156 c156]) ⟨_, _, _, _, rfl, hF159⟩ DtL.nil)
            obtain ⟨hg212, hm⟩ := hm
            refine RW.appendD (α := api_Bitmap) (xs := v29) (ys := ([v154.1] : List api_Bitmap)) hM 4 st23 rfl rfl (hd34.mono (hle93.trans hle189)) hn35 rfl (fun j u hj => hM.rowCell (k := 0) rfl rfl hj) hd205 rfl hg212 rfl rfl ?_; intro A206 n207 c208 s209 w hd210 hn211 hM
            refine RW.st (Ex.assign (.slice A206 n207 c208) rfl) rfl <| RW.nil <| CW.region <| RW.st (Ex.move (.int .i64 v36) rfl) rfl ?_
            obtain ⟨hg213, hm⟩ := hm
            refine RW.st (Ex.add rfl rfl hg213.1 hg213.2) rfl <| RW.st (Ex.assign (.int .i64 (v36 + 1)) rfl) rfl <| RW.nil ?_
            exact And.intro rfl ⟨k37, ⟨(v29 ++ ([v154.1] : List api_Bitmap)), A206, n207, c208, s209, v36 + 1, H188, hle28.trans (hle93.trans hle189), slc ⟨rfl, rfl, rfl, rfl, rfl, rfl, rfl, rfl, trivial⟩, (hM.pick [2, 3, 4] rfl rfl), hd210, hn211, (by rw [hrec38]; exact hm)⟩, Nat.lt_succ_self _⟩
           ·
            obtain ⟨H188, hH8⟩ : ∃ x, x = HR8 := ⟨_, rfl⟩
            subst hH8
            have hle189 := hleR
            obtain ⟨_, g0, y0⟩ := hX 0 (by decide) (by kernel_rfl)
            obtain ⟨_, rfl, _⟩ := g0.get rfl
            replace y0 : X 0 = [] := y0
            obtain ⟨_, g0, y1⟩ := hX 1 (by decide) (by kernel_rfl)
            obtain ⟨_, rfl, _⟩ := g0.get rfl
            replace y1 : X 1 = [] := y1
            obtain ⟨_, g0, y2⟩ := hX 2 (by decide) (by kernel_rfl)
            obtain ⟨_, rfl, _⟩ := g0.get rfl
            replace y2 : X 2 = [] := y2
            obtain ⟨_, g0, y3⟩ := hX 3 (by decide) (by kernel_rfl)
            obtain ⟨_, rfl, _⟩ := g0.get rfl
            replace y3 : X 3 = [] := y3
            obtain ⟨_, g0, y4⟩ := hX 4 (by decide) (by kernel_rfl)
            obtain ⟨_, rfl, _⟩ := g0.get rfl
            replace y4 : X 4 = [] := y4
            obtain ⟨_, g0, y5⟩ := hX 5 (by decide) (by kernel_rfl)
            obtain ⟨_, rfl, _⟩ := g0.get rfl
            replace y5 : X 5 = [] := y5
            obtain ⟨_, g0, y6⟩ := hX 6 (by decide) (by kernel_rfl)
            obtain ⟨_, rfl, _⟩ := g0.get rfl
            replace y6 : X 6 = [] := y6
            obtain ⟨_, g0, y7⟩ := hX 7 (by decide) (by kernel_rfl)
            obtain ⟨_, rfl, _⟩ := g0.get rfl
            replace y7 : X 7 = [] := y7
            obtain ⟨_, g0, y8⟩ := hX 8 (by decide) (by kernel_rfl)
            obtain ⟨_, rfl, _⟩ := g0.get rfl
            replace y8 : X 8 = [] := y8
            obtain ⟨_, g0, y9⟩ := hX 9 (by decide) (by kernel_rfl)
            obtain ⟨_, rfl, _⟩ := g0.get rfl
            replace y9 : X 9 = [] := y9
            obtain ⟨_, g0, y10⟩ := hX 10 (by decide) (by kernel_rfl)
            obtain ⟨A156, n156, c156, s156, e190, rfl, hF159, _⟩ := g0.get rfl
            have e191 : σ' 91 = .tuple #[.agg #[.int .i64 v154.1.Size, .slice A156 n156 c156], .int .i64 v154.2] := (List.cons.inj e190).1
            replace y10 : X 10 = [] := y10
            obtain ⟨_, g0, y11⟩ := hX 11 (by decide) (by kernel_rfl)
            obtain ⟨A156q, n156q, c156q, s156q, e192, rfl, _, _⟩ := g0.get rfl
            have e193 : σ' 91 = .tuple #[.agg #[.int .i64 v154.1.Size, .slice A156q n156q c156q], .int .i64 v154.2] := (List.cons.inj e192).1
            have he_ := e191.symm.trans e193
            have ⟨e194, e195, e196⟩ : A156 = A156q ∧ n156 = n156q ∧ c156 = c156q := by simp at he_; simp [he_]
            subst e194
            subst e195
            subst e196
            have e197 : σ' 80 = .tuple #[.agg #[.int .i64 v154.1.Size, .slice A156 n156 c156], .int .i64 v154.2] := (List.cons.inj (List.cons.inj e192).2).1
            replace y11 : X 11 = [] := y11
            obtain ⟨_, g0, y12⟩ := hX 12 (by decide) (by kernel_rfl)
            obtain ⟨A156q, n156q, c156q, s156q, e198, rfl, _, _⟩ := g0.get rfl
            have e199 : σ' 80 = .tuple #[.agg #[.int .i64 v154.1.Size, .slice A156q n156q c156q], .int .i64 v154.2] := (List.cons.inj e198).1
            have he_ := e197.symm.trans e199
            have ⟨e200, e201, e202⟩ : A156 = A156q ∧ n156 = n156q ∧ c156 = c156q := by simp at he_; simp [he_]
            subst e200
            subst e201
            subst e202
            have e203 : σ' 92 = .agg #[.int .i64 v154.1.Size, .slice A156 n156 c156] := (List.cons.inj (List.cons.inj e198).2).1
            replace y12 : X 12 = [] := y12
            have y13 : X 13 = [] := hX0 13 (by decide) (by kernel_rfl)
            have hfl : flatX X 14 = [] := by
             show X 0 ++ (X 1 ++ (X 2 ++ (X 3 ++ (X 4 ++ (X 5 ++ (X 6 ++ (X 7 ++ (X 8 ++ (X 9 ++ (X 10 ++ (X 11 ++ (X 12 ++ (X 13 ++ []))))))))))))) = _
             rw [y0, y1, y2, y3, y4, y5, y6, y7, y8, y9, y10, y11, y12, y13]; rfl
            rw [hfl] at hM
            obtain ⟨τ, rfl⟩ := slc (σ := σ') (l := [(1, .int .i64 x1), (2, .int .i64 x2), (3, .slice A3 n3 c3), (4, .pointer (some ⟨b4, 0, none⟩)), (8, .pointer (some ⟨b5, 0, none⟩)), (11, .int .i64 v12), (13, .slice A30 n31 c32), (14, .int .i64 v36), (15, .pointer (some ⟨b58, 0, none⟩)), (80, .tuple #[.agg #[.int .i64 v154.1.Size, .slice A156 n156 c156], .int .i64 v154.2]), (92, .agg #[.int .i64 v154.1.Size, .slice A156 n156 c156])]) ⟨(hf 1 (by kernel_rfl)).trans rfl, (hf 2 (by kernel_rfl)).trans rfl, (hf 3 (by kernel_rfl)).trans rfl, (hf 4 (by kernel_rfl)).trans rfl, (hf 8 (by kernel_rfl)).trans rfl, (hf 11 (by kernel_rfl)).trans rfl, (hf 13 (by kernel_rfl)).trans rfl, (hf 14 (by kernel_rfl)).trans rfl, (hf 15 (by kernel_rfl)).trans rfl, e197, e203, trivial⟩
            change RA _ _ _ _ _ _ _ (sl [(1, .int .i64 x1), (2, .int .i64 x2), (3, .slice A3 n3 c3), (4, .pointer (some ⟨b4, 0, none⟩)), (8, .pointer (some ⟨b5, 0, none⟩)), (11, .int .i64 v12), (13, .slice A30 n31 c32), (14, .int .i64 v36), (15, .pointer (some ⟨b58, 0, none⟩)), (80, .tuple #[.agg #[.int .i64 v154.1.Size, .slice A156 n156 c156], .int .i64 v154.2]), (92, .agg #[.int .i64 v154.1.Size, .slice A156 n156 c156])] τ) _ 15 _
            refine RA.step [13, 14] (by kernel_rfl) rfl ⟨⟨_, rfl, ?_⟩, ⟨_, rfl, ?_⟩, trivial⟩
            ·
             refine RW.st (Ex.extract rfl rfl) rfl <| RW.nil ?_
             refine And.intro rfl ?_
             refine RA.step [14] (by kernel_rfl) rfl ⟨⟨_, rfl, ?_⟩, trivial⟩
             refine RW.store hM 0 (.agg #[.int .i64 v154.1.Size, .slice A156 n156 c156]) [.int .i64 v154.1.Size, .slice A156 n156 c156] [.int .i64 v154.1.Size, .slice A156 n156 c156] sz65 rfl rfl rfl (oneAll ⟨rfl, rfl, trivial⟩) rfl (nb rfl) rfl [.box b58 65 [.int .i64 v154.1.Size, .slice A156 n156 c156], .box b4 85 [.slice A1 n1 c1, .slice A2 n2 c2], .box b5 85 [.slice none 0 0, .slice none 0 0], .row (.slice A30 n31 c32) 65 2 n31 s33] rfl rfl rfl ?_; intro w hM
             refine RW.nil ?_
             refine And.intro rfl ?_
             refine RA.done (by kernel_rfl) ?_
             refine CW.region <| RW.st (Ex.move (.slice A30 n31 c32) rfl) rfl <| RW.st (Ex.loadA hM 0 [.int .i64 v154.1.Size, .slice A156 n156 c156] ta65 rfl rfl rfl rfl) rfl ?_
             refine RW.buildSlice hM st23 tz65 [(0, .agg #[.int .i64 v154.1.Size, .slice A156 n156 c156])] [.int .i64 v154.1.Size, .slice A156 n156 c156] (by decide) rfl rfl rfl (by decide) rfl rfl ?_; intro b204 w hM
             have hd205 : DtL H188 [.int .i64 v154.1.Size, .slice A156 n156 c156] ([v154.1] : List api_Bitmap) := (DtL.cons (c1 := [.int .i64 v154.1.Size, .slice A156 n156 c156]) ⟨_, _, _, _, rfl, hF159⟩ DtL.nil)
             obtain ⟨hg212, hm⟩ := hm
             refine RW.appendD (α := api_Bitmap) (xs := v29) (ys := ([v154.1] : List api_Bitmap)) hM 4 st23 rfl rfl (hd34.mono (hle93.trans hle189)) hn35 rfl (fun j u hj => hM.rowCell (k := 0) rfl rfl hj) hd205 rfl hg212 rfl rfl ?_; intro A206 n207 c208 s209 w hd210 hn211 hM
             refine RW.st (Ex.assign (.slice A206 n207 c208) rfl) rfl <| RW.nil <| CW.region <| RW.st (Ex.move (.int .i64 v36) rfl) rfl ?_
             obtain ⟨hg213, hm⟩ := hm
             refine RW.st (Ex.add rfl rfl hg213.1 hg213.2) rfl <| RW.st (Ex.assign (.int .i64 (v36 + 1)) rfl) rfl <| RW.nil ?_
             exact And.intro rfl ⟨k37, ⟨(v29 ++ ([v154.1] : List api_Bitmap)), A206, n207, c208, s209, v36 + 1, H188, hle28.trans (hle93.trans hle189), slc ⟨rfl, rfl, rfl, rfl, rfl, rfl, rfl, rfl, trivial⟩, (hM.pick [2, 3, 4] rfl rfl), hd210, hn211, (by rw [hrec38]; exact hm)⟩, Nat.lt_succ_self _⟩
            ·
             refine RW.store hM 0 (.agg #[.int .i64 v154.1.Size, .slice A156 n156 c156]) [.int .i64 v154.1.Size, .slice A156 n156 c156] [.int .i64 v154.1.Size, .slice A156 n156 c156] sz65 rfl rfl rfl (oneAll ⟨rfl, rfl, trivial⟩) rfl (nb rfl) rfl [.box b58 65 [.int .i64 v154.1.Size, .slice A156 n156 c156], .box b4 85 [.slice A1 n1 c1, .slice A2 n2 c2], .box b5 85 [.slice none 0 0, .slice none 0 0], .row (.slice A30 n31 c32) 65 2 n31 s33] rfl rfl rfl ?_; intro w hM
             refine RW.nil ?_
             refine And.intro rfl ?_
             refine RA.step [13] (by kernel_rfl) rfl ⟨⟨_, rfl, ?_⟩, trivial⟩
             refine RW.st (Ex.extract rfl rfl) rfl <| RW.nil ?_
             refine And.intro rfl ?_
             refine RA.done (by kernel_rfl) ?_
             refine CW.region <| RW.st (Ex.move (.slice A30 n31 c32) rfl) rfl <| RW.st (Ex.loadA hM 0 [.int .i64 v154.1.Size, .slice A156 n156 c156] ta65 rfl rfl rfl rfl) rfl ?_
             refine RW.buildSlice hM st23 tz65 [(0, .agg #[.int .i64 v154.1.Size, .slice A156 n156 c156])] [.int .i64 v154.1.Size, .slice A156 n156 c156] (by decide) rfl rfl rfl (by decide) rfl rfl ?_; intro b204 w hM
             have hd205 : DtL H188 [.int .i64 v154.1.Size, .slice A156 n156 c156] ([v154.1] : List api_Bitmap) := (DtL.cons (c1 := [.int .i64 v154.1.Size, .slice A156 n156 c156]) ⟨_, _, _, _, rfl, hF159⟩ DtL.nil)
             obtain ⟨hg212, hm⟩ := hm
             refine RW.appendD (α := api_Bitmap) (xs := v29) (ys := ([v154.1] : List api_Bitmap)) hM 4 st23 rfl rfl (hd34.mono (hle93.trans hle189)) hn35 rfl (fun j u hj => hM.rowCell (k := 0) rfl rfl hj) hd205 rfl hg212 rfl rfl ?_; intro A206 n207 c208 s209 w hd210 hn211 hM
             refine RW.st (Ex.assign (.slice A206 n207 c208) rfl) rfl <| RW.nil <| CW.region <| RW.st (Ex.move (.int .i64 v36) rfl) rfl ?_
             obtain ⟨hg213, hm⟩ := hm
             refine RW.st (Ex.add rfl rfl hg213.1 hg213.2) rfl <| RW.st (Ex.assign (.int .i64 (v36 + 1)) rfl) rfl <| RW.nil ?_
             exact And.intro rfl ⟨k37, ⟨(v29 ++ ([v154.1] : List api_Bitmap)), A206, n207, c208, s209, v36 + 1, H188, hle28.trans (hle93.trans hle189), slc ⟨rfl, rfl, rfl, rfl, rfl, rfl, rfl, rfl, trivial⟩, (hM.pick [2, 3, 4] rfl rfl), hd210, hn211, (by rw [hrec38]; exact hm)⟩, Nat.lt_succ_self _⟩
      ·
       replace hm := And.right hm hc39
       refine CW.exit ?_
       refine CW.seq ?_
       obtain ⟨hg216, hm⟩ := hm
       obtain ⟨hg225, hm⟩ := hm
       refine CW.drawL 11 [] [(fun Hq us E => ∃ (b214 : Nat), us = [.slice (some ⟨b214, 0, none⟩) 0 0] ∧ E = [.row (.slice (some ⟨b214, 0, none⟩) 0 0) 3 1 0 []] ∧ DtL Hq [] ([] : List Int) ∧ True), (fun Hq us E => us = [.pointer (some ⟨b4, 0, none⟩)] ∧ E = [] ∧ True), (fun Hq us E => us = [.slice A1 n1 c1] ∧ E = [] ∧ True), (fun Hq us E => ∃ (A217 : Option Addr), ∃ (n218 : Nat), ∃ (c219 : Nat), ∃ (s220 : List Value), us = [.slice A217 n218 c219] ∧ E = [.row (.slice A217 n218 c219) 3 1 n218 s220] ∧ DtL (α := Int) Hq s220 (([] : List Int) ++ x0.Sizes) ∧ n218 = (([] : List Int) ++ x0.Sizes).length ∧ True), (fun Hq us E => ∃ (b223 : Nat), us = [.slice (some ⟨b223, 0, none⟩) 0 0] ∧ E = [.row (.slice (some ⟨b223, 0, none⟩) 0 0) 142 3 0 []] ∧ DtL Hq [] ([] : List api_Peer) ∧ True), (fun Hq us E => us = [.pointer (some ⟨b4, 1, none⟩)] ∧ E = [] ∧ True), (fun Hq us E => us = [.slice A2 n2 c2] ∧ E = [] ∧ True), (fun Hq us E => ∃ (A226 : Option Addr), ∃ (n227 : Nat), ∃ (c228 : Nat), ∃ (s229 : List Value), us = [.slice A226 n227 c228] ∧ E = [.row (.slice A226 n227 c228) 142 3 n227 s229] ∧ DtL (α := api_Peer) Hq s229 (([] : List api_Peer) ++ x0.Peers) ∧ n227 = (([] : List api_Peer) ++ x0.Peers).length ∧ True), (fun Hq us E => ∃ (A217 : Option Addr), ∃ (n218 : Nat), ∃ (c219 : Nat), ∃ (A226 : Option Addr), ∃ (n227 : Nat), ∃ (c228 : Nat), us = [.slice A217 n218 c219, .slice A226 n227 c228, .agg #[.slice A217 n218 c219, .slice A226 n227 c228]] ∧ E = [] ∧ True), (fun Hq us E => ∃ (b232 : Nat), us = [.pointer (some ⟨b232, 0, none⟩)] ∧ E = [.box b232 85 [.slice none 0 0, .slice none 0 0]] ∧ True), (fun Hq us E => ∃ (A217 : Option Addr), ∃ (n218 : Nat), ∃ (c219 : Nat), ∃ (A226 : Option Addr), ∃ (n227 : Nat), ∃ (c228 : Nat), ∃ (b232 : Nat), us = [.agg #[.slice A217 n218 c219, .slice A226 n227 c228], .pointer (some ⟨b232, 0, none⟩)] ∧ E = [.box b232 85 [.slice A217 n218 c219, .slice A226 n227 c228]] ∧ True)]
        (fun k => [[0], [1], [2], [3], [4], [5], [6], [7], [3, 7, 8], [9], [8, 9]].getD k []) (fun k => [none, none, none, some 0, none, none, none, some 4, none, none, some 9].getD k none) (by kernel_rfl) hM (by kernel_rfl) (by kernel_rfl) (by kernel_rfl) rfl (by simp only [List.forall_mem_cons]; exact ⟨fun _ _ _ _ hle ⟨b214, e1, e2, hd215, _⟩ => ⟨b214, e1, e2, hd215.mono hle, trivial⟩, fun _ _ _ _ hle ⟨e1, e2, _⟩ => ⟨e1, e2, trivial⟩, fun _ _ _ _ hle ⟨e1, e2, _⟩ => ⟨e1, e2, trivial⟩, fun _ _ _ _ hle ⟨A217, n218, c219, s220, e1, e2, hd221, hn222, _⟩ => ⟨A217, n218, c219, s220, e1, e2, hd221.mono hle, hn222, trivial⟩, fun _ _ _ _ hle ⟨b223, e1, e2, hd224, _⟩ => ⟨b223, e1, e2, hd224.mono hle, trivial⟩, fun _ _ _ _ hle ⟨e1, e2, _⟩ => ⟨e1, e2, trivial⟩, fun _ _ _ _ hle ⟨e1, e2, _⟩ => ⟨e1, e2, trivial⟩, fun _ _ _ _ hle ⟨A226, n227, c228, s229, e1, e2, hd230, hn231, _⟩ => ⟨A226, n227, c228, s229, e1, e2, hd230.mono hle, hn231, trivial⟩, fun _ _ _ _ hle ⟨A217, n218, c219, A226, n227, c228, e1, e2, _⟩ => ⟨A217, n218, c219, A226, n227, c228, e1, e2, trivial⟩, fun _ _ _ _ hle ⟨b232, e1, e2, _⟩ => ⟨b232, e1, e2, trivial⟩, fun _ _ _ _ hle ⟨A217, n218, c219, A226, n227, c228, b232, e1, e2, _⟩ => ⟨A217, n218, c219, A226, n227, c228, b232, e1, e2, trivial⟩, by simp⟩) ⟨?_, ?_, ?_, ?_, ?_, ?_, ?_, ?_, ?_, ?_, ?_, trivial⟩ ?_
       ·
        intro H' σ' w R E hle hMR hE0 hE hp hf
        obtain rfl := hE0 rfl
        obtain ⟨τ, rfl⟩ := slc (σ := σ') (l := []) trivial
        have hM := Mem.subR (R := R) hMR
        refine RW.buildSlice hMR st40 tz3 [] [] (by decide) rfl rfl rfl (by decide) rfl rfl ?_; intro b214 w hMR
        have hd215 : DtL H' [] ([] : List Int) := DtL.nil
        exact RW.nil ⟨rfl, rfl, _, rfl, H', [.row (.slice (some ⟨b214, 0, none⟩) 0 0) 3 1 0 []], Hp.le.refl _, hMR, b214, rfl, rfl, hd215, trivial⟩
       ·
        intro H' σ' w R E hle hMR hE0 hE hp hf
        obtain rfl := hE0 rfl
        obtain ⟨τ, rfl⟩ := slc (σ := σ') (l := [(4, .pointer (some ⟨b4, 0, none⟩))]) ⟨(hf 4 (by kernel_rfl)).trans rfl, trivial⟩
        have hM := Mem.subR (R := R) hMR
        exact RW.step (Ex.fieldAddr fa85_0 rfl) rfl rfl rfl (RW.nil ⟨rfl, rfl, _, rfl, H', [], Hp.le.refl _, hMR, rfl, rfl, trivial⟩)
       ·
        intro H' σ' w R E hle hMR hE0 hE hp hf
        obtain rfl := hE0 rfl
        obtain ⟨_, hg⟩ := hp 1 (by decide) (by kernel_rfl)
        obtain ⟨e233, _, _⟩ := hg.get rfl
        have e234 : σ' 99 = .pointer (some ⟨b4, 0, none⟩) := (List.cons.inj e233).1
        obtain ⟨τ, rfl⟩ := slc (σ := σ') (l := [(99, .pointer (some ⟨b4, 0, none⟩))]) ⟨e234, trivial⟩
        have hM := Mem.subR (R := R) hMR
        exact RW.step (Ex.load1 hM 0 to40 rfl rfl rfl) rfl rfl rfl (RW.nil ⟨rfl, rfl, _, rfl, H', [], Hp.le.refl _, hMR, rfl, rfl, trivial⟩)
       ·
        intro H' σ' w R E hle hMR hE0 hE hp hf
        obtain ⟨b214, e235, rfl, hd215, _⟩ := (hE 0 rfl).get rfl
        have e236 : σ' 98 = .slice (some ⟨b214, 0, none⟩) 0 0 := (List.cons.inj e235).1
        obtain ⟨_, hg⟩ := hp 2 (by decide) (by kernel_rfl)
        obtain ⟨e237, _, _⟩ := hg.get rfl
        have e238 : σ' 100 = .slice A1 n1 c1 := (List.cons.inj e237).1
        obtain ⟨τ, rfl⟩ := slc (σ := σ') (l := [(98, .slice (some ⟨b214, 0, none⟩) 0 0), (100, .slice A1 n1 c1)]) ⟨e236, e238, trivial⟩
        refine RW.appendF (α := Int) (xs := ([] : List Int)) (ys := x0.Sizes) hMR 0 st40 rfl rfl hd215 rfl rfl (((hle8.trans hle11).trans hle28).trans hle) hF1 hg216 rfl rfl ?_; intro A217 n218 c219 s220 w hd221 hn222 hMR
        exact RW.nil ⟨rfl, rfl, _, rfl, H', [.row (.slice A217 n218 c219) 3 1 n218 s220], Hp.le.refl _, hMR, A217, n218, c219, s220, rfl, rfl, hd221, hn222, trivial⟩
       ·
        intro H' σ' w R E hle hMR hE0 hE hp hf
        obtain rfl := hE0 rfl
        obtain ⟨τ, rfl⟩ := slc (σ := σ') (l := []) trivial
        have hM := Mem.subR (R := R) hMR
        refine RW.buildSlice hMR st83 tz142 [] [] (by decide) rfl rfl rfl (by decide) rfl rfl ?_; intro b223 w hMR
        have hd224 : DtL H' [] ([] : List api_Peer) := DtL.nil
        exact RW.nil ⟨rfl, rfl, _, rfl, H', [.row (.slice (some ⟨b223, 0, none⟩) 0 0) 142 3 0 []], Hp.le.refl _, hMR, b223, rfl, rfl, hd224, trivial⟩
       ·
        intro H' σ' w R E hle hMR hE0 hE hp hf
        obtain rfl := hE0 rfl
        obtain ⟨τ, rfl⟩ := slc (σ := σ') (l := [(4, .pointer (some ⟨b4, 0, none⟩))]) ⟨(hf 4 (by kernel_rfl)).trans rfl, trivial⟩
        have hM := Mem.subR (R := R) hMR
        exact RW.step (Ex.fieldAddr fa85_1 rfl) rfl rfl rfl (RW.nil ⟨rfl, rfl, _, rfl, H', [], Hp.le.refl _, hMR, rfl, rfl, trivial⟩)
       ·
        intro H' σ' w R E hle hMR hE0 hE hp hf
        obtain rfl := hE0 rfl
        obtain ⟨_, hg⟩ := hp 5 (by decide) (by kernel_rfl)
        obtain ⟨e239, _, _⟩ := hg.get rfl
        have e240 : σ' 103 = .pointer (some ⟨b4, 1, none⟩) := (List.cons.inj e239).1
        obtain ⟨τ, rfl⟩ := slc (σ := σ') (l := [(103, .pointer (some ⟨b4, 1, none⟩))]) ⟨e240, trivial⟩
        have hM := Mem.subR (R := R) hMR
        exact RW.step (Ex.load1 hM 0 to83 rfl rfl rfl) rfl rfl rfl (RW.nil ⟨rfl, rfl, _, rfl, H', [], Hp.le.refl _, hMR, rfl, rfl, trivial⟩)
       ·
        intro H' σ' w R E hle hMR hE0 hE hp hf
        obtain ⟨b223, e241, rfl, hd224, _⟩ := (hE 4 rfl).get rfl
        have e242 : σ' 102 = .slice (some ⟨b223, 0, none⟩) 0 0 := (List.cons.inj e241).1
        obtain ⟨_, hg⟩ := hp 6 (by decide) (by kernel_rfl)
        obtain ⟨e243, _, _⟩ := hg.get rfl
        have e244 : σ' 104 = .slice A2 n2 c2 := (List.cons.inj e243).1
        obtain ⟨τ, rfl⟩ := slc (σ := σ') (l := [(102, .slice (some ⟨b223, 0, none⟩) 0 0), (104, .slice A2 n2 c2)]) ⟨e242, e244, trivial⟩
        refine RW.appendF (α := api_Peer) (xs := ([] : List api_Peer)) (ys := x0.Peers) hMR 0 st83 rfl rfl hd224 rfl rfl (((hle8.trans hle11).trans hle28).trans hle) hF2 hg225 rfl rfl ?_; intro A226 n227 c228 s229 w hd230 hn231 hMR
        exact RW.nil ⟨rfl, rfl, _, rfl, H', [.row (.slice A226 n227 c228) 142 3 n227 s229], Hp.le.refl _, hMR, A226, n227, c228, s229, rfl, rfl, hd230, hn231, trivial⟩
       ·
        intro H' σ' w R E hle hMR hE0 hE hp hf
        obtain rfl := hE0 rfl
        obtain ⟨_, hg⟩ := hp 3 (by decide) (by kernel_rfl)
        obtain ⟨A217, n218, c219, s220, e245, _, hd221, hn222, _⟩ := hg.get rfl
        have e246 : σ' 101 = .slice A217 n218 c219 := (List.cons.inj e245).1
        obtain ⟨_, hg⟩ := hp 7 (by decide) (by kernel_rfl)
        obtain ⟨A226, n227, c228, s229, e247, _, hd230, hn231, _⟩ := hg.get rfl
        have e248 : σ' 105 = .slice A226 n227 c228 := (List.cons.inj e247).1
        obtain ⟨τ, rfl⟩ := slc (σ := σ') (l := [(101, .slice A217 n218 c219), (105, .slice A226 n227 c228)]) ⟨e246, e248, trivial⟩
        have hM := Mem.subR (R := R) hMR
        exact RW.step (Ex.build bs85 [(0, .slice A217 n218 c219), (1, .slice A226 n227 c228)] [.slice A217 n218 c219, .slice A226 n227 c228] rfl rfl) rfl rfl rfl (RW.nil ⟨rfl, rfl, _, rfl, H', [], Hp.le.refl _, hMR, A217, n218, c219, A226, n227, c228, rfl, rfl, trivial⟩)
       ·
        intro H' σ' w R E hle hMR hE0 hE hp hf
        obtain rfl := hE0 rfl
        obtain ⟨τ, rfl⟩ := slc (σ := σ') (l := []) trivial
        have hM := Mem.subR (R := R) hMR
        refine RW.alloc hMR tz85 [.slice none 0 0, .slice none 0 0] rfl rfl rfl ?_; intro b232 w hMR
        exact RW.nil ⟨rfl, rfl, _, rfl, H', [.box b232 85 [.slice none 0 0, .slice none 0 0]], Hp.le.refl _, hMR, b232, rfl, rfl, trivial⟩
       ·
        intro H' σ' w R E hle hMR hE0 hE hp hf
        obtain ⟨b232, e249, rfl, _⟩ := (hE 9 rfl).get rfl
        have e250 : σ' 17 = .pointer (some ⟨b232, 0, none⟩) := (List.cons.inj e249).1
        obtain ⟨_, hg⟩ := hp 8 (by decide) (by kernel_rfl)
        obtain ⟨A217, n218, c219, A226, n227, c228, e251, _, _⟩ := hg.get rfl
        have e252 : σ' 101 = .slice A217 n218 c219 := (List.cons.inj e251).1
        have e253 : σ' 105 = .slice A226 n227 c228 := (List.cons.inj (List.cons.inj e251).2).1
        have e254 : σ' 106 = .agg #[.slice A217 n218 c219, .slice A226 n227 c228] := (List.cons.inj (List.cons.inj (List.cons.inj e251).2).2).1
        obtain ⟨τ, rfl⟩ := slc (σ := σ') (l := [(106, .agg #[.slice A217 n218 c219, .slice A226 n227 c228]), (17, .pointer (some ⟨b232, 0, none⟩))]) ⟨e254, e250, trivial⟩
        refine RW.store hMR 0 (.agg #[.slice A217 n218 c219, .slice A226 n227 c228]) [.slice A217 n218 c219, .slice A226 n227 c228] [.slice A217 n218 c219, .slice A226 n227 c228] sz85 rfl rfl rfl (oneAll ⟨rfl, rfl, trivial⟩) rfl (nb rfl) rfl (.box b232 85 [.slice A217 n218 c219, .slice A226 n227 c228] :: (R ++ [.box b4 85 [.slice A1 n1 c1, .slice A2 n2 c2], .box b5 85 [.slice none 0 0, .slice none 0 0], .row (.slice A30 n31 c32) 65 2 n31 s33])) rfl rfl rfl ?_; intro w hMR
        exact RW.nil ⟨rfl, rfl, _, rfl, H', [.box b232 85 [.slice A217 n218 c219, .slice A226 n227 c228]], Hp.le.refl _, hMR, A217, n218, c219, A226, n227, c228, b232, rfl, rfl, trivial⟩
       ·
        intro HR8 σ' w X miss hms hleR hM hX hX0 hf
        simp [subs] at hms
        rcases hms with rfl
        ·
         obtain ⟨H255, hH8⟩ : ∃ x, x = HR8 := ⟨_, rfl⟩
         subst hH8
         have hle256 := hleR
         obtain ⟨_, g0, y0⟩ := hX 0 (by decide) (by kernel_rfl)
         obtain ⟨_, _, rfl, _, _⟩ := g0.get rfl
         replace y0 : X 0 = [] := y0
         obtain ⟨_, g0, y1⟩ := hX 1 (by decide) (by kernel_rfl)
         obtain ⟨_, rfl, _⟩ := g0.get rfl
         replace y1 : X 1 = [] := y1
         obtain ⟨_, g0, y2⟩ := hX 2 (by decide) (by kernel_rfl)
         obtain ⟨_, rfl, _⟩ := g0.get rfl
         replace y2 : X 2 = [] := y2
         obtain ⟨_, g0, y3⟩ := hX 3 (by decide) (by kernel_rfl)
         obtain ⟨A217, n218, c219, s220, e257, rfl, hd221, hn222, _⟩ := g0.get rfl
         have e258 : σ' 101 = .slice A217 n218 c219 := (List.cons.inj e257).1
         replace y3 : X 3 = [.row (.slice A217 n218 c219) 3 1 n218 s220] := y3
         obtain ⟨_, g0, y4⟩ := hX 4 (by decide) (by kernel_rfl)
         obtain ⟨_, _, rfl, _, _⟩ := g0.get rfl
         replace y4 : X 4 = [] := y4
         obtain ⟨_, g0, y5⟩ := hX 5 (by decide) (by kernel_rfl)
         obtain ⟨_, rfl, _⟩ := g0.get rfl
         replace y5 : X 5 = [] := y5
         obtain ⟨_, g0, y6⟩ := hX 6 (by decide) (by kernel_rfl)
         obtain ⟨_, rfl, _⟩ := g0.get rfl
         replace y6 : X 6 = [] := y6
         obtain ⟨_, g0, y7⟩ := hX 7 (by decide) (by kernel_rfl)
         obtain ⟨A226, n227, c228, s229, e259, rfl, hd230, hn231, _⟩ := g0.get rfl
         have e260 : σ' 105 = .slice A226 n227 c228 := (List.cons.inj e259).1
         replace y7 : X 7 = [.row (.slice A226 n227 c228) 142 3 n227 s229] := y7
         obtain ⟨_, g0, y8⟩ := hX 8 (by decide) (by kernel_rfl)
         obtain ⟨A217q, n218q, c219q, A226q, n227q, c228q, e261, rfl, _⟩ := g0.get rfl
         have e262 : σ' 101 = .slice A217q n218q c219q := (List.cons.inj e261).1
         have he_ := e258.symm.trans e262
         have ⟨e263, e264, e265⟩ : A217 = A217q ∧ n218 = n218q ∧ c219 = c219q := by simp at he_; simp [he_]
         subst e263
         subst e264
         subst e265
         have e266 : σ' 105 = .slice A226q n227q c228q := (List.cons.inj (List.cons.inj e261).2).1
         have he_ := e260.symm.trans e266
         have ⟨e267, e268, e269⟩ : A226 = A226q ∧ n227 = n227q ∧ c228 = c228q := by simp at he_; simp [he_]
         subst e267
         subst e268
         subst e269
         have e270 : σ' 106 = .agg #[.slice A217 n218 c219, .slice A226 n227 c228] := (List.cons.inj (List.cons.inj (List.cons.inj e261).2).2).1
         replace y8 : X 8 = [] := y8
         obtain ⟨_, g0, y9⟩ := hX 9 (by decide) (by kernel_rfl)
         obtain ⟨_, _, rfl, _⟩ := g0.get rfl
         replace y9 : X 9 = [] := y9
         obtain ⟨_, g0, y10⟩ := hX 10 (by decide) (by kernel_rfl)
         obtain ⟨A217q, n218q, c219q, A226q, n227q, c228q, b232, e271, rfl, _⟩ := g0.get rfl
         have e272 : σ' 106 = .agg #[.slice A217q n218q c219q, .slice A226q n227q c228q] := (List.cons.inj e271).1
         have he_ := e270.symm.trans e272
         have ⟨e273, e274, e275, e276, e277, e278⟩ : A217 = A217q ∧ n218 = n218q ∧ c219 = c219q ∧ A226 = A226q ∧ n227 = n227q ∧ c228 = c228q := by simp at he_; simp [he_]
         subst e273
         subst e274
         subst e275
         subst e276
         subst e277
         subst e278
         have e279 : σ' 17 = .pointer (some ⟨b232, 0, none⟩) := (List.cons.inj (List.cons.inj e271).2).1
         replace y10 : X 10 = [.box b232 85 [.slice A217 n218 c219, .slice A226 n227 c228]] := y10
         have hfl : flatX X 11 = [.row (.slice A217 n218 c219) 3 1 n218 s220, .row (.slice A226 n227 c228) 142 3 n227 s229, .box b232 85 [.slice A217 n218 c219, .slice A226 n227 c228]] := by
          show X 0 ++ (X 1 ++ (X 2 ++ (X 3 ++ (X 4 ++ (X 5 ++ (X 6 ++ (X 7 ++ (X 8 ++ (X 9 ++ (X 10 ++ [])))))))))) = _
          rw [y0, y1, y2, y3, y4, y5, y6, y7, y8, y9, y10]; rfl
         rw [hfl] at hM
         obtain ⟨τ, rfl⟩ := slc (σ := σ') (l := [(1, .int .i64 x1), (2, .int .i64 x2), (8, .pointer (some ⟨b5, 0, none⟩)), (11, .int .i64 v12), (13, .slice A30 n31 c32), (17, .pointer (some ⟨b232, 0, none⟩))]) ⟨(hf 1 (by kernel_rfl)).trans rfl, (hf 2 (by kernel_rfl)).trans rfl, (hf 8 (by kernel_rfl)).trans rfl, (hf 11 (by kernel_rfl)).trans rfl, (hf 13 (by kernel_rfl)).trans rfl, e279, trivial⟩
         change RA _ _ _ _ _ _ _ (sl [(1, .int .i64 x1), (2, .int .i64 x2), (8, .pointer (some ⟨b5, 0, none⟩)), (11, .int .i64 v12), (13, .slice A30 n31 c32), (17, .pointer (some ⟨b232, 0, none⟩))] τ) _ 11 _
         refine RA.done (by kernel_rfl) ?_
         refine CW.sr <| RW.st (Ex.fieldAddr fa85_1 rfl) rfl <| RW.st (Ex.load1 hM 2 to83 rfl rfl rfl) rfl <| RW.st (Ex.move (.int .i64 v12) rfl) rfl <| RW.st (Ex.move (.int .i64 x1) rfl) rfl <| RW.st (Ex.move (.int .i64 x2) rfl) rfl <| RW.st (Ex.move (.slice A30 n31 c32) rfl) rfl <| RW.st (Ex.build bs142 [(0, .int .i64 x1), (1, .int .i64 x2), (2, .slice A30 n31 c32)] [.int .i64 x1, .int .i64 x2, .slice A30 n31 c32] rfl rfl) rfl ?_
         obtain ⟨hg280, hm⟩ := hm
         refine RW.st (Ex.index st83 rfl rfl v12.toNat (hM.rowNeD (α := api_Peer) (p := 1) rfl hn231 hg280) hg280.nat (Nat.lt_of_lt_of_eq hg280.lt (hn231).symm)) rfl ?_
         obtain ⟨H281, hM, hle282, hF283⟩ := hM.giveF (α := api_Bitmap) 5 rfl (hd34.mono hle256) hn35
         refine RW.storeD (α := api_Peer) (off := 0) (x' := (api_Peer.mk x1 x2 v29)) hM 1 (hd230.mono hle282) (.agg #[.int .i64 x1, .int .i64 x2, .slice A30 n31 c32]) [.int .i64 x1, .int .i64 x2, .slice A30 n31 c32] sz142 rfl hn231 hg280 (nb rfl) rfl rfl (oneAll ⟨rfl, rfl, rfl, trivial⟩) rfl (fun ch h => rdWhole h ⟨_, _, _, _, rfl, hF283⟩) rfl rfl ?_
         intro s285 w hd286 hM
         refine RW.nil <| CW.sr <| RW.st (Ex.loadA hM 2 [.slice A217 n218 c219, .slice A226 n227 c228] ta85 rfl rfl rfl rfl) rfl ?_
         refine RW.store hM 4 (.agg #[.slice A217 n218 c219, .slice A226 n227 c228]) [.slice A217 n218 c219, .slice A226 n227 c228] [.slice A217 n218 c219, .slice A226 n227 c228] sz85 rfl rfl rfl (oneAll ⟨rfl, rfl, trivial⟩) rfl (nb rfl) rfl [.row (.slice A217 n218 c219) 3 1 n218 s220, .row (.slice A226 n227 c228) 142 3 n227 s285, .box b232 85 [.slice A217 n218 c219, .slice A226 n227 c228], .box b4 85 [.slice A1 n1 c1, .slice A2 n2 c2], .box b5 85 [.slice A217 n218 c219, .slice A226 n227 c228]] rfl rfl rfl ?_; intro w hM
         refine RW.st (Ex.assign (.int .i64 0) rfl) rfl <| RW.nil <| CW.ret ?_
         refine ect (k := 4) (.inl rfl) rfl hM rfl (.int .i64 0) rfl ta85 [.slice A217 n218 c219, .slice A226 n227 c228] rfl rfl ?_
         exact ⟨_, _, (hM.pick [0, 1] rfl rfl), ((api_Tracker.mk (([] : List Int) ++ x0.Sizes) (put (([] : List api_Peer) ++ x0.Peers) v12 (api_Peer.mk x1 x2 v29))), 0), hm, A217, n218, c219, s220, A226, n227, c228, s285, rfl, (hd221.mono hle282), hn222, hd286, (hn231).trans (put_len _ _ _).symm, rfl⟩
theorem ref43_Mark_lift {H : Hp} (x0 : List api_Bitmap) (x1 : List api_Write) {A1 : Option Addr} {n1 c1 : Nat} {s1 : List Value} (hF1 : Fz (α := api_Bitmap) H A1 n1 c1 x0 s1) {A2 : Option Addr} {n2 c2 : Nat} {s2 : List Value} (hF2 : Fz (α := api_Write) H A2 n2 c2 x1 s2) {Φ : List api_Bitmap → Prop} (hm : ref43_Mark_W x0 x1 Φ) : RetP Tryd.prog 90 #[.slice A1 n1 c1, .slice A2 n2 c2] H (fun H' v L => ∃ y, Φ y ∧ ∃ A143, ∃ n143, ∃ c143, ∃ s143, v = .slice A143 n143 c143 ∧ DtL (α := api_Bitmap) H' s143 y ∧ n143 = y.length ∧ L = [.row (.slice A143 n143 c143) 65 2 n143 s143]) := by
 refine RetP.of_code Tryd.func90 rfl (nb rfl) fun w0 hM => ?_
 refine CW.sr <| RW.st (Ex.assign (.slice none 0 0) rfl) rfl <| RW.nil <| CW.sr <| RW.st (Ex.assign (.slice none 0 0) rfl) rfl <| RW.nil <| CW.seq <| CW.sr <| RW.st (Ex.assign (.int .i64 0) rfl) rfl <| RW.nil <| CW.block ?_
 obtain ⟨m142, hm⟩ := hm
 skip
 replace hM := hM.nilRow 65 2
 refine CW.loop (β := Nat) (fun n σ w => ∃ (v5 : List api_Bitmap), ∃ (A6 : Option Addr), ∃ (n7 : Nat), ∃ (c8 : Nat), ∃ (s9 : List Value), ∃ (v12 : Int), ∃ Hk3, H.le Hk3 ∧ (∃ τ, σ = sl [(0, .slice A1 n1 c1), (1, .slice A2 n2 c2), (5, .slice A6 n7 c8), (6, .int .i64 v12)] τ) ∧ Mem w0 H w Hk3 [.row (.slice A6 n7 c8) 65 2 n7 s9] ∧ (DtL (α := api_Bitmap) Hk3 s9 v5) ∧ (n7 = v5.length) ∧ LoopN (ref43_Mark_L1 x0 x1 Φ) n (v5, v12)) (fun n => n) m142 ⟨([] : List api_Bitmap), none, 0, 0, [], 0, H, (Hp.le.refl _), slc ⟨rfl, rfl, rfl, rfl, trivial⟩, hM, (DtL.nil : DtL _ [] ([] : List api_Bitmap)), rfl, hm⟩ ?_
 rintro k13 _ w ⟨v5, A6, n7, c8, s9, v12, Hk3, hle4, ⟨τ, rfl⟩, hM, hd10, hn11, hm⟩
 obtain _ | k13 := k13
 · exact hm.elim
 replace hm : (ref43_Mark_L1 x0 x1 Φ) (v5, v12) (LoopN (ref43_Mark_L1 x0 x1 Φ) k13) := hm
 generalize hrec14 : LoopN (ref43_Mark_L1 x0 x1 Φ) k13 = rec1 at hm
 refine CW.seq <| CW.sr <| RW.st (Ex.move (.int .i64 v12) rfl) rfl <| RW.st (Ex.move (.slice A1 n1 c1) rfl) rfl <| RW.st (Ex.lenN st23.1 rfl hF1.hn) rfl <| RW.st (Ex.lss rfl rfl) rfl <| RW.nil ?_
 refine CW.cond_dec (p := v12 < (x0.length : Int)) rfl (fun hc15 => ?_) (fun hc15 => ?_)
 ·
  replace hm := And.left hm hc15
  refine CW.skip <| CW.seq <| CW.block <| CW.region <| RW.st (Ex.move (.slice A6 n7 c8) rfl) rfl <| RW.st (Ex.move (.slice A1 n1 c1) rfl) rfl <| RW.st (Ex.move (.int .i64 v12) rfl) rfl ?_
  obtain ⟨hg16, hm⟩ := hm
  refine RW.st (Ex.index st23 rfl rfl v12.toNat (hF1.ne hg16) hg16.nat (hF1.lt hg16)) rfl ?_
  obtain ⟨_, ⟨A17, n17, c17, s17, rfl, hF17⟩, hx18⟩ := DtL.getI (α := api_Bitmap) (hF1.mono hle4).dat hg16
  refine RW.st (Ex.loadEA hM hle4 hF1.rdc [.int .i64 ((ix x0 v12).Size), .slice A17 n17 c17] ta65 rfl (hF1.ne hg16) rfl (chunk_sub (off := 0) (n := 2) hx18 rfl)) rfl ?_
  refine RW.callP hM (ref02_Copy_lift (ix x0 v12) hF17 hm) en129 rfl rfl rfl rfl ?_; rintro _ w H20 _ hle21 ⟨v19, hm, A22, n22, c22, s22, rfl, hd23, hn24, rfl⟩ hM
  obtain ⟨H25, hM, hle26, hF27⟩ := hM.giveF (α := BitVec 64) 0 rfl hd23 hn24
  refine RW.buildSlice hM st23 tz65 [(0, .agg #[.int .i64 v19.Size, .slice A22 n22 c22])] [.int .i64 v19.Size, .slice A22 n22 c22] (by decide) rfl rfl rfl (by decide) rfl rfl ?_; intro b28 w hM
  have hd29 : DtL H25 [.int .i64 v19.Size, .slice A22 n22 c22] ([v19] : List api_Bitmap) := (DtL.cons (c1 := [.int .i64 v19.Size, .slice A22 n22 c22]) ⟨_, _, _, _, rfl, hF27⟩ DtL.nil)
  obtain ⟨hg36, hm⟩ := hm
  refine RW.appendD (α := api_Bitmap) (xs := v5) (ys := ([v19] : List api_Bitmap)) hM 1 st23 rfl rfl (hd10.mono (hle21.trans hle26)) hn11 rfl (fun j u hj => hM.rowCell (k := 0) rfl rfl hj) hd29 rfl hg36 rfl rfl ?_; intro A30 n31 c32 s33 w hd34 hn35 hM
  refine RW.st (Ex.assign (.slice A30 n31 c32) rfl) rfl <| RW.nil <| CW.region <| RW.st (Ex.move (.int .i64 v12) rfl) rfl ?_
  obtain ⟨hg37, hm⟩ := hm
  refine RW.st (Ex.add rfl rfl hg37.1 hg37.2) rfl <| RW.st (Ex.assign (.int .i64 (v12 + 1)) rfl) rfl <| RW.nil ?_
  exact And.intro rfl ⟨k13, ⟨(v5 ++ ([v19] : List api_Bitmap)), A30, n31, c32, s33, v12 + 1, H25, hle4.trans (hle21.trans hle26), slc ⟨rfl, rfl, rfl, rfl, trivial⟩, (hM.pick [1] rfl rfl), hd34, hn35, (by rw [hrec14]; exact hm)⟩, Nat.lt_succ_self _⟩
 ·
  replace hm := And.right hm hc15
  refine CW.exit ?_
  refine CW.seq <| CW.sr <| RW.st (Ex.assign (.int .i64 0) rfl) rfl <| RW.nil <| CW.block ?_
  obtain ⟨m141, hm⟩ := hm
  skip
  refine CW.loop (β := Nat) (fun n σ w => ∃ (v40 : List api_Bitmap), ∃ (A41 : Option Addr), ∃ (n42 : Nat), ∃ (c43 : Nat), ∃ (s44 : List Value), ∃ (v47 : Int), ∃ Hk38, Hk3.le Hk38 ∧ (∃ τ, σ = sl [(1, .slice A2 n2 c2), (5, .slice A41 n42 c43), (7, .int .i64 v47)] τ) ∧ Mem w0 H w Hk38 [.row (.slice A41 n42 c43) 65 2 n42 s44] ∧ (DtL (α := api_Bitmap) Hk38 s44 v40) ∧ (n42 = v40.length) ∧ LoopN (ref43_Mark_L2 x1 Φ) n (v40, v47)) (fun n => n) m141 ⟨v5, A6, n7, c8, s9, 0, Hk3, (Hp.le.refl _), slc ⟨rfl, rfl, rfl, trivial⟩, hM, hd10, hn11, hm⟩ ?_
  rintro k48 _ w ⟨v40, A41, n42, c43, s44, v47, Hk38, hle39, ⟨τ, rfl⟩, hM, hd45, hn46, hm⟩
  obtain _ | k48 := k48
  · exact hm.elim
  replace hm : (ref43_Mark_L2 x1 Φ) (v40, v47) (LoopN (ref43_Mark_L2 x1 Φ) k48) := hm
  generalize hrec49 : LoopN (ref43_Mark_L2 x1 Φ) k48 = rec2 at hm
  refine CW.seq <| CW.sr <| RW.st (Ex.move (.int .i64 v47) rfl) rfl <| RW.st (Ex.move (.slice A2 n2 c2) rfl) rfl <| RW.st (Ex.lenN st43.1 rfl hF2.hn) rfl <| RW.st (Ex.lss rfl rfl) rfl <| RW.nil ?_
  refine CW.cond_dec (p := v47 < (x1.length : Int)) rfl (fun hc50 => ?_) (fun hc50 => ?_)
  ·
   replace hm := And.left hm hc50
   refine CW.skip <| CW.seq <| CW.block <| CW.sr <| RW.st (Ex.move (.slice A2 n2 c2) rfl) rfl <| RW.st (Ex.move (.int .i64 v47) rfl) rfl ?_
   obtain ⟨hg61, hm⟩ := hm
   refine RW.st (Ex.index st43 rfl rfl v47.toNat (hF2.ne hg61) hg61.nat (hF2.lt hg61)) rfl ?_
   obtain ⟨_, ⟨A62, n62, c62, s62, rfl, hF62⟩, hx63⟩ := DtL.getI (α := api_Write) (hF2.mono (hle4.trans hle39)).dat hg61
   refine RW.st (Ex.loadEA hM (hle4.trans hle39) hF2.rdc [.int .i64 ((ix x1 v47).Volume), .int .i64 ((ix x1 v47).Start), .slice A62 n62 c62] ta100 rfl (hF2.ne hg61) rfl (chunk_sub (off := 0) (n := 3) hx63 rfl)) rfl ?_
   refine RW.alloc hM tz100 [.int .i64 0, .int .i64 0, .slice none 0 0] rfl rfl rfl ?_; intro b64 w hM
   refine RW.store hM 0 (.agg #[.int .i64 ((ix x1 v47).Volume), .int .i64 ((ix x1 v47).Start), .slice A62 n62 c62]) [.int .i64 ((ix x1 v47).Volume), .int .i64 ((ix x1 v47).Start), .slice A62 n62 c62] [.int .i64 ((ix x1 v47).Volume), .int .i64 ((ix x1 v47).Start), .slice A62 n62 c62] sz100 rfl rfl rfl (oneAll ⟨rfl, rfl, rfl, trivial⟩) rfl (nb rfl) rfl [.box b64 100 [.int .i64 ((ix x1 v47).Volume), .int .i64 ((ix x1 v47).Start), .slice A62 n62 c62], .row (.slice A41 n42 c43) 65 2 n42 s44] rfl rfl rfl ?_; intro w hM
   refine RW.nil ?_
   obtain ⟨hg74, hm⟩ := hm
   obtain ⟨_, ⟨A75, n75, c75, s75, rfl, hF75⟩, hx76⟩ := DtL.getI (α := api_Bitmap) hd45 hg74
   obtain ⟨v77, hW78, hm⟩ := hm
   refine CW.drawL 19 [17] [(fun Hq us E => us = [.slice A41 n42 c43] ∧ E = [] ∧ True), (fun Hq us E => us = [.pointer (some ⟨b64, 0, none⟩)] ∧ E = [] ∧ True), (fun Hq us E => us = [.int .i64 ((ix x1 v47).Volume)] ∧ E = [] ∧ True), (fun Hq us E => us = [.slice A41 n42 c43] ∧ E = [] ∧ True), (fun Hq us E => us = [.pointer (some ⟨b64, 0, none⟩)] ∧ E = [] ∧ True), (fun Hq us E => us = [.int .i64 ((ix x1 v47).Volume)] ∧ E = [] ∧ True), (fun Hq us E => us = [elp A41 ((((ix x1 v47).Volume).toNat) * 2 + 0)] ∧ E = [] ∧ True), (fun Hq us E => us = [.agg #[.int .i64 ((ix v40 ((ix x1 v47).Volume)).Size), .slice A75 n75 c75]] ∧ E = [] ∧ True), (fun Hq us E => us = [.pointer (some ⟨b64, 1, none⟩)] ∧ E = [] ∧ True), (fun Hq us E => us = [.int .i64 ((ix x1 v47).Start)] ∧ E = [] ∧ True), (fun Hq us E => us = [.pointer (some ⟨b64, 2, none⟩)] ∧ E = [] ∧ True), (fun Hq us E => us = [.slice A62 n62 c62] ∧ E = [] ∧ True), (fun Hq us E => us = [.int .i64 ((((ix x1 v47).Data).length : Int))] ∧ E = [] ∧ True), (fun Hq us E => us = [.agg #[.int .i64 ((ix x1 v47).Start), .int .i64 ((((ix x1 v47).Data).length : Int))]] ∧ E = [] ∧ True), (fun Hq us E => ∃ (A79 : Option Addr), ∃ (n79 : Nat), ∃ (c79 : Nat), ∃ (s79 : List Value), us = [.tuple #[.agg #[.int .i64 v77.1.Size, .slice A79 n79 c79], .int .i64 v77.2]] ∧ E = [] ∧ Fz (α := BitVec 64) Hq A79 n79 c79 v77.1.Words s79 ∧ True), (fun Hq us E => ∃ (A79 : Option Addr), ∃ (n79 : Nat), ∃ (c79 : Nat), ∃ (s79 : List Value), us = [.tuple #[.agg #[.int .i64 v77.1.Size, .slice A79 n79 c79], .int .i64 v77.2], .tuple #[.agg #[.int .i64 v77.1.Size, .slice A79 n79 c79], .int .i64 v77.2]] ∧ E = [] ∧ Fz (α := BitVec 64) Hq A79 n79 c79 v77.1.Words s79 ∧ True), (fun Hq us E => ∃ (A79 : Option Addr), ∃ (n79 : Nat), ∃ (c79 : Nat), ∃ (s79 : List Value), us = [.tuple #[.agg #[.int .i64 v77.1.Size, .slice A79 n79 c79], .int .i64 v77.2], .agg #[.int .i64 v77.1.Size, .slice A79 n79 c79]] ∧ E = [] ∧ Fz (α := BitVec 64) Hq A79 n79 c79 v77.1.Words s79 ∧ True), (fun Hq us E => us = [.int .i64 v77.2] ∧ E = [] ∧ True), (fun Hq us E => us = [elp A41 ((((ix x1 v47).Volume).toNat) * 2 + 0)] ∧ E = [] ∧ True)]
    (fun k => [[0], [1], [2], [3], [4], [5], [6], [7], [8], [9], [10], [11], [12], [13], [14], [14, 15], [15, 16], [17], [18]].getD k []) (fun _ => none) (by kernel_rfl) hM (by kernel_rfl) (by kernel_rfl) (by kernel_rfl) rfl (by simp only [List.forall_mem_cons]; exact ⟨fun _ _ _ _ hle ⟨e1, e2, _⟩ => ⟨e1, e2, trivial⟩, fun _ _ _ _ hle ⟨e1, e2, _⟩ => ⟨e1, e2, trivial⟩, fun _ _ _ _ hle ⟨e1, e2, _⟩ => ⟨e1, e2, trivial⟩, fun _ _ _ _ hle ⟨e1, e2, _⟩ => ⟨e1, e2, trivial⟩, fun _ _ _ _ hle ⟨e1, e2, _⟩ => ⟨e1, e2, trivial⟩, fun _ _ _ _ hle ⟨e1, e2, _⟩ => ⟨e1, e2, trivial⟩, fun _ _ _ _ hle ⟨e1, e2, _⟩ => ⟨e1, e2, trivial⟩, fun _ _ _ _ hle ⟨e1, e2, _⟩ => ⟨e1, e2, trivial⟩, fun _ _ _ _ hle ⟨e1, e2, _⟩ => ⟨e1, e2, trivial⟩, fun _ _ _ _ hle ⟨e1, e2, _⟩ => ⟨e1, e2, trivial⟩, fun _ _ _ _ hle ⟨e1, e2, _⟩ => ⟨e1, e2, trivial⟩, fun _ _ _ _ hle ⟨e1, e2, _⟩ => ⟨e1, e2, trivial⟩, fun _ _ _ _ hle ⟨e1, e2, _⟩ => ⟨e1, e2, trivial⟩, fun _ _ _ _ hle ⟨e1, e2, _⟩ => ⟨e1, e2, trivial⟩, fun _ _ _ _ hle ⟨A79, n79, c79, s79, e1, e2, hF82, _⟩ => ⟨A79, n79, c79, s79, e1, e2, hF82.mono hle, trivial⟩, fun _ _ _ _ hle ⟨A79, n79, c79, s79, e1, e2, hF82, _⟩ => ⟨A79, n79, c79, s79, e1, e2, hF82.mono hle, trivial⟩, fun _ _ _ _ hle ⟨A79, n79, c79, s79, e1, e2, hF82, _⟩ => ⟨A79, n79, c79, s79, e1, e2, hF82.mono hle, trivial⟩, fun _ _ _ _ hle ⟨e1, e2, _⟩ => ⟨e1, e2, trivial⟩, fun _ _ _ _ hle ⟨e1, e2, _⟩ => ⟨e1, e2, trivial⟩, by simp⟩) ⟨?_, ?_, ?_, ?_, ?_, ?_, ?_, ?_, ?_, ?_, ?_, ?_, ?_, ?_, ?_, ?_, ?_, ?_, ?_, trivial⟩ ?_
   ·
    intro H' σ' w R E hle hMR hE0 hE hp hf
    obtain rfl := hE0 rfl
    obtain ⟨τ, rfl⟩ := slc (σ := σ') (l := [(5, .slice A41 n42 c43)]) ⟨(hf 5 (by kernel_rfl)).trans rfl, trivial⟩
    have hM := Mem.subR (R := R) hMR
    exact RW.step (Ex.move (.slice A41 n42 c43) rfl) rfl rfl rfl (RW.nil ⟨rfl, rfl, _, rfl, H', [], Hp.le.refl _, hMR, rfl, rfl, trivial⟩)
   ·
    intro H' σ' w R E hle hMR hE0 hE hp hf
    obtain rfl := hE0 rfl
    obtain ⟨τ, rfl⟩ := slc (σ := σ') (l := [(8, .pointer (some ⟨b64, 0, none⟩))]) ⟨(hf 8 (by kernel_rfl)).trans rfl, trivial⟩
    have hM := Mem.subR (R := R) hMR
    exact RW.step (Ex.fieldAddr fa100_0 rfl) rfl rfl rfl (RW.nil ⟨rfl, rfl, _, rfl, H', [], Hp.le.refl _, hMR, rfl, rfl, trivial⟩)
   ·
    intro H' σ' w R E hle hMR hE0 hE hp hf
    obtain rfl := hE0 rfl
    obtain ⟨_, hg⟩ := hp 1 (by decide) (by kernel_rfl)
    obtain ⟨e83, _, _⟩ := hg.get rfl
    have e84 : σ' 35 = .pointer (some ⟨b64, 0, none⟩) := (List.cons.inj e83).1
    obtain ⟨τ, rfl⟩ := slc (σ := σ') (l := [(35, .pointer (some ⟨b64, 0, none⟩))]) ⟨e84, trivial⟩
    have hM := Mem.subR (R := R) hMR
    exact RW.step (Ex.load1 hM 0 to3 rfl rfl rfl) rfl rfl rfl (RW.nil ⟨rfl, rfl, _, rfl, H', [], Hp.le.refl _, hMR, rfl, rfl, trivial⟩)
   ·
    intro H' σ' w R E hle hMR hE0 hE hp hf
    obtain rfl := hE0 rfl
    obtain ⟨τ, rfl⟩ := slc (σ := σ') (l := [(5, .slice A41 n42 c43)]) ⟨(hf 5 (by kernel_rfl)).trans rfl, trivial⟩
    have hM := Mem.subR (R := R) hMR
    exact RW.step (Ex.move (.slice A41 n42 c43) rfl) rfl rfl rfl (RW.nil ⟨rfl, rfl, _, rfl, H', [], Hp.le.refl _, hMR, rfl, rfl, trivial⟩)
   ·
    intro H' σ' w R E hle hMR hE0 hE hp hf
    obtain rfl := hE0 rfl
    obtain ⟨τ, rfl⟩ := slc (σ := σ') (l := [(8, .pointer (some ⟨b64, 0, none⟩))]) ⟨(hf 8 (by kernel_rfl)).trans rfl, trivial⟩
    have hM := Mem.subR (R := R) hMR
    exact RW.step (Ex.fieldAddr fa100_0 rfl) rfl rfl rfl (RW.nil ⟨rfl, rfl, _, rfl, H', [], Hp.le.refl _, hMR, rfl, rfl, trivial⟩)
   ·
    intro H' σ' w R E hle hMR hE0 hE hp hf
    obtain rfl := hE0 rfl
    obtain ⟨_, hg⟩ := hp 4 (by decide) (by kernel_rfl)
    obtain ⟨e85, _, _⟩ := hg.get rfl
    have e86 : σ' 38 = .pointer (some ⟨b64, 0, none⟩) := (List.cons.inj e85).1
    obtain ⟨τ, rfl⟩ := slc (σ := σ') (l := [(38, .pointer (some ⟨b64, 0, none⟩))]) ⟨e86, trivial⟩
    have hM := Mem.subR (R := R) hMR
    exact RW.step (Ex.load1 hM 0 to3 rfl rfl rfl) rfl rfl rfl (RW.nil ⟨rfl, rfl, _, rfl, H', [], Hp.le.refl _, hMR, rfl, rfl, trivial⟩)
   ·
    intro H' σ' w R E hle hMR hE0 hE hp hf
    obtain rfl := hE0 rfl
    obtain ⟨_, hg⟩ := hp 3 (by decide) (by kernel_rfl)
    obtain ⟨e87, _, _⟩ := hg.get rfl
    have e88 : σ' 37 = .slice A41 n42 c43 := (List.cons.inj e87).1
    obtain ⟨_, hg⟩ := hp 5 (by decide) (by kernel_rfl)
    obtain ⟨e89, _, _⟩ := hg.get rfl
    have e90 : σ' 39 = .int .i64 ((ix x1 v47).Volume) := (List.cons.inj e89).1
    obtain ⟨τ, rfl⟩ := slc (σ := σ') (l := [(37, .slice A41 n42 c43), (39, .int .i64 ((ix x1 v47).Volume))]) ⟨e88, e90, trivial⟩
    have hM := Mem.subR (R := R) hMR
    exact RW.step (Ex.index st23 rfl rfl (((ix x1 v47).Volume).toNat) (hM.rowNeD (α := api_Bitmap) (p := 1) rfl hn46 hg74) hg74.nat (Nat.lt_of_lt_of_eq hg74.lt (hn46).symm)) rfl rfl rfl (RW.nil ⟨rfl, rfl, _, rfl, H', [], Hp.le.refl _, hMR, rfl, rfl, trivial⟩)
   ·
    intro H' σ' w R E hle hMR hE0 hE hp hf
    obtain rfl := hE0 rfl
    obtain ⟨_, hg⟩ := hp 6 (by decide) (by kernel_rfl)
    obtain ⟨e91, _, _⟩ := hg.get rfl
    have e92 : σ' 40 = elp A41 ((((ix x1 v47).Volume).toNat) * 2 + 0) := (List.cons.inj e91).1
    obtain ⟨τ, rfl⟩ := slc (σ := σ') (l := [(40, elp A41 ((((ix x1 v47).Volume).toNat) * 2 + 0))]) ⟨e92, trivial⟩
    have hM := Mem.subR (R := R) hMR
    exact RW.step (Ex.loadRA hM 1 rfl [.int .i64 ((ix v40 ((ix x1 v47).Volume)).Size), .slice A75 n75 c75] ta65 (hM.rowNeD (α := api_Bitmap) (p := 1) rfl hn46 hg74) rfl rfl (chunk_sub (off := 0) (n := 2) hx76 rfl)) rfl rfl rfl (RW.nil ⟨rfl, rfl, _, rfl, H', [], Hp.le.refl _, hMR, rfl, rfl, trivial⟩)
   ·
    intro H' σ' w R E hle hMR hE0 hE hp hf
    obtain rfl := hE0 rfl
    obtain ⟨τ, rfl⟩ := slc (σ := σ') (l := [(8, .pointer (some ⟨b64, 0, none⟩))]) ⟨(hf 8 (by kernel_rfl)).trans rfl, trivial⟩
    have hM := Mem.subR (R := R) hMR
    exact RW.step (Ex.fieldAddr fa100_1 rfl) rfl rfl rfl (RW.nil ⟨rfl, rfl, _, rfl, H', [], Hp.le.refl _, hMR, rfl, rfl, trivial⟩)
   ·
    intro H' σ' w R E hle hMR hE0 hE hp hf
    obtain rfl := hE0 rfl
    obtain ⟨_, hg⟩ := hp 8 (by decide) (by kernel_rfl)
    obtain ⟨e93, _, _⟩ := hg.get rfl
    have e94 : σ' 42 = .pointer (some ⟨b64, 1, none⟩) := (List.cons.inj e93).1
    obtain ⟨τ, rfl⟩ := slc (σ := σ') (l := [(42, .pointer (some ⟨b64, 1, none⟩))]) ⟨e94, trivial⟩
    have hM := Mem.subR (R := R) hMR
    exact RW.step (Ex.load1 hM 0 to3 rfl rfl rfl) rfl rfl rfl (RW.nil ⟨rfl, rfl, _, rfl, H', [], Hp.le.refl _, hMR, rfl, rfl, trivial⟩)
   ·
    intro H' σ' w R E hle hMR hE0 hE hp hf
    obtain rfl := hE0 rfl
    obtain ⟨τ, rfl⟩ := slc (σ := σ') (l := [(8, .pointer (some ⟨b64, 0, none⟩))]) ⟨(hf 8 (by kernel_rfl)).trans rfl, trivial⟩
    have hM := Mem.subR (R := R) hMR
    exact RW.step (Ex.fieldAddr fa100_2 rfl) rfl rfl rfl (RW.nil ⟨rfl, rfl, _, rfl, H', [], Hp.le.refl _, hMR, rfl, rfl, trivial⟩)
   ·
    intro H' σ' w R E hle hMR hE0 hE hp hf
    obtain rfl := hE0 rfl
    obtain ⟨_, hg⟩ := hp 10 (by decide) (by kernel_rfl)
    obtain ⟨e95, _, _⟩ := hg.get rfl
    have e96 : σ' 44 = .pointer (some ⟨b64, 2, none⟩) := (List.cons.inj e95).1
    obtain ⟨τ, rfl⟩ := slc (σ := σ') (l := [(44, .pointer (some ⟨b64, 2, none⟩))]) ⟨e96, trivial⟩
    have hM := Mem.subR (R := R) hMR
    exact RW.step (Ex.load1 hM 0 to61 rfl rfl rfl) rfl rfl rfl (RW.nil ⟨rfl, rfl, _, rfl, H', [], Hp.le.refl _, hMR, rfl, rfl, trivial⟩)
   ·
    intro H' σ' w R E hle hMR hE0 hE hp hf
    obtain rfl := hE0 rfl
    obtain ⟨_, hg⟩ := hp 11 (by decide) (by kernel_rfl)
    obtain ⟨e97, _, _⟩ := hg.get rfl
    have e98 : σ' 45 = .slice A62 n62 c62 := (List.cons.inj e97).1
    obtain ⟨τ, rfl⟩ := slc (σ := σ') (l := [(45, .slice A62 n62 c62)]) ⟨e98, trivial⟩
    have hM := Mem.subR (R := R) hMR
    exact RW.step (Ex.lenN st61.1 rfl hF62.hn) rfl rfl rfl (RW.nil ⟨rfl, rfl, _, rfl, H', [], Hp.le.refl _, hMR, rfl, rfl, trivial⟩)
   ·
    intro H' σ' w R E hle hMR hE0 hE hp hf
    obtain rfl := hE0 rfl
    obtain ⟨_, hg⟩ := hp 9 (by decide) (by kernel_rfl)
    obtain ⟨e99, _, _⟩ := hg.get rfl
    have e100 : σ' 43 = .int .i64 ((ix x1 v47).Start) := (List.cons.inj e99).1
    obtain ⟨_, hg⟩ := hp 12 (by decide) (by kernel_rfl)
    obtain ⟨e101, _, _⟩ := hg.get rfl
    have e102 : σ' 46 = .int .i64 ((((ix x1 v47).Data).length : Int)) := (List.cons.inj e101).1
    obtain ⟨τ, rfl⟩ := slc (σ := σ') (l := [(43, .int .i64 ((ix x1 v47).Start)), (46, .int .i64 ((((ix x1 v47).Data).length : Int)))]) ⟨e100, e102, trivial⟩
    have hM := Mem.subR (R := R) hMR
    exact RW.step (Ex.build bs103 [(0, .int .i64 ((ix x1 v47).Start)), (1, .int .i64 ((((ix x1 v47).Data).length : Int)))] [.int .i64 ((ix x1 v47).Start), .int .i64 ((((ix x1 v47).Data).length : Int))] rfl rfl) rfl rfl rfl (RW.nil ⟨rfl, rfl, _, rfl, H', [], Hp.le.refl _, hMR, rfl, rfl, trivial⟩)
   ·
    intro H' σ' w R E hle hMR hE0 hE hp hf
    obtain rfl := hE0 rfl
    obtain ⟨_, hg⟩ := hp 7 (by decide) (by kernel_rfl)
    obtain ⟨e103, _, _⟩ := hg.get rfl
    have e104 : σ' 41 = .agg #[.int .i64 ((ix v40 ((ix x1 v47).Volume)).Size), .slice A75 n75 c75] := (List.cons.inj e103).1
    obtain ⟨_, hg⟩ := hp 13 (by decide) (by kernel_rfl)
    obtain ⟨e105, _, _⟩ := hg.get rfl
    have e106 : σ' 47 = .agg #[.int .i64 ((ix x1 v47).Start), .int .i64 ((((ix x1 v47).Data).length : Int))] := (List.cons.inj e105).1
    obtain ⟨τ, rfl⟩ := slc (σ := σ') (l := [(41, .agg #[.int .i64 ((ix v40 ((ix x1 v47).Volume)).Size), .slice A75 n75 c75]), (47, .agg #[.int .i64 ((ix x1 v47).Start), .int .i64 ((((ix x1 v47).Data).length : Int))])]) ⟨e104, e106, trivial⟩
    have hM := Mem.subR (R := R) hMR
    refine RW.callP hMR (ref02_Set_lift (ix v40 ((ix x1 v47).Volume)) (api_Extent.mk ((ix x1 v47).Start) (((ix x1 v47).Data).length : Int)) (hF75.mono hle) hW78) en66 rfl rfl rfl rfl ?_; rintro _ w HS9 _ hleS ⟨_, rfl, A79, n79, c79, s79, rfl, hd80, hn81, rfl⟩ hMR
    obtain ⟨HS90, hMR, hleS0, hF82⟩ := hMR.giveF (α := BitVec 64) 0 rfl hd80 hn81
    exact RW.nil ⟨rfl, rfl, _, rfl, HS90, [], (hleS.trans hleS0), hMR, A79, n79, c79, s79, rfl, rfl, hF82, trivial⟩
   ·
    intro H' σ' w R E hle hMR hE0 hE hp hf
    obtain rfl := hE0 rfl
    obtain ⟨_, hg⟩ := hp 14 (by decide) (by kernel_rfl)
    obtain ⟨A79, n79, c79, s79, e107, _, hF82, _⟩ := hg.get rfl
    have e108 : σ' 48 = .tuple #[.agg #[.int .i64 v77.1.Size, .slice A79 n79 c79], .int .i64 v77.2] := (List.cons.inj e107).1
    obtain ⟨τ, rfl⟩ := slc (σ := σ') (l := [(48, .tuple #[.agg #[.int .i64 v77.1.Size, .slice A79 n79 c79], .int .i64 v77.2])]) ⟨e108, trivial⟩
    have hM := Mem.subR (R := R) hMR
    exact RW.step (Ex.move (.tuple #[.agg #[.int .i64 v77.1.Size, .slice A79 n79 c79], .int .i64 v77.2]) rfl) rfl rfl rfl (RW.nil ⟨rfl, rfl, _, rfl, H', [], Hp.le.refl _, hMR, A79, n79, c79, s79, rfl, rfl, hF82, trivial⟩)
   ·
    intro H' σ' w R E hle hMR hE0 hE hp hf
    obtain rfl := hE0 rfl
    obtain ⟨_, hg⟩ := hp 15 (by decide) (by kernel_rfl)
    obtain ⟨A79, n79, c79, s79, e109, _, hF82, _⟩ := hg.get rfl
    have e110 : σ' 48 = .tuple #[.agg #[.int .i64 v77.1.Size, .slice A79 n79 c79], .int .i64 v77.2] := (List.cons.inj e109).1
    have e111 : σ' 33 = .tuple #[.agg #[.int .i64 v77.1.Size, .slice A79 n79 c79], .int .i64 v77.2] := (List.cons.inj (List.cons.inj e109).2).1
    obtain ⟨τ, rfl⟩ := slc (σ := σ') (l := [(33, .tuple #[.agg #[.int .i64 v77.1.Size, .slice A79 n79 c79], .int .i64 v77.2])]) ⟨e111, trivial⟩
    have hM := Mem.subR (R := R) hMR
    exact RW.step (Ex.extract rfl rfl) rfl rfl rfl (RW.nil ⟨rfl, rfl, _, rfl, H', [], Hp.le.refl _, hMR, A79, n79, c79, s79, rfl, rfl, hF82, trivial⟩)
   ·
    intro H' σ' w R E hle hMR hE0 hE hp hf
    obtain rfl := hE0 rfl
    obtain ⟨_, hg⟩ := hp 15 (by decide) (by kernel_rfl)
    obtain ⟨A79, n79, c79, s79, e112, _, hF82, _⟩ := hg.get rfl
    have e113 : σ' 48 = .tuple #[.agg #[.int .i64 v77.1.Size, .slice A79 n79 c79], .int .i64 v77.2] := (List.cons.inj e112).1
    have e114 : σ' 33 = .tuple #[.agg #[.int .i64 v77.1.Size, .slice A79 n79 c79], .int .i64 v77.2] := (List.cons.inj (List.cons.inj e112).2).1
    obtain ⟨τ, rfl⟩ := slc (σ := σ') (l := [(33, .tuple #[.agg #[.int .i64 v77.1.Size, .slice A79 n79 c79], .int .i64 v77.2])]) ⟨e114, trivial⟩
    have hM := Mem.subR (R := R) hMR
    exact RW.step (Ex.extract rfl rfl) rfl rfl rfl (RW.nil ⟨rfl, rfl, _, rfl, H', [], Hp.le.refl _, hMR, rfl, rfl, trivial⟩)
   ·
    intro H' σ' w R E hle hMR hE0 hE hp hf
    obtain rfl := hE0 rfl
    obtain ⟨_, hg⟩ := hp 0 (by decide) (by kernel_rfl)
    obtain ⟨e115, _, _⟩ := hg.get rfl
    have e116 : σ' 34 = .slice A41 n42 c43 := (List.cons.inj e115).1
    obtain ⟨_, hg⟩ := hp 2 (by decide) (by kernel_rfl)
    obtain ⟨e117, _, _⟩ := hg.get rfl
    have e118 : σ' 36 = .int .i64 ((ix x1 v47).Volume) := (List.cons.inj e117).1
    obtain ⟨τ, rfl⟩ := slc (σ := σ') (l := [(34, .slice A41 n42 c43), (36, .int .i64 ((ix x1 v47).Volume))]) ⟨e116, e118, trivial⟩
    have hM := Mem.subR (R := R) hMR
    exact RW.step (Ex.index st23 rfl rfl (((ix x1 v47).Volume).toNat) (hM.rowNeD (α := api_Bitmap) (p := 1) rfl hn46 hg74) hg74.nat (Nat.lt_of_lt_of_eq hg74.lt (hn46).symm)) rfl rfl rfl (RW.nil ⟨rfl, rfl, _, rfl, H', [], Hp.le.refl _, hMR, rfl, rfl, trivial⟩)
   ·
    intro HR8 σ' w X miss hms hleR hM hX hX0 hf
    simp [subs] at hms
    rcases hms with rfl | rfl
    ·
     obtain ⟨H119, hH8⟩ : ∃ x, x = HR8 := ⟨_, rfl⟩
     subst hH8
     have hle120 := hleR
     obtain ⟨_, g0, y0⟩ := hX 0 (by decide) (by kernel_rfl)
     obtain ⟨_, rfl, _⟩ := g0.get rfl
     replace y0 : X 0 = [] := y0
     obtain ⟨_, g0, y1⟩ := hX 1 (by decide) (by kernel_rfl)
     obtain ⟨_, rfl, _⟩ := g0.get rfl
     replace y1 : X 1 = [] := y1
     obtain ⟨_, g0, y2⟩ := hX 2 (by decide) (by kernel_rfl)
     obtain ⟨_, rfl, _⟩ := g0.get rfl
     replace y2 : X 2 = [] := y2
     obtain ⟨_, g0, y3⟩ := hX 3 (by decide) (by kernel_rfl)
     obtain ⟨_, rfl, _⟩ := g0.get rfl
     replace y3 : X 3 = [] := y3
     obtain ⟨_, g0, y4⟩ := hX 4 (by decide) (by kernel_rfl)
     obtain ⟨_, rfl, _⟩ := g0.get rfl
     replace y4 : X 4 = [] := y4
     obtain ⟨_, g0, y5⟩ := hX 5 (by decide) (by kernel_rfl)
     obtain ⟨_, rfl, _⟩ := g0.get rfl
     replace y5 : X 5 = [] := y5
     obtain ⟨_, g0, y6⟩ := hX 6 (by decide) (by kernel_rfl)
     obtain ⟨_, rfl, _⟩ := g0.get rfl
     replace y6 : X 6 = [] := y6
     obtain ⟨_, g0, y7⟩ := hX 7 (by decide) (by kernel_rfl)
     obtain ⟨_, rfl, _⟩ := g0.get rfl
     replace y7 : X 7 = [] := y7
     obtain ⟨_, g0, y8⟩ := hX 8 (by decide) (by kernel_rfl)
     obtain ⟨_, rfl, _⟩ := g0.get rfl
     replace y8 : X 8 = [] := y8
     obtain ⟨_, g0, y9⟩ := hX 9 (by decide) (by kernel_rfl)
     obtain ⟨_, rfl, _⟩ := g0.get rfl
     replace y9 : X 9 = [] := y9
     obtain ⟨_, g0, y10⟩ := hX 10 (by decide) (by kernel_rfl)
     obtain ⟨_, rfl, _⟩ := g0.get rfl
     replace y10 : X 10 = [] := y10
     obtain ⟨_, g0, y11⟩ := hX 11 (by decide) (by kernel_rfl)
     obtain ⟨_, rfl, _⟩ := g0.get rfl
     replace y11 : X 11 = [] := y11
     obtain ⟨_, g0, y12⟩ := hX 12 (by decide) (by kernel_rfl)
     obtain ⟨_, rfl, _⟩ := g0.get rfl
     replace y12 : X 12 = [] := y12
     obtain ⟨_, g0, y13⟩ := hX 13 (by decide) (by kernel_rfl)
     obtain ⟨_, rfl, _⟩ := g0.get rfl
     replace y13 : X 13 = [] := y13
     obtain ⟨_, g0, y14⟩ := hX 14 (by decide) (by kernel_rfl)
     obtain ⟨A79, n79, c79, s79, e121, rfl, hF82, _⟩ := g0.get rfl
     have e122 : σ' 48 = .tuple #[.agg #[.int .i64 v77.1.Size, .slice A79 n79 c79], .int .i64 v77.2] := (List.cons.inj e121).1
     replace y14 : X 14 = [] := y14
     obtain ⟨_, g0, y15⟩ := hX 15 (by decide) (by kernel_rfl)
     obtain ⟨A79q, n79q, c79q, s79q, e123, rfl, _, _⟩ := g0.get rfl
     have e124 : σ' 48 = .tuple #[.agg #[.int .i64 v77.1.Size, .slice A79q n79q c79q], .int .i64 v77.2] := (List.cons.inj e123).1
     have he_ := e122.symm.trans e124
     have ⟨e125, e126, e127⟩ : A79 = A79q ∧ n79 = n79q ∧ c79 = c79q := by simp at he_; simp [he_]
     subst e125
     subst e126
     subst e127
     have e128 : σ' 33 = .tuple #[.agg #[.int .i64 v77.1.Size, .slice A79 n79 c79], .int .i64 v77.2] := (List.cons.inj (List.cons.inj e123).2).1
     replace y15 : X 15 = [] := y15
     obtain ⟨_, g0, y16⟩ := hX 16 (by decide) (by kernel_rfl)
     obtain ⟨A79q, n79q, c79q, s79q, e129, rfl, _, _⟩ := g0.get rfl
     have e130 : σ' 33 = .tuple #[.agg #[.int .i64 v77.1.Size, .slice A79q n79q c79q], .int .i64 v77.2] := (List.cons.inj e129).1
     have he_ := e128.symm.trans e130
     have ⟨e131, e132, e133⟩ : A79 = A79q ∧ n79 = n79q ∧ c79 = c79q := by simp at he_; simp [he_]
     subst e131
     subst e132
     subst e133
     have e134 : σ' 49 = .agg #[.int .i64 v77.1.Size, .slice A79 n79 c79] := (List.cons.inj (List.cons.inj e129).2).1
     replace y16 : X 16 = [] := y16
     obtain ⟨_, g0, y17⟩ := hX 17 (by decide) (by kernel_rfl)
     obtain ⟨_, rfl, _⟩ := g0.get rfl
     replace y17 : X 17 = [] := y17
     obtain ⟨_, g0, y18⟩ := hX 18 (by decide) (by kernel_rfl)
     obtain ⟨e135, rfl, _⟩ := g0.get rfl
     have e136 : σ' 51 = elp A41 ((((ix x1 v47).Volume).toNat) * 2 + 0) := (List.cons.inj e135).1
     replace y18 : X 18 = [] := y18
     have hfl : flatX X 19 = [] := by
      show X 0 ++ (X 1 ++ (X 2 ++ (X 3 ++ (X 4 ++ (X 5 ++ (X 6 ++ (X 7 ++ (X 8 ++ (X 9 ++ (X 10 ++ (X 11 ++ (X 12 ++ (X 13 ++ (X 14 ++ (X 15 ++ (X 16 ++ (X 17 ++ (X 18 ++ [])))))))))))))))))) = _
      rw [y0, y1, y2, y3, y4, y5, y6, y7, y8, y9, y10, y11, y12, y13, y14, y15, y16, y17, y18]; rfl
     rw [hfl] at hM
     obtain ⟨τ, rfl⟩ := slc (σ := σ') (l := [(1, .slice A2 n2 c2), (5, .slice A41 n42 c43), (7, .int .i64 v47), (49, .agg #[.int .i64 v77.1.Size, .slice A79 n79 c79]), (51, elp A41 ((((ix x1 v47).Volume).toNat) * 2 + 0))]) ⟨(hf 1 (by kernel_rfl)).trans rfl, (hf 5 (by kernel_rfl)).trans rfl, (hf 7 (by kernel_rfl)).trans rfl, e134, e136, trivial⟩
     change RA _ _ _ _ _ _ _ (sl [(1, .slice A2 n2 c2), (5, .slice A41 n42 c43), (7, .int .i64 v47), (49, .agg #[.int .i64 v77.1.Size, .slice A79 n79 c79]), (51, elp A41 ((((ix x1 v47).Volume).toNat) * 2 + 0))] τ) _ 20 _
     refine RA.step [19] (by kernel_rfl) rfl ⟨⟨_, rfl, ?_⟩, trivial⟩
     refine RW.storeD (α := api_Bitmap) (off := 0) (x' := v77.1) hM 1 (hd45.mono hle120) (.agg #[.int .i64 v77.1.Size, .slice A79 n79 c79]) [.int .i64 v77.1.Size, .slice A79 n79 c79] sz65 rfl hn46 hg74 (nb rfl) rfl rfl (oneAll ⟨rfl, rfl, trivial⟩) rfl (fun ch h => rdWhole h ⟨_, _, _, _, rfl, hF82⟩) rfl rfl ?_
     intro s138 w hd139 hM
     refine RW.nil ?_
     refine And.intro rfl ?_
     refine RA.done (by kernel_rfl) ?_
     refine CW.region <| RW.st (Ex.move (.int .i64 v47) rfl) rfl ?_
     obtain ⟨hg140, hm⟩ := hm
     refine RW.st (Ex.add rfl rfl hg140.1 hg140.2) rfl <| RW.st (Ex.assign (.int .i64 (v47 + 1)) rfl) rfl <| RW.nil ?_
     exact And.intro rfl ⟨k48, ⟨(put v40 ((ix x1 v47).Volume) v77.1), A41, n42, c43, s138, v47 + 1, H119, hle39.trans hle120, slc ⟨rfl, rfl, rfl, trivial⟩, (hM.pick [1] rfl rfl), hd139, (hn46).trans (put_len _ _ _).symm, (by rw [hrec49]; exact hm)⟩, Nat.lt_succ_self _⟩
    ·
     obtain ⟨H119, hH8⟩ : ∃ x, x = HR8 := ⟨_, rfl⟩
     subst hH8
     have hle120 := hleR
     obtain ⟨_, g0, y0⟩ := hX 0 (by decide) (by kernel_rfl)
     obtain ⟨_, rfl, _⟩ := g0.get rfl
     replace y0 : X 0 = [] := y0
     obtain ⟨_, g0, y1⟩ := hX 1 (by decide) (by kernel_rfl)
     obtain ⟨_, rfl, _⟩ := g0.get rfl
     replace y1 : X 1 = [] := y1
     obtain ⟨_, g0, y2⟩ := hX 2 (by decide) (by kernel_rfl)
     obtain ⟨_, rfl, _⟩ := g0.get rfl
     replace y2 : X 2 = [] := y2
     obtain ⟨_, g0, y3⟩ := hX 3 (by decide) (by kernel_rfl)
     obtain ⟨_, rfl, _⟩ := g0.get rfl
     replace y3 : X 3 = [] := y3
     obtain ⟨_, g0, y4⟩ := hX 4 (by decide) (by kernel_rfl)
     obtain ⟨_, rfl, _⟩ := g0.get rfl
     replace y4 : X 4 = [] := y4
     obtain ⟨_, g0, y5⟩ := hX 5 (by decide) (by kernel_rfl)
     obtain ⟨_, rfl, _⟩ := g0.get rfl
     replace y5 : X 5 = [] := y5
     obtain ⟨_, g0, y6⟩ := hX 6 (by decide) (by kernel_rfl)
     obtain ⟨_, rfl, _⟩ := g0.get rfl
     replace y6 : X 6 = [] := y6
     obtain ⟨_, g0, y7⟩ := hX 7 (by decide) (by kernel_rfl)
     obtain ⟨_, rfl, _⟩ := g0.get rfl
     replace y7 : X 7 = [] := y7
     obtain ⟨_, g0, y8⟩ := hX 8 (by decide) (by kernel_rfl)
     obtain ⟨_, rfl, _⟩ := g0.get rfl
     replace y8 : X 8 = [] := y8
     obtain ⟨_, g0, y9⟩ := hX 9 (by decide) (by kernel_rfl)
     obtain ⟨_, rfl, _⟩ := g0.get rfl
     replace y9 : X 9 = [] := y9
     obtain ⟨_, g0, y10⟩ := hX 10 (by decide) (by kernel_rfl)
     obtain ⟨_, rfl, _⟩ := g0.get rfl
     replace y10 : X 10 = [] := y10
     obtain ⟨_, g0, y11⟩ := hX 11 (by decide) (by kernel_rfl)
     obtain ⟨_, rfl, _⟩ := g0.get rfl
     replace y11 : X 11 = [] := y11
     obtain ⟨_, g0, y12⟩ := hX 12 (by decide) (by kernel_rfl)
     obtain ⟨_, rfl, _⟩ := g0.get rfl
     replace y12 : X 12 = [] := y12
     obtain ⟨_, g0, y13⟩ := hX 13 (by decide) (by kernel_rfl)
     obtain ⟨_, rfl, _⟩ := g0.get rfl
     replace y13 : X 13 = [] := y13
     obtain ⟨_, g0, y14⟩ := hX 14 (by decide) (by kernel_rfl)
     obtain ⟨A79, n79, c79, s79, e121, rfl, hF82, _⟩ := g0.get rfl
     have e122 : σ' 48 = .tuple #[.agg #[.int .i64 v77.1.Size, .slice A79 n79 c79], .int .i64 v77.2] := (List.cons.inj e121).1
     replace y14 : X 14 = [] := y14
     obtain ⟨_, g0, y15⟩ := hX 15 (by decide) (by kernel_rfl)
     obtain ⟨A79q, n79q, c79q, s79q, e123, rfl, _, _⟩ := g0.get rfl
     have e124 : σ' 48 = .tuple #[.agg #[.int .i64 v77.1.Size, .slice A79q n79q c79q], .int .i64 v77.2] := (List.cons.inj e123).1
     have he_ := e122.symm.trans e124
     have ⟨e125, e126, e127⟩ : A79 = A79q ∧ n79 = n79q ∧ c79 = c79q := by simp at he_; simp [he_]
     subst e125
     subst e126
     subst e127
     have e128 : σ' 33 = .tuple #[.agg #[.int .i64 v77.1.Size, .slice A79 n79 c79], .int .i64 v77.2] := (List.cons.inj (List.cons.inj e123).2).1
     replace y15 : X 15 = [] := y15
     obtain ⟨_, g0, y16⟩ := hX 16 (by decide) (by kernel_rfl)
     obtain ⟨A79q, n79q, c79q, s79q, e129, rfl, _, _⟩ := g0.get rfl
     have e130 : σ' 33 = .tuple #[.agg #[.int .i64 v77.1.Size, .slice A79q n79q c79q], .int .i64 v77.2] := (List.cons.inj e129).1
     have he_ := e128.symm.trans e130
     have ⟨e131, e132, e133⟩ : A79 = A79q ∧ n79 = n79q ∧ c79 = c79q := by simp at he_; simp [he_]
     subst e131
     subst e132
     subst e133
     have e134 : σ' 49 = .agg #[.int .i64 v77.1.Size, .slice A79 n79 c79] := (List.cons.inj (List.cons.inj e129).2).1
     replace y16 : X 16 = [] := y16
     have y17 : X 17 = [] := hX0 17 (by decide) (by kernel_rfl)
     obtain ⟨_, g0, y18⟩ := hX 18 (by decide) (by kernel_rfl)
     obtain ⟨e135, rfl, _⟩ := g0.get rfl
     have e136 : σ' 51 = elp A41 ((((ix x1 v47).Volume).toNat) * 2 + 0) := (List.cons.inj e135).1
     replace y18 : X 18 = [] := y18
     have hfl : flatX X 19 = [] := by
      show X 0 ++ (X 1 ++ (X 2 ++ (X 3 ++ (X 4 ++ (X 5 ++ (X 6 ++ (X 7 ++ (X 8 ++ (X 9 ++ (X 10 ++ (X 11 ++ (X 12 ++ (X 13 ++ (X 14 ++ (X 15 ++ (X 16 ++ (X 17 ++ (X 18 ++ [])))))))))))))))))) = _
      rw [y0, y1, y2, y3, y4, y5, y6, y7, y8, y9, y10, y11, y12, y13, y14, y15, y16, y17, y18]; rfl
     rw [hfl] at hM
     obtain ⟨τ, rfl⟩ := slc (σ := σ') (l := [(1, .slice A2 n2 c2), (5, .slice A41 n42 c43), (7, .int .i64 v47), (33, .tuple #[.agg #[.int .i64 v77.1.Size, .slice A79 n79 c79], .int .i64 v77.2]), (49, .agg #[.int .i64 v77.1.Size, .slice A79 n79 c79]), (51, elp A41 ((((ix x1 v47).Volume).toNat) * 2 + 0))]) ⟨(hf 1 (by kernel_rfl)).trans rfl, (hf 5 (by kernel_rfl)).trans rfl, (hf 7 (by kernel_rfl)).trans rfl, e128, e134, e136, trivial⟩
     change RA _ _ _ _ _ _ _ (sl [(1, .slice A2 n2 c2), (5, .slice A41 n42 c43), (7, .int .i64 v47), (33, .tuple #[.agg #[.int .i64 v77.1.Size, .slice A79 n79 c79], .int .i64 v77.2]), (49, .agg #[.int .i64 v77.1.Size, .slice A79 n79 c79]), (51, elp A41 ((((ix x1 v47).Volume).toNat) * 2 + 0))] τ) _ 20 _
     refine RA.step [17, 19] (by kernel_rfl) rfl ⟨⟨_, rfl, ?_⟩, ⟨_, rfl, ?_⟩, trivial⟩
     ·
      refine RW.st (Ex.extract rfl rfl) rfl <| RW.nil ?_
      refine And.intro rfl ?_
      refine RA.step [19] (by kernel_rfl) rfl ⟨⟨_, rfl, ?_⟩, trivial⟩
      refine RW.storeD (α := api_Bitmap) (off := 0) (x' := v77.1) hM 1 (hd45.mono hle120) (.agg #[.int .i64 v77.1.Size, .slice A79 n79 c79]) [.int .i64 v77.1.Size, .slice A79 n79 c79] sz65 rfl hn46 hg74 (nb rfl) rfl rfl (oneAll ⟨rfl, rfl, trivial⟩) rfl (fun ch h => rdWhole h ⟨_, _, _, _, rfl, hF82⟩) rfl rfl ?_
      intro s138 w hd139 hM
      refine RW.nil ?_
      refine And.intro rfl ?_
      refine RA.done (by kernel_rfl) ?_
      refine CW.region <| RW.st (Ex.move (.int .i64 v47) rfl) rfl ?_
      obtain ⟨hg140, hm⟩ := hm
      refine RW.st (Ex.add rfl rfl hg140.1 hg140.2) rfl <| RW.st (Ex.assign (.int .i64 (v47 + 1)) rfl) rfl <| RW.nil ?_
      exact And.intro rfl ⟨k48, ⟨(put v40 ((ix x1 v47).Volume) v77.1), A41, n42, c43, s138, v47 + 1, H119, hle39.trans hle120, slc ⟨rfl, rfl, rfl, trivial⟩, (hM.pick [1] rfl rfl), hd139, (hn46).trans (put_len _ _ _).symm, (by rw [hrec49]; exact hm)⟩, Nat.lt_succ_self _⟩
     ·
      refine RW.storeD (α := api_Bitmap) (off := 0) (x' := v77.1) hM 1 (hd45.mono hle120) (.agg #[.int .i64 v77.1.Size, .slice A79 n79 c79]) [.int .i64 v77.1.Size, .slice A79 n79 c79] sz65 rfl hn46 hg74 (nb rfl) rfl rfl (oneAll ⟨rfl, rfl, trivial⟩) rfl (fun ch h => rdWhole h ⟨_, _, _, _, rfl, hF82⟩) rfl rfl ?_
      intro s138 w hd139 hM
      refine RW.nil ?_
      refine And.intro rfl ?_
      refine RA.step [17] (by kernel_rfl) rfl ⟨⟨_, rfl, ?_⟩, trivial⟩
      refine RW.st (Ex.extract rfl rfl) rfl <| RW.nil ?_
      refine And.intro rfl ?_
      refine RA.done (by kernel_rfl) ?_
      refine CW.region <| RW.st (Ex.move (.int .i64 v47) rfl) rfl ?_
      obtain ⟨hg140, hm⟩ := hm
      refine RW.st (Ex.add rfl rfl hg140.1 hg140.2) rfl <| RW.st (Ex.assign (.int .i64 (v47 + 1)) rfl) rfl <| RW.nil ?_
      exact And.intro rfl ⟨k48, ⟨(put v40 ((ix x1 v47).Volume) v77.1), A41, n42, c43, s138, v47 + 1, H119, hle39.trans hle120, slc ⟨rfl, rfl, rfl, trivial⟩, (hM.pick [1] rfl rfl), hd139, (hn46).trans (put_len _ _ _).symm, (by rw [hrec49]; exact hm)⟩, Nat.lt_succ_self _⟩
  ·
   replace hm := And.right hm hc50
   refine CW.exit ?_
   refine CW.sr <| RW.st (Ex.move (.slice A41 n42 c43) rfl) rfl <| RW.st (Ex.assign (.slice A41 n42 c43) rfl) rfl <| RW.nil <| CW.ret ?_
   refine end_tmp (.inl rfl) rfl (.slice A41 n42 c43) rfl ?_
   exact ⟨_, _, hM, v40, hm, A41, n42, c43, s44, rfl, hd45, hn46, rfl⟩
theorem image_Check_lift {H : Hp} (x0 : List (List Sec)) {A1 : Option Addr} {n1 c1 : Nat} {s1 : List Value} (hF1 : Fz (α := List Sec) H A1 n1 c1 x0 s1) {Φ : Int → Prop} (hm : image_Check_W x0 Φ) : RetP Tryd.prog 62 #[.slice A1 n1 c1] H (fun _ v L => ∃ y, Φ y ∧ v = .int .i64 (y) ∧ L = []) := by
 refine RetP.of_code Tryd.func62 rfl (nb rfl) fun w0 hM => ?_
 refine CW.sr <| RW.st (Ex.assign (.int .i64 0) rfl) rfl <| RW.nil <| CW.sr <| RW.st (Ex.move (.slice A1 n1 c1) rfl) rfl ?_
 refine RW.callP hM (image_sizes_lift x0 hF1 hm) en111 rfl rfl rfl rfl ?_; rintro _ w H3 _ hle4 ⟨v2, hm, A5, n5, c5, s5, rfl, hd6, hn7, rfl⟩ hM
 have hM1 := hM
 obtain ⟨H8, hM, hle9, hF10⟩ := hM.giveF (α := Int) 0 rfl hd6 hn7
 refine RW.callB hM1 hM (image_checkSizes_lift v2 hF10 hm) en110 rfl rfl rfl rfl ?_; clear hM hM1; intro v11 w hm hM
 refine RW.st (Ex.assign (.int .i64 v11) rfl) rfl <| RW.nil <| CW.ret ?_
 refine end_tmp (.inl rfl) rfl (.int .i64 v11) rfl ?_
 exact ⟨_, _, (hM.pick [] rfl rfl), v11, hm, rfl, rfl⟩
theorem delta_marked_lift {H : Hp} (hT : TabH H 0) (x0 : api_Point) (x1 : api_Point) {A1 : Option Addr} {n1 c1 : Nat} {s1 : List Value} (_ : Fz (α := api_Span) H A1 n1 c1 x0.Lineage s1) {A2 : Option Addr} {n2 c2 : Nat} {s2 : List Value} (hF2 : Fz (α := api_Bitmap) H A2 n2 c2 x0.Dirty s2) {A3 : Option Addr} {n3 c3 : Nat} {s3 : List Value} (_ : Fz (α := List Sec) H A3 n3 c3 x0.Image s3) {A4 : Option Addr} {n4 c4 : Nat} {s4 : List Value} (_ : Fz (α := api_Span) H A4 n4 c4 x1.Lineage s4) {A5 : Option Addr} {n5 c5 : Nat} {s5 : List Value} (hF5 : Fz (α := api_Bitmap) H A5 n5 c5 x1.Dirty s5) {A6 : Option Addr} {n6 c6 : Nat} {s6 : List Value} (_ : Fz (α := List Sec) H A6 n6 c6 x1.Image s6) {Φ : List (List api_Extent) → Prop} (hm : delta_marked_W x0 x1 Φ) : RetP Tryd.prog 99 #[.agg #[.int .i64 x0.Site, .slice A1 n1 c1, .slice A2 n2 c2, .slice A3 n3 c3], .agg #[.int .i64 x1.Site, .slice A4 n4 c4, .slice A5 n5 c5, .slice A6 n6 c6]] H (fun H' v L => ∃ y, Φ y ∧ ∃ A110, ∃ n110, ∃ c110, ∃ s110, v = .slice A110 n110 c110 ∧ DtL (α := List api_Extent) H' s110 y ∧ n110 = y.length ∧ L = [.row (.slice A110 n110 c110) 68 1 n110 s110]) := by
 refine RetP.of_code Tryd.func99 rfl (nb rfl) fun w0 hM => ?_
 refine CW.sr ?_
 refine RW.box hM (.agg #[.int .i64 x0.Site, .slice A1 n1 c1, .slice A2 n2 c2, .slice A3 n3 c3]) [.int .i64 x0.Site, .slice A1 n1 c1, .slice A2 n2 c2, .slice A3 n3 c3] rfl rfl rfl rfl ?_; intro b7 w hM
 refine RW.box hM (.agg #[.int .i64 x1.Site, .slice A4 n4 c4, .slice A5 n5 c5, .slice A6 n6 c6]) [.int .i64 x1.Site, .slice A4 n4 c4, .slice A5 n5 c5, .slice A6 n6 c6] rfl rfl rfl rfl ?_; intro b8 w hM
 refine RW.st (Ex.assign (.slice none 0 0) rfl) rfl <| RW.nil <| CW.sr <| RW.st (Ex.fieldAddr fa27_2 rfl) rfl <| RW.st (Ex.load1 hM 1 to23 rfl rfl rfl) rfl <| RW.st (Ex.lenN st23.1 rfl hF2.hn) rfl ?_
 obtain ⟨hg15, hm⟩ := hm
 obtain ⟨hg16, hm⟩ := hm
 refine RW.makeD (α := List api_Extent) (x0 := ([] : List api_Extent)) hM st30 tz68 [.slice none 0 0] rfl (fun _ => ⟨_, _, _, _, rfl, Fz.nil⟩) rfl rfl hg15 hg16 rfl rfl ?_; intro b9 n10 s12 w hd13 hn14 hM
 refine RW.st (Ex.assign (.slice (some ⟨b9, 0, none⟩) n10 n10) rfl) rfl <| RW.nil <| CW.seq <| CW.sr <| RW.st (Ex.move (.slice (some ⟨b9, 0, none⟩) n10 n10) rfl) rfl <| RW.st (Ex.lenN st30.1 rfl hn14) rfl <| RW.st (Ex.move (.int .i64 0) rfl) rfl <| RW.nil <| CW.block ?_
 obtain ⟨m109, hm⟩ := hm
 skip
 refine CW.loop (β := Nat) (fun n σ w => ∃ (v19 : List (List api_Extent)), ∃ (A20 : Option Addr), ∃ (n21 : Nat), ∃ (c22 : Nat), ∃ (s23 : List Value), ∃ (v26 : Int), ∃ Hk17, H.le Hk17 ∧ (∃ τ, σ = sl [(2, .pointer (some ⟨b7, 0, none⟩)), (3, .pointer (some ⟨b8, 0, none⟩)), (5, .slice A20 n21 c22), (14, .int .i64 (((List.replicate (x0.Dirty.length : Int).toNat ([] : List api_Extent)).length : Int))), (15, .int .i64 v26)] τ) ∧ Mem w0 H w Hk17 [.box b7 27 [.int .i64 x0.Site, .slice A1 n1 c1, .slice A2 n2 c2, .slice A3 n3 c3], .box b8 27 [.int .i64 x1.Site, .slice A4 n4 c4, .slice A5 n5 c5, .slice A6 n6 c6], .row (.slice A20 n21 c22) 68 1 n21 s23] ∧ (DtL (α := List api_Extent) Hk17 s23 v19) ∧ (n21 = v19.length) ∧ LoopN (delta_marked_L1 x0 x1 Φ) n (v19, v26)) (fun n => n) m109 ⟨(List.replicate (x0.Dirty.length : Int).toNat ([] : List api_Extent)), (some ⟨b9, 0, none⟩), n10, n10, s12, 0, H, (Hp.le.refl _), slc ⟨rfl, rfl, rfl, rfl, rfl, trivial⟩, (hM.pick [2, 1, 0] rfl rfl), hd13, hn14, hm⟩ ?_
 rintro k27 _ w ⟨v19, A20, n21, c22, s23, v26, Hk17, hle18, ⟨τ, rfl⟩, hM, hd24, hn25, hm⟩
 obtain _ | k27 := k27
 · exact hm.elim
 replace hm : (delta_marked_L1 x0 x1 Φ) (v19, v26) (LoopN (delta_marked_L1 x0 x1 Φ) k27) := hm
 generalize hrec28 : LoopN (delta_marked_L1 x0 x1 Φ) k27 = rec1 at hm
 refine CW.sr <| RW.st (Ex.lss rfl rfl) rfl <| RW.nil <| CW.seq ?_
 refine CW.cond_dec (p := v26 < ((List.replicate (x0.Dirty.length : Int).toNat ([] : List api_Extent)).length : Int)) rfl (fun hc29 => ?_) (fun hc29 => ?_)
 ·
  replace hm := And.left hm hc29
  refine CW.skip <| CW.seq <| CW.block <| CW.sr <| RW.st (Ex.move (.int .i64 v26) rfl) rfl <| RW.st (Ex.assign (.int .i64 v26) rfl) rfl <| RW.nil <| CW.seq ?_
  obtain ⟨hg30, hm⟩ := hm
  obtain ⟨_, ⟨A31, n31, c31, s31, rfl, hF31⟩, hx32⟩ := DtL.getI (α := api_Bitmap) (hF2.mono hle18).dat hg30
  obtain ⟨hg33, hm⟩ := hm
  obtain ⟨_, ⟨A34, n34, c34, s34, rfl, hF34⟩, hx35⟩ := DtL.getI (α := api_Bitmap) (hF5.mono hle18).dat hg33
  obtain ⟨v36, hW37, hm⟩ := hm
  refine CW.drawL 17 [] [(fun Hq us E => us = [.pointer (some ⟨b7, 2, none⟩)] ∧ E = [] ∧ True), (fun Hq us E => us = [.slice A2 n2 c2] ∧ E = [] ∧ True), (fun Hq us E => us = [.int .i64 v26] ∧ E = [] ∧ True), (fun Hq us E => us = [elp A2 (v26.toNat * 2 + 0)] ∧ E = [] ∧ True), (fun Hq us E => us = [.agg #[.int .i64 ((ix x0.Dirty v26).Size), .slice A31 n31 c31]] ∧ E = [] ∧ True), (fun Hq us E => us = [.pointer (some ⟨b8, 2, none⟩)] ∧ E = [] ∧ True), (fun Hq us E => us = [.slice A5 n5 c5] ∧ E = [] ∧ True), (fun Hq us E => us = [.int .i64 v26] ∧ E = [] ∧ True), (fun Hq us E => us = [elp A5 (v26.toNat * 2 + 0)] ∧ E = [] ∧ True), (fun Hq us E => us = [.agg #[.int .i64 ((ix x1.Dirty v26).Size), .slice A34 n34 c34]] ∧ E = [] ∧ True), (fun Hq us E => ∃ (A38 : Option Addr), ∃ (n38 : Nat), ∃ (c38 : Nat), ∃ (s38 : List Value), us = [.tuple #[.agg #[.int .i64 v36.1.Size, .slice A38 n38 c38], .int .i64 v36.2]] ∧ E = [] ∧ Fz (α := BitVec 64) Hq A38 n38 c38 v36.1.Words s38 ∧ True), (fun Hq us E => ∃ (A38 : Option Addr), ∃ (n38 : Nat), ∃ (c38 : Nat), ∃ (s38 : List Value), us = [.tuple #[.agg #[.int .i64 v36.1.Size, .slice A38 n38 c38], .int .i64 v36.2], .tuple #[.agg #[.int .i64 v36.1.Size, .slice A38 n38 c38], .int .i64 v36.2]] ∧ E = [] ∧ Fz (α := BitVec 64) Hq A38 n38 c38 v36.1.Words s38 ∧ True), (fun Hq us E => ∃ (A38 : Option Addr), ∃ (n38 : Nat), ∃ (c38 : Nat), ∃ (s38 : List Value), us = [.tuple #[.agg #[.int .i64 v36.1.Size, .slice A38 n38 c38], .int .i64 v36.2], .agg #[.int .i64 v36.1.Size, .slice A38 n38 c38]] ∧ E = [] ∧ Fz (α := BitVec 64) Hq A38 n38 c38 v36.1.Words s38 ∧ True), (fun Hq us E => us = [.int .i64 v36.2] ∧ E = [] ∧ True), (fun Hq us E => ∃ (b42 : Nat), us = [.pointer (some ⟨b42, 0, none⟩)] ∧ E = [.box b42 65 [.int .i64 0, .slice none 0 0]] ∧ True), (fun Hq us E => ∃ (A38 : Option Addr), ∃ (n38 : Nat), ∃ (c38 : Nat), ∃ (s38 : List Value), ∃ (b42 : Nat), us = [.agg #[.int .i64 v36.1.Size, .slice A38 n38 c38], .pointer (some ⟨b42, 0, none⟩)] ∧ E = [.box b42 65 [.int .i64 v36.1.Size, .slice A38 n38 c38]] ∧ Fz (α := BitVec 64) Hq A38 n38 c38 v36.1.Words s38 ∧ True), (fun Hq us E => us = [.int .i64 v36.2] ∧ E = [] ∧ True)]
   (fun k => [[0], [1], [2], [3], [4], [5], [6], [7], [8], [9], [10], [10, 11], [11, 12], [13], [14], [12, 14], [16]].getD k []) (fun k => [none, none, none, none, none, none, none, none, none, none, none, none, none, none, none, some 14, none].getD k none) (by kernel_rfl) hM (by kernel_rfl) (by kernel_rfl) (by kernel_rfl) rfl (by simp only [List.forall_mem_cons]; exact ⟨fun _ _ _ _ hle ⟨e1, e2, _⟩ => ⟨e1, e2, trivial⟩, fun _ _ _ _ hle ⟨e1, e2, _⟩ => ⟨e1, e2, trivial⟩, fun _ _ _ _ hle ⟨e1, e2, _⟩ => ⟨e1, e2, trivial⟩, fun _ _ _ _ hle ⟨e1, e2, _⟩ => ⟨e1, e2, trivial⟩, fun _ _ _ _ hle ⟨e1, e2, _⟩ => ⟨e1, e2, trivial⟩, fun _ _ _ _ hle ⟨e1, e2, _⟩ => ⟨e1, e2, trivial⟩, fun _ _ _ _ hle ⟨e1, e2, _⟩ => ⟨e1, e2, trivial⟩, fun _ _ _ _ hle ⟨e1, e2, _⟩ => ⟨e1, e2, trivial⟩, fun _ _ _ _ hle ⟨e1, e2, _⟩ => ⟨e1, e2, trivial⟩, fun _ _ _ _ hle ⟨e1, e2, _⟩ => ⟨e1, e2, trivial⟩, fun _ _ _ _ hle ⟨A38, n38, c38, s38, e1, e2, hF41, _⟩ => ⟨A38, n38, c38, s38, e1, e2, hF41.mono hle, trivial⟩, fun _ _ _ _ hle ⟨A38, n38, c38, s38, e1, e2, hF41, _⟩ => ⟨A38, n38, c38, s38, e1, e2, hF41.mono hle, trivial⟩, fun _ _ _ _ hle ⟨A38, n38, c38, s38, e1, e2, hF41, _⟩ => ⟨A38, n38, c38, s38, e1, e2, hF41.mono hle, trivial⟩, fun _ _ _ _ hle ⟨e1, e2, _⟩ => ⟨e1, e2, trivial⟩, fun _ _ _ _ hle ⟨b42, e1, e2, _⟩ => ⟨b42, e1, e2, trivial⟩, fun _ _ _ _ hle ⟨A38, n38, c38, s38, b42, e1, e2, hF41, _⟩ => ⟨A38, n38, c38, s38, b42, e1, e2, hF41.mono hle, trivial⟩, fun _ _ _ _ hle ⟨e1, e2, _⟩ => ⟨e1, e2, trivial⟩, by simp⟩) ⟨?_, ?_, ?_, ?_, ?_, ?_, ?_, ?_, ?_, ?_, ?_, ?_, ?_, ?_, ?_, ?_, ?_, trivial⟩ ?_
  ·
   intro H' σ' w R E hle hMR hE0 hE hp hf
   obtain rfl := hE0 rfl
   obtain ⟨τ, rfl⟩ := slc (σ := σ') (l := [(2, .pointer (some ⟨b7, 0, none⟩))]) ⟨(hf 2 (by kernel_rfl)).trans rfl, trivial⟩
   have hM := Mem.subR (R := R) hMR
   exact RW.step (Ex.fieldAddr fa27_2 rfl) rfl rfl rfl (RW.nil ⟨rfl, rfl, _, rfl, H', [], Hp.le.refl _, hMR, rfl, rfl, trivial⟩)
  ·
   intro H' σ' w R E hle hMR hE0 hE hp hf
   obtain rfl := hE0 rfl
   obtain ⟨_, hg⟩ := hp 0 (by decide) (by kernel_rfl)
   obtain ⟨e43, _, _⟩ := hg.get rfl
   have e44 : σ' 19 = .pointer (some ⟨b7, 2, none⟩) := (List.cons.inj e43).1
   obtain ⟨τ, rfl⟩ := slc (σ := σ') (l := [(19, .pointer (some ⟨b7, 2, none⟩))]) ⟨e44, trivial⟩
   have hM := Mem.subR (R := R) hMR
   exact RW.step (Ex.load1 hM 0 to23 rfl rfl rfl) rfl rfl rfl (RW.nil ⟨rfl, rfl, _, rfl, H', [], Hp.le.refl _, hMR, rfl, rfl, trivial⟩)
  ·
   intro H' σ' w R E hle hMR hE0 hE hp hf
   obtain rfl := hE0 rfl
   obtain ⟨τ, rfl⟩ := slc (σ := σ') (l := [(6, .int .i64 v26)]) ⟨(hf 6 (by kernel_rfl)).trans rfl, trivial⟩
   have hM := Mem.subR (R := R) hMR
   exact RW.step (Ex.move (.int .i64 v26) rfl) rfl rfl rfl (RW.nil ⟨rfl, rfl, _, rfl, H', [], Hp.le.refl _, hMR, rfl, rfl, trivial⟩)
  ·
   intro H' σ' w R E hle hMR hE0 hE hp hf
   obtain rfl := hE0 rfl
   obtain ⟨_, hg⟩ := hp 1 (by decide) (by kernel_rfl)
   obtain ⟨e45, _, _⟩ := hg.get rfl
   have e46 : σ' 20 = .slice A2 n2 c2 := (List.cons.inj e45).1
   obtain ⟨_, hg⟩ := hp 2 (by decide) (by kernel_rfl)
   obtain ⟨e47, _, _⟩ := hg.get rfl
   have e48 : σ' 21 = .int .i64 v26 := (List.cons.inj e47).1
   obtain ⟨τ, rfl⟩ := slc (σ := σ') (l := [(20, .slice A2 n2 c2), (21, .int .i64 v26)]) ⟨e46, e48, trivial⟩
   have hM := Mem.subR (R := R) hMR
   exact RW.step (Ex.index st23 rfl rfl v26.toNat (hF2.ne hg30) hg30.nat (hF2.lt hg30)) rfl rfl rfl (RW.nil ⟨rfl, rfl, _, rfl, H', [], Hp.le.refl _, hMR, rfl, rfl, trivial⟩)
  ·
   intro H' σ' w R E hle hMR hE0 hE hp hf
   obtain rfl := hE0 rfl
   obtain ⟨_, hg⟩ := hp 3 (by decide) (by kernel_rfl)
   obtain ⟨e49, _, _⟩ := hg.get rfl
   have e50 : σ' 22 = elp A2 (v26.toNat * 2 + 0) := (List.cons.inj e49).1
   obtain ⟨τ, rfl⟩ := slc (σ := σ') (l := [(22, elp A2 (v26.toNat * 2 + 0))]) ⟨e50, trivial⟩
   have hM := Mem.subR (R := R) hMR
   exact RW.step (Ex.loadEA hM (hle18.trans hle) hF2.rdc [.int .i64 ((ix x0.Dirty v26).Size), .slice A31 n31 c31] ta65 rfl (hF2.ne hg30) rfl (chunk_sub (off := 0) (n := 2) hx32 rfl)) rfl rfl rfl (RW.nil ⟨rfl, rfl, _, rfl, H', [], Hp.le.refl _, hMR, rfl, rfl, trivial⟩)
  ·
   intro H' σ' w R E hle hMR hE0 hE hp hf
   obtain rfl := hE0 rfl
   obtain ⟨τ, rfl⟩ := slc (σ := σ') (l := [(3, .pointer (some ⟨b8, 0, none⟩))]) ⟨(hf 3 (by kernel_rfl)).trans rfl, trivial⟩
   have hM := Mem.subR (R := R) hMR
   exact RW.step (Ex.fieldAddr fa27_2 rfl) rfl rfl rfl (RW.nil ⟨rfl, rfl, _, rfl, H', [], Hp.le.refl _, hMR, rfl, rfl, trivial⟩)
  ·
   intro H' σ' w R E hle hMR hE0 hE hp hf
   obtain rfl := hE0 rfl
   obtain ⟨_, hg⟩ := hp 5 (by decide) (by kernel_rfl)
   obtain ⟨e51, _, _⟩ := hg.get rfl
   have e52 : σ' 24 = .pointer (some ⟨b8, 2, none⟩) := (List.cons.inj e51).1
   obtain ⟨τ, rfl⟩ := slc (σ := σ') (l := [(24, .pointer (some ⟨b8, 2, none⟩))]) ⟨e52, trivial⟩
   have hM := Mem.subR (R := R) hMR
   exact RW.step (Ex.load1 hM 1 to23 rfl rfl rfl) rfl rfl rfl (RW.nil ⟨rfl, rfl, _, rfl, H', [], Hp.le.refl _, hMR, rfl, rfl, trivial⟩)
  ·
   intro H' σ' w R E hle hMR hE0 hE hp hf
   obtain rfl := hE0 rfl
   obtain ⟨τ, rfl⟩ := slc (σ := σ') (l := [(6, .int .i64 v26)]) ⟨(hf 6 (by kernel_rfl)).trans rfl, trivial⟩
   have hM := Mem.subR (R := R) hMR
   exact RW.step (Ex.move (.int .i64 v26) rfl) rfl rfl rfl (RW.nil ⟨rfl, rfl, _, rfl, H', [], Hp.le.refl _, hMR, rfl, rfl, trivial⟩)
  ·
   intro H' σ' w R E hle hMR hE0 hE hp hf
   obtain rfl := hE0 rfl
   obtain ⟨_, hg⟩ := hp 6 (by decide) (by kernel_rfl)
   obtain ⟨e53, _, _⟩ := hg.get rfl
   have e54 : σ' 25 = .slice A5 n5 c5 := (List.cons.inj e53).1
   obtain ⟨_, hg⟩ := hp 7 (by decide) (by kernel_rfl)
   obtain ⟨e55, _, _⟩ := hg.get rfl
   have e56 : σ' 26 = .int .i64 v26 := (List.cons.inj e55).1
   obtain ⟨τ, rfl⟩ := slc (σ := σ') (l := [(25, .slice A5 n5 c5), (26, .int .i64 v26)]) ⟨e54, e56, trivial⟩
   have hM := Mem.subR (R := R) hMR
   exact RW.step (Ex.index st23 rfl rfl v26.toNat (hF5.ne hg33) hg33.nat (hF5.lt hg33)) rfl rfl rfl (RW.nil ⟨rfl, rfl, _, rfl, H', [], Hp.le.refl _, hMR, rfl, rfl, trivial⟩)
  ·
   intro H' σ' w R E hle hMR hE0 hE hp hf
   obtain rfl := hE0 rfl
   obtain ⟨_, hg⟩ := hp 8 (by decide) (by kernel_rfl)
   obtain ⟨e57, _, _⟩ := hg.get rfl
   have e58 : σ' 27 = elp A5 (v26.toNat * 2 + 0) := (List.cons.inj e57).1
   obtain ⟨τ, rfl⟩ := slc (σ := σ') (l := [(27, elp A5 (v26.toNat * 2 + 0))]) ⟨e58, trivial⟩
   have hM := Mem.subR (R := R) hMR
   exact RW.step (Ex.loadEA hM (hle18.trans hle) hF5.rdc [.int .i64 ((ix x1.Dirty v26).Size), .slice A34 n34 c34] ta65 rfl (hF5.ne hg33) rfl (chunk_sub (off := 0) (n := 2) hx35 rfl)) rfl rfl rfl (RW.nil ⟨rfl, rfl, _, rfl, H', [], Hp.le.refl _, hMR, rfl, rfl, trivial⟩)
  ·
   intro H' σ' w R E hle hMR hE0 hE hp hf
   obtain rfl := hE0 rfl
   obtain ⟨_, hg⟩ := hp 4 (by decide) (by kernel_rfl)
   obtain ⟨e59, _, _⟩ := hg.get rfl
   have e60 : σ' 23 = .agg #[.int .i64 ((ix x0.Dirty v26).Size), .slice A31 n31 c31] := (List.cons.inj e59).1
   obtain ⟨_, hg⟩ := hp 9 (by decide) (by kernel_rfl)
   obtain ⟨e61, _, _⟩ := hg.get rfl
   have e62 : σ' 28 = .agg #[.int .i64 ((ix x1.Dirty v26).Size), .slice A34 n34 c34] := (List.cons.inj e61).1
   obtain ⟨τ, rfl⟩ := slc (σ := σ') (l := [(23, .agg #[.int .i64 ((ix x0.Dirty v26).Size), .slice A31 n31 c31]), (28, .agg #[.int .i64 ((ix x1.Dirty v26).Size), .slice A34 n34 c34])]) ⟨e60, e62, trivial⟩
   have hM := Mem.subR (R := R) hMR
   refine RW.callP hMR (bitmap_Or_lift (ix x0.Dirty v26) (ix x1.Dirty v26) (hF31.mono hle) (hF34.mono hle) hW37) en82 rfl rfl rfl rfl ?_; rintro _ w HS9 _ hleS ⟨_, rfl, A38, n38, c38, s38, rfl, hd39, hn40, rfl⟩ hMR
   obtain ⟨HS90, hMR, hleS0, hF41⟩ := hMR.giveF (α := BitVec 64) 0 rfl hd39 hn40
   exact RW.nil ⟨rfl, rfl, _, rfl, HS90, [], (hleS.trans hleS0), hMR, A38, n38, c38, s38, rfl, rfl, hF41, trivial⟩
  ·
   intro H' σ' w R E hle hMR hE0 hE hp hf
   obtain rfl := hE0 rfl
   obtain ⟨_, hg⟩ := hp 10 (by decide) (by kernel_rfl)
   obtain ⟨A38, n38, c38, s38, e63, _, hF41, _⟩ := hg.get rfl
   have e64 : σ' 29 = .tuple #[.agg #[.int .i64 v36.1.Size, .slice A38 n38 c38], .int .i64 v36.2] := (List.cons.inj e63).1
   obtain ⟨τ, rfl⟩ := slc (σ := σ') (l := [(29, .tuple #[.agg #[.int .i64 v36.1.Size, .slice A38 n38 c38], .int .i64 v36.2])]) ⟨e64, trivial⟩
   have hM := Mem.subR (R := R) hMR
   exact RW.step (Ex.move (.tuple #[.agg #[.int .i64 v36.1.Size, .slice A38 n38 c38], .int .i64 v36.2]) rfl) rfl rfl rfl (RW.nil ⟨rfl, rfl, _, rfl, H', [], Hp.le.refl _, hMR, A38, n38, c38, s38, rfl, rfl, hF41, trivial⟩)
  ·
   intro H' σ' w R E hle hMR hE0 hE hp hf
   obtain rfl := hE0 rfl
   obtain ⟨_, hg⟩ := hp 11 (by decide) (by kernel_rfl)
   obtain ⟨A38, n38, c38, s38, e65, _, hF41, _⟩ := hg.get rfl
   have e66 : σ' 29 = .tuple #[.agg #[.int .i64 v36.1.Size, .slice A38 n38 c38], .int .i64 v36.2] := (List.cons.inj e65).1
   have e67 : σ' 18 = .tuple #[.agg #[.int .i64 v36.1.Size, .slice A38 n38 c38], .int .i64 v36.2] := (List.cons.inj (List.cons.inj e65).2).1
   obtain ⟨τ, rfl⟩ := slc (σ := σ') (l := [(18, .tuple #[.agg #[.int .i64 v36.1.Size, .slice A38 n38 c38], .int .i64 v36.2])]) ⟨e67, trivial⟩
   have hM := Mem.subR (R := R) hMR
   exact RW.step (Ex.extract rfl rfl) rfl rfl rfl (RW.nil ⟨rfl, rfl, _, rfl, H', [], Hp.le.refl _, hMR, A38, n38, c38, s38, rfl, rfl, hF41, trivial⟩)
  ·
   intro H' σ' w R E hle hMR hE0 hE hp hf
   obtain rfl := hE0 rfl
   obtain ⟨_, hg⟩ := hp 11 (by decide) (by kernel_rfl)
   obtain ⟨A38, n38, c38, s38, e68, _, hF41, _⟩ := hg.get rfl
   have e69 : σ' 29 = .tuple #[.agg #[.int .i64 v36.1.Size, .slice A38 n38 c38], .int .i64 v36.2] := (List.cons.inj e68).1
   have e70 : σ' 18 = .tuple #[.agg #[.int .i64 v36.1.Size, .slice A38 n38 c38], .int .i64 v36.2] := (List.cons.inj (List.cons.inj e68).2).1
   obtain ⟨τ, rfl⟩ := slc (σ := σ') (l := [(18, .tuple #[.agg #[.int .i64 v36.1.Size, .slice A38 n38 c38], .int .i64 v36.2])]) ⟨e70, trivial⟩
   have hM := Mem.subR (R := R) hMR
   exact RW.step (Ex.extract rfl rfl) rfl rfl rfl (RW.nil ⟨rfl, rfl, _, rfl, H', [], Hp.le.refl _, hMR, rfl, rfl, trivial⟩)
  ·
   intro H' σ' w R E hle hMR hE0 hE hp hf
   obtain rfl := hE0 rfl
   obtain ⟨τ, rfl⟩ := slc (σ := σ') (l := []) trivial
   have hM := Mem.subR (R := R) hMR
   refine RW.alloc hMR tz65 [.int .i64 0, .slice none 0 0] rfl rfl rfl ?_; intro b42 w hMR
   exact RW.nil ⟨rfl, rfl, _, rfl, H', [.box b42 65 [.int .i64 0, .slice none 0 0]], Hp.le.refl _, hMR, b42, rfl, rfl, trivial⟩
  ·
   intro H' σ' w R E hle hMR hE0 hE hp hf
   obtain ⟨b42, e71, rfl, _⟩ := (hE 14 rfl).get rfl
   have e72 : σ' 7 = .pointer (some ⟨b42, 0, none⟩) := (List.cons.inj e71).1
   obtain ⟨_, hg⟩ := hp 12 (by decide) (by kernel_rfl)
   obtain ⟨A38, n38, c38, s38, e73, _, hF41, _⟩ := hg.get rfl
   have e74 : σ' 18 = .tuple #[.agg #[.int .i64 v36.1.Size, .slice A38 n38 c38], .int .i64 v36.2] := (List.cons.inj e73).1
   have e75 : σ' 30 = .agg #[.int .i64 v36.1.Size, .slice A38 n38 c38] := (List.cons.inj (List.cons.inj e73).2).1
   obtain ⟨τ, rfl⟩ := slc (σ := σ') (l := [(30, .agg #[.int .i64 v36.1.Size, .slice A38 n38 c38]), (7, .pointer (some ⟨b42, 0, none⟩))]) ⟨e75, e72, trivial⟩
   refine RW.store hMR 0 (.agg #[.int .i64 v36.1.Size, .slice A38 n38 c38]) [.int .i64 v36.1.Size, .slice A38 n38 c38] [.int .i64 v36.1.Size, .slice A38 n38 c38] sz65 rfl rfl rfl (oneAll ⟨rfl, rfl, trivial⟩) rfl (nb rfl) rfl (.box b42 65 [.int .i64 v36.1.Size, .slice A38 n38 c38] :: (R ++ [.box b7 27 [.int .i64 x0.Site, .slice A1 n1 c1, .slice A2 n2 c2, .slice A3 n3 c3], .box b8 27 [.int .i64 x1.Site, .slice A4 n4 c4, .slice A5 n5 c5, .slice A6 n6 c6], .row (.slice A20 n21 c22) 68 1 n21 s23])) rfl rfl rfl ?_; intro w hMR
   exact RW.nil ⟨rfl, rfl, _, rfl, H', [.box b42 65 [.int .i64 v36.1.Size, .slice A38 n38 c38]], Hp.le.refl _, hMR, A38, n38, c38, s38, b42, rfl, rfl, hF41, trivial⟩
  ·
   intro H' σ' w R E hle hMR hE0 hE hp hf
   obtain rfl := hE0 rfl
   obtain ⟨_, hg⟩ := hp 13 (by decide) (by kernel_rfl)
   obtain ⟨e76, _, _⟩ := hg.get rfl
   have e77 : σ' 31 = .int .i64 v36.2 := (List.cons.inj e76).1
   obtain ⟨τ, rfl⟩ := slc (σ := σ') (l := [(31, .int .i64 v36.2)]) ⟨e77, trivial⟩
   have hM := Mem.subR (R := R) hMR
   exact RW.step (Ex.assign (.int .i64 v36.2) rfl) rfl rfl rfl (RW.nil ⟨rfl, rfl, _, rfl, H', [], Hp.le.refl _, hMR, rfl, rfl, trivial⟩)
  ·
   intro HR8 σ' w X miss hms hleR hM hX hX0 hf
   simp [subs] at hms
   rcases hms with rfl
   ·
    obtain ⟨H78, hH8⟩ : ∃ x, x = HR8 := ⟨_, rfl⟩
    subst hH8
    have hle79 := hleR
    obtain ⟨_, g0, y0⟩ := hX 0 (by decide) (by kernel_rfl)
    obtain ⟨_, rfl, _⟩ := g0.get rfl
    replace y0 : X 0 = [] := y0
    obtain ⟨_, g0, y1⟩ := hX 1 (by decide) (by kernel_rfl)
    obtain ⟨_, rfl, _⟩ := g0.get rfl
    replace y1 : X 1 = [] := y1
    obtain ⟨_, g0, y2⟩ := hX 2 (by decide) (by kernel_rfl)
    obtain ⟨_, rfl, _⟩ := g0.get rfl
    replace y2 : X 2 = [] := y2
    obtain ⟨_, g0, y3⟩ := hX 3 (by decide) (by kernel_rfl)
    obtain ⟨_, rfl, _⟩ := g0.get rfl
    replace y3 : X 3 = [] := y3
    obtain ⟨_, g0, y4⟩ := hX 4 (by decide) (by kernel_rfl)
    obtain ⟨_, rfl, _⟩ := g0.get rfl
    replace y4 : X 4 = [] := y4
    obtain ⟨_, g0, y5⟩ := hX 5 (by decide) (by kernel_rfl)
    obtain ⟨_, rfl, _⟩ := g0.get rfl
    replace y5 : X 5 = [] := y5
    obtain ⟨_, g0, y6⟩ := hX 6 (by decide) (by kernel_rfl)
    obtain ⟨_, rfl, _⟩ := g0.get rfl
    replace y6 : X 6 = [] := y6
    obtain ⟨_, g0, y7⟩ := hX 7 (by decide) (by kernel_rfl)
    obtain ⟨_, rfl, _⟩ := g0.get rfl
    replace y7 : X 7 = [] := y7
    obtain ⟨_, g0, y8⟩ := hX 8 (by decide) (by kernel_rfl)
    obtain ⟨_, rfl, _⟩ := g0.get rfl
    replace y8 : X 8 = [] := y8
    obtain ⟨_, g0, y9⟩ := hX 9 (by decide) (by kernel_rfl)
    obtain ⟨_, rfl, _⟩ := g0.get rfl
    replace y9 : X 9 = [] := y9
    obtain ⟨_, g0, y10⟩ := hX 10 (by decide) (by kernel_rfl)
    obtain ⟨A38, n38, c38, s38, e80, rfl, hF41, _⟩ := g0.get rfl
    have e81 : σ' 29 = .tuple #[.agg #[.int .i64 v36.1.Size, .slice A38 n38 c38], .int .i64 v36.2] := (List.cons.inj e80).1
    replace y10 : X 10 = [] := y10
    obtain ⟨_, g0, y11⟩ := hX 11 (by decide) (by kernel_rfl)
    obtain ⟨A38q, n38q, c38q, s38q, e82, rfl, _, _⟩ := g0.get rfl
    have e83 : σ' 29 = .tuple #[.agg #[.int .i64 v36.1.Size, .slice A38q n38q c38q], .int .i64 v36.2] := (List.cons.inj e82).1
    have he_ := e81.symm.trans e83
    have ⟨e84, e85, e86⟩ : A38 = A38q ∧ n38 = n38q ∧ c38 = c38q := by simp at he_; simp [he_]
    subst e84
    subst e85
    subst e86
    have e87 : σ' 18 = .tuple #[.agg #[.int .i64 v36.1.Size, .slice A38 n38 c38], .int .i64 v36.2] := (List.cons.inj (List.cons.inj e82).2).1
    replace y11 : X 11 = [] := y11
    obtain ⟨_, g0, y12⟩ := hX 12 (by decide) (by kernel_rfl)
    obtain ⟨A38q, n38q, c38q, s38q, e88, rfl, _, _⟩ := g0.get rfl
    have e89 : σ' 18 = .tuple #[.agg #[.int .i64 v36.1.Size, .slice A38q n38q c38q], .int .i64 v36.2] := (List.cons.inj e88).1
    have he_ := e87.symm.trans e89
    have ⟨e90, e91, e92⟩ : A38 = A38q ∧ n38 = n38q ∧ c38 = c38q := by simp at he_; simp [he_]
    subst e90
    subst e91
    subst e92
    have e93 : σ' 30 = .agg #[.int .i64 v36.1.Size, .slice A38 n38 c38] := (List.cons.inj (List.cons.inj e88).2).1
    replace y12 : X 12 = [] := y12
    obtain ⟨_, g0, y13⟩ := hX 13 (by decide) (by kernel_rfl)
    obtain ⟨_, rfl, _⟩ := g0.get rfl
    replace y13 : X 13 = [] := y13
    obtain ⟨_, g0, y14⟩ := hX 14 (by decide) (by kernel_rfl)
    obtain ⟨_, _, rfl, _⟩ := g0.get rfl
    replace y14 : X 14 = [] := y14
    obtain ⟨_, g0, y15⟩ := hX 15 (by decide) (by kernel_rfl)
    obtain ⟨A38q, n38q, c38q, s38q, b42, e94, rfl, _, _⟩ := g0.get rfl
    have e95 : σ' 30 = .agg #[.int .i64 v36.1.Size, .slice A38q n38q c38q] := (List.cons.inj e94).1
    have he_ := e93.symm.trans e95
    have ⟨e96, e97, e98⟩ : A38 = A38q ∧ n38 = n38q ∧ c38 = c38q := by simp at he_; simp [he_]
    subst e96
    subst e97
    subst e98
    have e99 : σ' 7 = .pointer (some ⟨b42, 0, none⟩) := (List.cons.inj (List.cons.inj e94).2).1
    replace y15 : X 15 = [.box b42 65 [.int .i64 v36.1.Size, .slice A38 n38 c38]] := y15
    obtain ⟨_, g0, y16⟩ := hX 16 (by decide) (by kernel_rfl)
    obtain ⟨_, rfl, _⟩ := g0.get rfl
    replace y16 : X 16 = [] := y16
    have hfl : flatX X 17 = [.box b42 65 [.int .i64 v36.1.Size, .slice A38 n38 c38]] := by
     show X 0 ++ (X 1 ++ (X 2 ++ (X 3 ++ (X 4 ++ (X 5 ++ (X 6 ++ (X 7 ++ (X 8 ++ (X 9 ++ (X 10 ++ (X 11 ++ (X 12 ++ (X 13 ++ (X 14 ++ (X 15 ++ (X 16 ++ [])))))))))))))))) = _
     rw [y0, y1, y2, y3, y4, y5, y6, y7, y8, y9, y10, y11, y12, y13, y14, y15, y16]; rfl
    rw [hfl] at hM
    obtain ⟨τ, rfl⟩ := slc (σ := σ') (l := [(2, .pointer (some ⟨b7, 0, none⟩)), (3, .pointer (some ⟨b8, 0, none⟩)), (5, .slice A20 n21 c22), (6, .int .i64 v26), (7, .pointer (some ⟨b42, 0, none⟩)), (14, .int .i64 (((List.replicate (x0.Dirty.length : Int).toNat ([] : List api_Extent)).length : Int))), (15, .int .i64 v26)]) ⟨(hf 2 (by kernel_rfl)).trans rfl, (hf 3 (by kernel_rfl)).trans rfl, (hf 5 (by kernel_rfl)).trans rfl, (hf 6 (by kernel_rfl)).trans rfl, e99, (hf 14 (by kernel_rfl)).trans rfl, (hf 15 (by kernel_rfl)).trans rfl, trivial⟩
    change RA _ _ _ _ _ _ _ (sl [(2, .pointer (some ⟨b7, 0, none⟩)), (3, .pointer (some ⟨b8, 0, none⟩)), (5, .slice A20 n21 c22), (6, .int .i64 v26), (7, .pointer (some ⟨b42, 0, none⟩)), (14, .int .i64 (((List.replicate (x0.Dirty.length : Int).toNat ([] : List api_Extent)).length : Int))), (15, .int .i64 v26)] τ) _ 17 _
    refine RA.done (by kernel_rfl) ?_
    refine CW.region <| RW.st (Ex.move (.slice A20 n21 c22) rfl) rfl <| RW.st (Ex.move (.int .i64 v26) rfl) rfl <| RW.st (Ex.loadA hM 0 [.int .i64 v36.1.Size, .slice A38 n38 c38] ta65 rfl rfl rfl rfl) rfl ?_
    refine RW.callP hM (bitmap_Extents_lift (hT.mono (hle18.trans hle79)) v36.1 hF41 hm) en44 rfl rfl rfl rfl ?_; rintro _ w H101 _ hle102 ⟨v100, hm, A103, n103, c103, s103, rfl, hF103, rfl⟩ hM
    obtain ⟨hg104, hm⟩ := hm
    refine RW.st (Ex.index st30 rfl rfl v26.toNat (hM.rowNeD (α := List api_Extent) (p := 3) rfl hn25 hg104) hg104.nat (Nat.lt_of_lt_of_eq hg104.lt (hn25).symm)) rfl ?_
    refine RW.storeD (α := List api_Extent) (off := 0) (x' := v100) hM 3 (hd24.mono (hle79.trans hle102)) (.slice A103 n103 c103) [.slice A103 n103 c103] sz68 rfl hn25 hg104 (nb rfl) rfl rfl (oneAll ⟨rfl, trivial⟩) rfl (fun ch h => rdWhole h ⟨_, _, _, _, rfl, hF103⟩) rfl rfl ?_
    intro s106 w hd107 hM
    refine RW.nil <| CW.region ?_
    obtain ⟨hg108, hm⟩ := hm
    refine RW.st (Ex.add rfl rfl hg108.1 hg108.2) rfl <| RW.st (Ex.move (.int .i64 (v26 + 1)) rfl) rfl <| RW.nil ?_
    exact And.intro rfl ⟨k27, ⟨(put v19 v26 v100), A20, n21, c22, s106, v26 + 1, H101, hle18.trans (hle79.trans hle102), slc ⟨rfl, rfl, rfl, rfl, rfl, trivial⟩, (hM.pick [1, 2, 3] rfl rfl), hd107, (hn25).trans (put_len _ _ _).symm, (by rw [hrec28]; exact hm)⟩, Nat.lt_succ_self _⟩
 ·
  replace hm := And.right hm hc29
  refine CW.exit ?_
  refine CW.sr <| RW.st (Ex.move (.slice A20 n21 c22) rfl) rfl <| RW.st (Ex.assign (.slice A20 n21 c22) rfl) rfl <| RW.nil <| CW.ret ?_
  refine end_tmp (.inl rfl) rfl (.slice A20 n21 c22) rfl ?_
  exact ⟨_, _, (hM.pick [2] rfl rfl), v19, hm, A20, n21, c22, s23, rfl, hd24, hn25, rfl⟩
theorem image_New_lift {H : Hp} (x0 : List Int) {A1 : Option Addr} {n1 c1 : Nat} {s1 : List Value} (hF1 : Fz (α := Int) H A1 n1 c1 x0 s1) {Φ : List (List Sec) × Int → Prop} (hm : image_New_W x0 Φ) : RetP Tryd.prog 102 #[.slice A1 n1 c1] H (fun H' v L => ∃ y, Φ y ∧ ∃ A19, ∃ n19, ∃ c19, ∃ s19, v = .tuple #[.slice A19 n19 c19, .int .i64 (y.2)] ∧ Fz (α := List Sec) H' A19 n19 c19 y.1 s19 ∧ L = []) := by
 refine RetP.of_code Tryd.func102 rfl (nb rfl) fun w0 hM => ?_
 refine CW.sr <| RW.st (Ex.assign (.slice none 0 0) rfl) rfl <| RW.st (Ex.assign (.int .i64 0) rfl) rfl <| RW.nil <| CW.seq <| CW.sr <| RW.st (Ex.move (.slice A1 n1 c1) rfl) rfl ?_
 refine RW.callP hM (image_checkSizes_lift x0 hF1 hm) en110 rfl rfl rfl rfl ?_; rintro _ w H3 _ hle4 ⟨v2, hm, rfl, rfl⟩ hM
 refine RW.st (Ex.assign (.int .i64 v2) rfl) rfl <| RW.nil <| CW.sr <| RW.st (Ex.move (.int .i64 v2) rfl) rfl <| RW.st (Ex.neq rfl rfl) rfl <| RW.nil ?_
 refine CW.cond_dec (p := v2 ≠ 0) rfl (fun hc5 => ?_) (fun hc5 => ?_)
 ·
  replace hm := And.left hm hc5
  refine CW.sr <| RW.st (Ex.move (.int .i64 v2) rfl) rfl <| RW.st (Ex.assign (.slice none 0 0) rfl) rfl <| RW.st (Ex.assign (.int .i64 v2) rfl) rfl <| RW.nil <| CW.ret ?_
  refine tqr ?_
  refine end_tmp2 (.inl rfl) rfl (.slice none 0 0) (.int .i64 v2) rfl rfl ?_
  exact ⟨_, _, hM, (([] : List (List Sec)), v2), hm, none, 0, 0, [], rfl, Fz.nil, rfl⟩
 ·
  replace hm := And.right hm hc5
  refine CW.skip <| CW.sr <| RW.st (Ex.move (.slice A1 n1 c1) rfl) rfl ?_
  refine RW.callP hM (image_mapped_int_api_Sector__image_New_1_lift x0 (hF1.mono hle4) hm) en138 rfl rfl rfl rfl ?_; rintro _ w H7 _ hle8 ⟨v6, hm, A9, n9, c9, s9, rs10, rfl, hd11, hn12, rfl⟩ hM
  replace hM := Mem.toTail (a := [.row (.slice A9 n9 c9) 61 1 n9 s9]) (b := rs10) (c := []) hM
  refine RW.st (Ex.assign (.slice A9 n9 c9) rfl) rfl <| RW.st (Ex.assign (.int .i64 0) rfl) rfl <| RW.nil <| CW.ret ?_
  obtain ⟨H13, hM, hle14, hd15⟩ := DeepL.flat (es := [.row (.slice A9 n9 c9) 61 1 n9 s9]) hM hd11
  obtain ⟨H16, hM, hle17, hF18⟩ := hM.giveF (α := List Sec) 0 rfl hd15 hn12
  refine end_tmp2 (.inl rfl) rfl (.slice A9 n9 c9) (.int .i64 0) rfl rfl ?_
  exact ⟨_, _, hM, (v6, 0), hm, A9, n9, c9, s9, rfl, hF18, rfl⟩
theorem cycle_positions_lift {H : Hp} (x0 : List Int) (x1 : Int) {A1 : Option Addr} {n1 c1 : Nat} {s1 : List Value} (hF1 : Fz (α := Int) H A1 n1 c1 x0 s1) {Φ : Int → Prop} (hm : cycle_positions_W x0 x1 Φ) : RetP Tryd.prog 104 #[.slice A1 n1 c1, .int .i64 x1] H (fun _ v L => ∃ y, Φ y ∧ v = .int .i64 (y) ∧ L = []) := by
 refine RetP.of_code Tryd.func104 rfl (nb rfl) fun w0 hM => ?_
 refine CW.sr <| RW.st (Ex.assign (.int .i64 0) rfl) rfl <| RW.nil <| CW.seq <| CW.sr <| RW.st (Ex.move (.slice A1 n1 c1) rfl) rfl <| RW.st (Ex.lenN st40.1 rfl hF1.hn) rfl <| RW.st (Ex.move (.int .i64 x1) rfl) rfl ?_
 refine RW.callP hM (cycle_in_lift (x0.length : Int) x1 8 hm) en103 rfl rfl rfl rfl ?_; rintro _ w H3 _ hle4 ⟨v2, hm, rfl, rfl⟩ hM
 refine RW.st (Ex.not (p := v2 = true) (bvar _)) rfl <| RW.nil ?_
 refine CW.cond_dec (p := ¬ (v2 = true)) rfl (fun hc5 => ?_) (fun hc5 => ?_)
 ·
  replace hm := And.left hm hc5
  refine CW.sr <| RW.st (Ex.assign (.int .i64 6) rfl) rfl <| RW.nil <| CW.ret ?_
  refine tqr ?_
  refine end_tmp (.inl rfl) rfl (.int .i64 6) rfl ?_
  exact ⟨_, _, hM, 6, hm, rfl, rfl⟩
 ·
  replace hm := And.right hm hc5
  refine CW.skip <| CW.seq <| CW.sr <| RW.st (Ex.move (.slice A1 n1 c1) rfl) rfl ?_
  refine RW.callP hM (slices_ContainsFunc_int_int__cycle_positions_1_lift x0 (hF1.mono hle4) hm) en140 rfl rfl rfl rfl ?_; rintro _ w H7 _ hle8 ⟨v6, hm, rfl, rfl⟩ hM
  refine RW.nil ?_
  refine CW.cond_b rfl (fun hc9 => ?_) (fun hc9 => ?_)
  ·
   replace hm := And.left hm hc9
   refine CW.sr <| RW.st (Ex.assign (.int .i64 2) rfl) rfl <| RW.nil <| CW.ret ?_
   refine tqr ?_
   refine end_tmp (.inl rfl) rfl (.int .i64 2) rfl ?_
   exact ⟨_, _, hM, 2, hm, rfl, rfl⟩
  ·
   replace hm := And.right hm hc9
   refine CW.skip <| CW.sr <| RW.st (Ex.assign (.int .i64 0) rfl) rfl <| RW.nil <| CW.ret ?_
   refine end_tmp (.inl rfl) rfl (.int .i64 0) rfl ?_
   exact ⟨_, _, hM, 0, hm, rfl, rfl⟩
end Go.Proofs.YtahlanamngfkcaaDoor
