/- Part 4 of the proof of the statement ReverseTurnsCardSaid: lemmas. No condition of its own. -/
import Derived.Test.YtahlanamngfkcaaDoorM3
namespace Go.Proofs.YtahlanamngfkcaaDoor
open Go.RowKit
theorem ref07_Check_lift {H : Hp} (x0 : List (List Sec)) {A1 : Option Addr} {n1 c1 : Nat} {s1 : List Value} (hF1 : Fz (α := List Sec) H A1 n1 c1 x0 s1) {Φ : Int → Prop} (hm : ref07_Check_W x0 Φ) : RetP Tryd.prog 97 #[.slice A1 n1 c1] H (fun _ v L => ∃ y, Φ y ∧ v = .int .i64 (y) ∧ L = []) := by
 refine RetP.of_code Tryd.func97 rfl (nb rfl) fun w0 hM => ?_
 refine CW.sr <| RW.st (Ex.assign (.int .i64 0) rfl) rfl <| RW.nil <| CW.sr <| RW.st (Ex.move (.slice A1 n1 c1) rfl) rfl ?_
 refine RW.callP hM (ref07_SizesOf_lift x0 hF1 hm) en57 rfl rfl rfl rfl ?_; rintro _ w H3 _ hle4 ⟨v2, hm, A5, n5, c5, s5, rfl, hd6, hn7, rfl⟩ hM
 have hM1 := hM
 obtain ⟨H8, hM, hle9, hF10⟩ := hM.giveF (α := Int) 0 rfl hd6 hn7
 refine RW.callB hM1 hM (ref07_Sizes_lift v2 hF10 hm) en73 rfl rfl rfl rfl ?_; clear hM hM1; intro v11 w hm hM
 refine RW.st (Ex.assign (.int .i64 v11) rfl) rfl <| RW.nil <| CW.ret ?_
 refine end_tmp (.inl rfl) rfl (.int .i64 v11) rfl ?_
 exact ⟨_, _, (hM.pick [] rfl rfl), v11, hm, rfl, rfl⟩
theorem ref43_Clean_lift {H : Hp} (x0 : List Int) {A1 : Option Addr} {n1 c1 : Nat} {s1 : List Value} (hF1 : Fz (α := Int) H A1 n1 c1 x0 s1) {Φ : List api_Bitmap → Prop} (hm : ref43_Clean_W x0 Φ) : RetP Tryd.prog 91 #[.slice A1 n1 c1] H (fun H' v L => ∃ y, Φ y ∧ ∃ A38, ∃ n38, ∃ c38, ∃ s38, v = .slice A38 n38 c38 ∧ DtL (α := api_Bitmap) H' s38 y ∧ n38 = y.length ∧ L = [.row (.slice A38 n38 c38) 65 2 n38 s38]) := by
 refine RetP.of_code Tryd.func91 rfl (nb rfl) fun w0 hM => ?_
 refine CW.sr <| RW.st (Ex.assign (.slice none 0 0) rfl) rfl <| RW.nil <| CW.sr <| RW.st (Ex.assign (.slice none 0 0) rfl) rfl <| RW.nil <| CW.seq <| CW.sr <| RW.st (Ex.assign (.int .i64 0) rfl) rfl <| RW.nil <| CW.block ?_
 obtain ⟨m37, hm⟩ := hm
 skip
 replace hM := hM.nilRow 65 2
 refine CW.loop (β := Nat) (fun n σ w => ∃ (v4 : List api_Bitmap), ∃ (A5 : Option Addr), ∃ (n6 : Nat), ∃ (c7 : Nat), ∃ (s8 : List Value), ∃ (v11 : Int), ∃ Hk2, H.le Hk2 ∧ (∃ τ, σ = sl [(0, .slice A1 n1 c1), (3, .slice A5 n6 c7), (4, .int .i64 v11)] τ) ∧ Mem w0 H w Hk2 [.row (.slice A5 n6 c7) 65 2 n6 s8] ∧ (DtL (α := api_Bitmap) Hk2 s8 v4) ∧ (n6 = v4.length) ∧ LoopN (ref43_Clean_L1 x0 Φ) n (v4, v11)) (fun n => n) m37 ⟨([] : List api_Bitmap), none, 0, 0, [], 0, H, (Hp.le.refl _), slc ⟨rfl, rfl, rfl, trivial⟩, hM, (DtL.nil : DtL _ [] ([] : List api_Bitmap)), rfl, hm⟩ ?_
 rintro k12 _ w ⟨v4, A5, n6, c7, s8, v11, Hk2, hle3, ⟨τ, rfl⟩, hM, hd9, hn10, hm⟩
 obtain _ | k12 := k12
 · exact hm.elim
 replace hm : (ref43_Clean_L1 x0 Φ) (v4, v11) (LoopN (ref43_Clean_L1 x0 Φ) k12) := hm
 generalize hrec13 : LoopN (ref43_Clean_L1 x0 Φ) k12 = rec1 at hm
 refine CW.seq <| CW.sr <| RW.st (Ex.move (.int .i64 v11) rfl) rfl <| RW.st (Ex.move (.slice A1 n1 c1) rfl) rfl <| RW.st (Ex.lenN st40.1 rfl hF1.hn) rfl <| RW.st (Ex.lss rfl rfl) rfl <| RW.nil ?_
 refine CW.cond_dec (p := v11 < (x0.length : Int)) rfl (fun hc14 => ?_) (fun hc14 => ?_)
 ·
  replace hm := And.left hm hc14
  refine CW.skip <| CW.seq <| CW.block <| CW.sr <| RW.st (Ex.move (.slice A1 n1 c1) rfl) rfl <| RW.st (Ex.move (.int .i64 v11) rfl) rfl ?_
  obtain ⟨hg15, hm⟩ := hm
  refine RW.st (Ex.index st40 rfl rfl v11.toNat (hF1.ne hg15) hg15.nat (hF1.lt hg15)) rfl ?_
  obtain ⟨_, rfl, hx16⟩ := DtL.getI (α := Int) (hF1.mono hle3).dat hg15
  refine RW.st (Ex.loadE hM hle3 hF1.rdc to3 rfl (hx16 0 _ rfl)) rfl ?_
  refine RW.callP hM (ref02_New_lift (ix x0 v11) hm) en65 rfl rfl rfl rfl ?_; rintro _ w H18 _ hle19 ⟨v17, hm, A20, n20, c20, s20, rfl, hd21, hn22, rfl⟩ hM
  refine RW.st (Ex.move (.tuple #[.agg #[.int .i64 v17.1.Size, .slice A20 n20 c20], .int .i64 v17.2]) rfl) rfl <| RW.st (Ex.extract rfl rfl) rfl <| RW.st (Ex.extract rfl rfl) rfl ?_
  refine RW.alloc hM tz65 [.int .i64 0, .slice none 0 0] rfl rfl rfl ?_; intro b23 w hM
  refine RW.store hM 0 (.agg #[.int .i64 v17.1.Size, .slice A20 n20 c20]) [.int .i64 v17.1.Size, .slice A20 n20 c20] [.int .i64 v17.1.Size, .slice A20 n20 c20] sz65 rfl rfl rfl (oneAll ⟨rfl, rfl, trivial⟩) rfl (nb rfl) rfl [.box b23 65 [.int .i64 v17.1.Size, .slice A20 n20 c20], .row (.slice A20 n20 c20) 151 1 n20 s20, .row (.slice A5 n6 c7) 65 2 n6 s8] rfl rfl rfl ?_; intro w hM
  refine RW.st (Ex.assign (.int .i64 v17.2) rfl) rfl <| RW.nil <| CW.region <| RW.st (Ex.move (.slice A5 n6 c7) rfl) rfl <| RW.st (Ex.loadA hM 0 [.int .i64 v17.1.Size, .slice A20 n20 c20] ta65 rfl rfl rfl rfl) rfl ?_
  obtain ⟨H24, hM, hle25, hF26⟩ := hM.giveF (α := BitVec 64) 1 rfl hd21 hn22
  refine RW.buildSlice hM st23 tz65 [(0, .agg #[.int .i64 v17.1.Size, .slice A20 n20 c20])] [.int .i64 v17.1.Size, .slice A20 n20 c20] (by decide) rfl rfl rfl (by decide) rfl rfl ?_; intro b27 w hM
  have hd28 : DtL H24 [.int .i64 v17.1.Size, .slice A20 n20 c20] ([v17.1] : List api_Bitmap) := (DtL.cons (c1 := [.int .i64 v17.1.Size, .slice A20 n20 c20]) ⟨_, _, _, _, rfl, hF26⟩ DtL.nil)
  obtain ⟨hg35, hm⟩ := hm
  refine RW.appendD (α := api_Bitmap) (xs := v4) (ys := ([v17.1] : List api_Bitmap)) hM 2 st23 rfl rfl (hd9.mono (hle19.trans hle25)) hn10 rfl (fun j u hj => hM.rowCell (k := 0) rfl rfl hj) hd28 rfl hg35 rfl rfl ?_; intro A29 n30 c31 s32 w hd33 hn34 hM
  refine RW.st (Ex.assign (.slice A29 n30 c31) rfl) rfl <| RW.nil <| CW.region <| RW.st (Ex.move (.int .i64 v11) rfl) rfl ?_
  obtain ⟨hg36, hm⟩ := hm
  refine RW.st (Ex.add rfl rfl hg36.1 hg36.2) rfl <| RW.st (Ex.assign (.int .i64 (v11 + 1)) rfl) rfl <| RW.nil ?_
  exact And.intro rfl ⟨k12, ⟨(v4 ++ ([v17.1] : List api_Bitmap)), A29, n30, c31, s32, v11 + 1, H24, hle3.trans (hle19.trans hle25), slc ⟨rfl, rfl, rfl, trivial⟩, (hM.pick [2] rfl rfl), hd33, hn34, (by rw [hrec13]; exact hm)⟩, Nat.lt_succ_self _⟩
 ·
  replace hm := And.right hm hc14
  refine CW.exit ?_
  refine CW.sr <| RW.st (Ex.move (.slice A5 n6 c7) rfl) rfl <| RW.st (Ex.assign (.slice A5 n6 c7) rfl) rfl <| RW.nil <| CW.ret ?_
  refine end_tmp (.inl rfl) rfl (.slice A5 n6 c7) rfl ?_
  exact ⟨_, _, hM, v4, hm, A5, n6, c7, s8, rfl, hd9, hn10, rfl⟩
theorem ref02_Check_lift {H : Hp} (x0 : api_Bitmap) {A1 : Option Addr} {n1 c1 : Nat} {s1 : List Value} (hF1 : Fz (α := BitVec 64) H A1 n1 c1 x0.Words s1) {Φ : Int → Prop} (hm : ref02_Check_W x0 Φ) : RetP Tryd.prog 67 #[.agg #[.int .i64 x0.Size, .slice A1 n1 c1]] H (fun _ v L => ∃ y, Φ y ∧ v = .int .i64 (y) ∧ L = []) := by
 refine RetP.of_code Tryd.func67 rfl (nb rfl) fun w0 hM => ?_
 refine CW.sr ?_
 refine RW.box hM (.agg #[.int .i64 x0.Size, .slice A1 n1 c1]) [.int .i64 x0.Size, .slice A1 n1 c1] rfl rfl rfl rfl ?_; intro b2 w hM
 refine RW.st (Ex.assign (.int .i64 0) rfl) rfl <| RW.nil <| CW.seq ?_
 obtain ⟨hG21, hm⟩ := hm
 refine CW.cut (fun D σ w => D = [] ∧ (∃ τ, σ = sl [(1, .pointer (some ⟨b2, 0, none⟩)), (21, .bool (decide ((x0.Size < 0) ∨ ((4096 < x0.Size) ∨ ((x0.Words.length : Int) ≠ ((x0.Size + 63) / 64))))))] τ) ∧ Mem w0 H w H [.box b2 65 [.int .i64 x0.Size, .slice A1 n1 c1]]) ?_ ?_
 ·
  replace hm := hG21
  refine CW.region <| RW.st (Ex.fieldAddr fa65_0 rfl) rfl <| RW.st (Ex.load1 hM 0 to3 rfl rfl rfl) rfl <| RW.st (Ex.lss rfl rfl) rfl <| RW.st (Ex.move (.bool (decide (x0.Size < 0))) rfl) rfl ?_
  refine RW.split 7 (p := x0.Size < 0) rfl (fun hc3 => ?_) (fun hc3 => ?_)
  ·
   skip
   refine RW.pp <| RW.pass rfl rfl <| RW.st (Ex.pickT (.bool true) rfl rfl) rfl <| RW.st (Ex.move (.bool true) rfl) rfl <| RW.pp <| RW.pp <| RW.pp <| RW.pp <| RW.st (Ex.pickT (.bool true) rfl rfl) rfl ?_
   refine RW.nil ?_
   exact And.intro rfl (And.intro (slc ⟨rfl, (congrArg Value.bool (decide_eq_true (.inl hc3)).symm), trivial⟩) hM)
  ·
   replace hm := hm hc3
   refine RW.st (Ex.fieldAddr fa65_0 rfl) rfl <| RW.st (Ex.load1 hM 0 to3 rfl rfl rfl) rfl <| RW.st (Ex.gtr rfl rfl) rfl <| RW.st (Ex.pickF (.bool (decide (4096 < x0.Size))) rfl rfl) rfl <| RW.st (Ex.move (.bool (decide (4096 < x0.Size))) rfl) rfl ?_
   refine RW.split 12 (p := 4096 < x0.Size) rfl (fun hc4 => ?_) (fun hc4 => ?_)
   ·
    skip
    refine RW.pp <| RW.pp <| RW.pp <| RW.pp <| RW.st (Ex.pickT (.bool true) rfl rfl) rfl <| RW.nil ?_
    exact And.intro rfl (And.intro (slc ⟨rfl, (congrArg Value.bool (decide_eq_true (.inr (.inl hc4))).symm), trivial⟩) hM)
   ·
    replace hm := hm hc4
    refine RW.st (Ex.fieldAddr fa65_1 rfl) rfl <| RW.st (Ex.load1 hM 0 to63 rfl rfl rfl) rfl <| RW.st (Ex.lenN st63.1 rfl hF1.hn) rfl <| RW.st (Ex.fieldAddr fa65_0 rfl) rfl <| RW.st (Ex.load1 hM 0 to3 rfl rfl rfl) rfl ?_
    obtain ⟨hg5, hm⟩ := hm
    refine RW.st (Ex.add rfl rfl hg5.1 hg5.2) rfl ?_
    have hg6 := hm
    refine RW.st (Ex.quo rfl rfl hg6.1 hg6.2.2 (by decide)) rfl <| RW.st (Ex.neq rfl rfl) rfl <| RW.st (Ex.pickF (.bool (decide ((x0.Words.length : Int) ≠ ((x0.Size + 63) / 64)))) rfl rfl) rfl <| RW.nil ?_
    exact And.intro rfl (And.intro (slc ⟨rfl, (congrArg Value.bool (decide_eq_decide.2 (imOr hc3 (imOr hc4 Iff.rfl)))), trivial⟩) hM)
 rintro _ _ w ⟨rfl, ⟨τ, rfl⟩, hM⟩
 refine CW.cond_dec (p := (x0.Size < 0) ∨ ((4096 < x0.Size) ∨ ((x0.Words.length : Int) ≠ ((x0.Size + 63) / 64)))) rfl (fun hc7 => ?_) (fun hc7 => ?_)
 ·
  replace hm := And.left hm hc7
  refine CW.sr <| RW.st (Ex.assign (.int .i64 3) rfl) rfl <| RW.nil <| CW.ret ?_
  refine tqr ?_
  refine end_tmp (.inl rfl) rfl (.int .i64 3) rfl ?_
  exact ⟨_, _, (hM.pick [] rfl rfl), 3, hm, rfl, rfl⟩
 ·
  replace hm := And.right hm hc7
  refine CW.skip <| CW.seq <| CW.sr <| RW.st (Ex.fieldAddr fa65_0 rfl) rfl <| RW.st (Ex.load1 hM 0 to3 rfl rfl rfl) rfl <| RW.st (Ex.assign (.int .i64 x0.Size) rfl) rfl <| RW.nil <| CW.block ?_
  obtain ⟨m20, hm⟩ := hm
  skip
  refine CW.loop (β := Nat) (fun n σ w => ∃ (v10 : Int), ∃ Hk8, H.le Hk8 ∧ (∃ τ, σ = sl [(1, .pointer (some ⟨b2, 0, none⟩)), (3, .int .i64 v10)] τ) ∧ Mem w0 H w Hk8 [.box b2 65 [.int .i64 x0.Size, .slice A1 n1 c1]] ∧ LoopN (ref02_Check_L1 x0 Φ) n (v10)) (fun n => n) m20 ⟨x0.Size, H, (Hp.le.refl _), slc ⟨rfl, rfl, trivial⟩, hM, hm⟩ ?_
  rintro k11 _ w ⟨v10, Hk8, hle9, ⟨τ, rfl⟩, hM, hm⟩
  obtain _ | k11 := k11
  · exact hm.elim
  replace hm : (ref02_Check_L1 x0 Φ) (v10) (LoopN (ref02_Check_L1 x0 Φ) k11) := hm
  generalize hrec12 : LoopN (ref02_Check_L1 x0 Φ) k11 = rec1 at hm
  refine CW.seq <| CW.sr <| RW.st (Ex.move (.int .i64 v10) rfl) rfl <| RW.st (Ex.fieldAddr fa65_1 rfl) rfl <| RW.st (Ex.load1 hM 0 to63 rfl rfl rfl) rfl <| RW.st (Ex.lenN st63.1 rfl hF1.hn) rfl ?_
  obtain ⟨hg13, hm⟩ := hm
  refine RW.st (Ex.mul rfl rfl hg13.1 hg13.2) rfl <| RW.st (Ex.lss rfl rfl) rfl <| RW.nil ?_
  refine CW.cond_dec (p := v10 < (64 * (x0.Words.length : Int))) rfl (fun hc14 => ?_) (fun hc14 => ?_)
  ·
   replace hm := And.left hm hc14
   refine CW.skip <| CW.seq <| CW.block <| CW.sr <| RW.st (Ex.loadA hM 0 [.int .i64 x0.Size, .slice A1 n1 c1] ta65 rfl rfl rfl rfl) rfl <| RW.st (Ex.move (.int .i64 v10) rfl) rfl ?_
   refine RW.callP hM (ref02_bit_lift x0 v10 (hF1.mono hle9) hm) en68 rfl rfl rfl rfl ?_; rintro _ w H16 _ hle17 ⟨v15, hm, rfl, rfl⟩ hM
   refine RW.nil ?_
   refine CW.cond_b rfl (fun hc18 => ?_) (fun hc18 => ?_)
   ·
    replace hm := And.left hm hc18
    refine CW.sr <| RW.st (Ex.assign (.int .i64 3) rfl) rfl <| RW.nil <| CW.ret ?_
    refine bqr (tqr (tqr (bqr (tqr ?_))))
    refine end_tmp (.inl rfl) rfl (.int .i64 3) rfl ?_
    exact ⟨_, _, (hM.pick [] rfl rfl), 3, hm, rfl, rfl⟩
   ·
    replace hm := And.right hm hc18
    refine CW.skip <| CW.region <| RW.st (Ex.move (.int .i64 v10) rfl) rfl ?_
    obtain ⟨hg19, hm⟩ := hm
    refine RW.st (Ex.add rfl rfl hg19.1 hg19.2) rfl <| RW.st (Ex.assign (.int .i64 (v10 + 1)) rfl) rfl <| RW.nil ?_
    exact And.intro rfl ⟨k11, ⟨v10 + 1, H16, hle9.trans hle17, slc ⟨rfl, rfl, trivial⟩, hM, (by rw [hrec12]; exact hm)⟩, Nat.lt_succ_self _⟩
  ·
   replace hm := And.right hm hc14
   refine CW.exit ?_
   refine CW.sr <| RW.st (Ex.assign (.int .i64 0) rfl) rfl <| RW.nil <| CW.ret ?_
   refine end_tmp (.inl rfl) rfl (.int .i64 0) rfl ?_
   exact ⟨_, _, (hM.pick [] rfl rfl), 0, hm, rfl, rfl⟩
theorem delta_correct_lift {H : Hp} (x0 : List api_Span) {A1 : Option Addr} {n1 c1 : Nat} {s1 : List Value} (hF1 : Fz (α := api_Span) H A1 n1 c1 x0 s1) {Φ : Bool → Prop} (hm : delta_correct_W x0 Φ) : RetP Tryd.prog 93 #[.slice A1 n1 c1] H (fun _ v L => ∃ y, Φ y ∧ v = .bool y ∧ L = []) := by
 refine RetP.of_code Tryd.func93 rfl (nb rfl) fun w0 hM => ?_
 refine CW.sr <| RW.st (Ex.assign (.bool false) rfl) rfl <| RW.nil <| CW.sr <| RW.st (Ex.build bs98 [] [.int .i64 0, .int .i64 0, .int .i64 0] rfl rfl) rfl ?_
 refine RW.alloc hM tz98 [.int .i64 0, .int .i64 0, .int .i64 0] rfl rfl rfl ?_; intro b2 w hM
 refine RW.store hM 0 (.agg #[.int .i64 0, .int .i64 0, .int .i64 0]) [.int .i64 0, .int .i64 0, .int .i64 0] [.int .i64 0, .int .i64 0, .int .i64 0] sz98 rfl rfl rfl (oneAll ⟨rfl, rfl, rfl, trivial⟩) rfl (nb rfl) rfl [.box b2 98 [.int .i64 0, .int .i64 0, .int .i64 0]] rfl rfl rfl ?_; intro w hM
 refine RW.nil <| CW.seq <| CW.sr <| RW.st (Ex.move (.slice A1 n1 c1) rfl) rfl <| RW.st (Ex.lenN st22.1 rfl hF1.hn) rfl <| RW.st (Ex.move (.int .i64 0) rfl) rfl <| RW.nil <| CW.block ?_
 obtain ⟨m36, hm⟩ := hm
 skip
 refine CW.loop (β := Nat) (fun n σ w => ∃ (v5 : Int), ∃ (v6 : Int), ∃ (v7 : Int), ∃ (v8 : Int), ∃ Hk3, H.le Hk3 ∧ (∃ τ, σ = sl [(3, .pointer (some ⟨b2, 0, none⟩)), (7, .slice A1 n1 c1), (8, .int .i64 ((x0.length : Int))), (9, .int .i64 v8)] τ) ∧ Mem w0 H w Hk3 [.box b2 98 [.int .i64 v5, .int .i64 v6, .int .i64 v7]] ∧ LoopN (delta_correct_L1 x0 Φ) n (v5, v6, v7, v8)) (fun n => n) m36 ⟨0, 0, 0, 0, H, (Hp.le.refl _), slc ⟨rfl, rfl, rfl, rfl, trivial⟩, hM, hm⟩ ?_
 rintro k9 _ w ⟨v5, v6, v7, v8, Hk3, hle4, ⟨τ, rfl⟩, hM, hm⟩
 obtain _ | k9 := k9
 · exact hm.elim
 replace hm : (delta_correct_L1 x0 Φ) (v5, v6, v7, v8) (LoopN (delta_correct_L1 x0 Φ) k9) := hm
 generalize hrec10 : LoopN (delta_correct_L1 x0 Φ) k9 = rec1 at hm
 refine CW.sr <| RW.st (Ex.lss rfl rfl) rfl <| RW.nil <| CW.seq ?_
 refine CW.cond_dec (p := v8 < (x0.length : Int)) rfl (fun hc11 => ?_) (fun hc11 => ?_)
 ·
  replace hm := And.left hm hc11
  refine CW.skip <| CW.seq <| CW.block <| CW.sr ?_
  obtain ⟨hg15, hm⟩ := hm
  refine RW.st (Ex.index st22 rfl rfl v8.toNat (hF1.ne hg15) hg15.nat (hF1.lt hg15)) rfl ?_
  obtain ⟨_, rfl, hx16⟩ := DtL.getI (α := api_Span) (hF1.mono hle4).dat hg15
  refine RW.st (Ex.loadEA hM hle4 hF1.rdc [.int .i64 ((ix x0 v8).Epoch), .int .i64 ((ix x0 v8).From), .int .i64 ((ix x0 v8).To)] ta98 rfl (hF1.ne hg15) rfl (chunk_sub (off := 0) (n := 3) hx16 rfl)) rfl ?_
  refine RW.alloc hM tz98 [.int .i64 0, .int .i64 0, .int .i64 0] rfl rfl rfl ?_; intro b17 w hM
  refine RW.store hM 0 (.agg #[.int .i64 ((ix x0 v8).Epoch), .int .i64 ((ix x0 v8).From), .int .i64 ((ix x0 v8).To)]) [.int .i64 ((ix x0 v8).Epoch), .int .i64 ((ix x0 v8).From), .int .i64 ((ix x0 v8).To)] [.int .i64 ((ix x0 v8).Epoch), .int .i64 ((ix x0 v8).From), .int .i64 ((ix x0 v8).To)] sz98 rfl rfl rfl (oneAll ⟨rfl, rfl, rfl, trivial⟩) rfl (nb rfl) rfl [.box b17 98 [.int .i64 ((ix x0 v8).Epoch), .int .i64 ((ix x0 v8).From), .int .i64 ((ix x0 v8).To)], .box b2 98 [.int .i64 v5, .int .i64 v6, .int .i64 v7]] rfl rfl rfl ?_; intro w hM
  refine RW.nil <| CW.seq <| CW.sr <| RW.st (Ex.fieldAddr fa98_1 rfl) rfl <| RW.st (Ex.load1 hM 0 to3 rfl rfl rfl) rfl <| RW.st (Ex.fieldAddr fa98_2 rfl) rfl <| RW.st (Ex.load1 hM 1 to3 rfl rfl rfl) rfl ?_
  obtain ⟨hg26, hm⟩ := hm
  refine RW.st (Ex.add rfl rfl hg26.1 hg26.2) rfl <| RW.st (Ex.neq rfl rfl) rfl <| RW.st (Ex.move (.bool (decide (((ix x0 v8).From) ≠ (v7 + 1)))) rfl) rfl ?_
  refine RW.split 19 (p := ((ix x0 v8).From) ≠ (v7 + 1)) rfl (fun hc27 => ?_) (fun hc27 => ?_)
  ·
   replace hm := And.left hm hc27
   refine RW.pp <| RW.pp <| RW.pass rfl rfl <| RW.st (Ex.pickT (.bool true) rfl rfl) rfl <| RW.st (Ex.move (.bool true) rfl) rfl <| RW.pp <| RW.pass rfl rfl <| RW.st (Ex.pickT (.bool true) rfl rfl) rfl <| RW.st (Ex.move (.bool true) rfl) rfl <| RW.pass rfl rfl <| RW.pass rfl rfl ?_
   refine RW.pp <| RW.st (Ex.pickT (.bool true) rfl rfl) rfl <| RW.st (Ex.move (.bool true) rfl) rfl <| RW.pp <| RW.pp <| RW.pass rfl rfl <| RW.st (Ex.pickT (.bool true) rfl rfl) rfl <| RW.nil <| CW.cond_true rfl <| CW.sr ?_
   refine RW.st (Ex.assign (.bool false) rfl) rfl <| RW.nil <| CW.ret ?_
   refine tqr (bqr (tqr (tqr (bqr (tqr ?_)))))
   refine end_tmp (.inl rfl) rfl (.bool false) rfl ?_
   exact ⟨_, _, (hM.pick [] rfl rfl), false, hm, rfl, rfl⟩
  ·
   replace hm := And.right hm hc27
   refine RW.st (Ex.fieldAddr fa98_2 rfl) rfl <| RW.st (Ex.load1 hM 0 to3 rfl rfl rfl) rfl <| RW.st (Ex.fieldAddr fa98_1 rfl) rfl <| RW.st (Ex.load1 hM 0 to3 rfl rfl rfl) rfl <| RW.st (Ex.lss rfl rfl) rfl <| RW.st (Ex.pickF (.bool (decide (((ix x0 v8).To) < ((ix x0 v8).From)))) rfl rfl) rfl <| RW.st (Ex.move (.bool (decide (((ix x0 v8).To) < ((ix x0 v8).From)))) rfl) rfl ?_
   refine RW.split 26 (p := ((ix x0 v8).To) < ((ix x0 v8).From)) rfl (fun hc28 => ?_) (fun hc28 => ?_)
   ·
    replace hm := And.left hm hc28
    refine RW.pp <| RW.pass rfl rfl <| RW.st (Ex.pickT (.bool true) rfl rfl) rfl <| RW.st (Ex.move (.bool true) rfl) rfl <| RW.pp <| RW.pp <| RW.st (Ex.pickT (.bool true) rfl rfl) rfl <| RW.st (Ex.move (.bool true) rfl) rfl <| RW.pp <| RW.pass rfl rfl ?_
    refine RW.pp <| RW.st (Ex.pickT (.bool true) rfl rfl) rfl <| RW.nil <| CW.cond_true rfl <| CW.sr <| RW.st (Ex.assign (.bool false) rfl) rfl <| RW.nil <| CW.ret ?_
    refine tqr (bqr (tqr (tqr (bqr (tqr ?_)))))
    refine end_tmp (.inl rfl) rfl (.bool false) rfl ?_
    exact ⟨_, _, (hM.pick [] rfl rfl), false, hm, rfl, rfl⟩
   ·
    replace hm := And.right hm hc28
    refine RW.st (Ex.fieldAddr fa98_2 rfl) rfl <| RW.st (Ex.load1 hM 0 to3 rfl rfl rfl) rfl <| RW.st (Ex.gtr rfl rfl) rfl <| RW.st (Ex.pickF (.bool (decide (1073741824 < ((ix x0 v8).To)))) rfl rfl) rfl <| RW.st (Ex.move (.bool (decide (1073741824 < ((ix x0 v8).To)))) rfl) rfl ?_
    refine RW.split 31 (p := 1073741824 < ((ix x0 v8).To)) rfl (fun hc29 => ?_) (fun hc29 => ?_)
    ·
     replace hm := And.left hm hc29
     refine RW.pp <| RW.pp <| RW.st (Ex.pickT (.bool true) rfl rfl) rfl <| RW.st (Ex.move (.bool true) rfl) rfl <| RW.pp <| RW.pp <| RW.pass rfl rfl <| RW.st (Ex.pickT (.bool true) rfl rfl) rfl <| RW.nil <| CW.cond_true rfl ?_
     refine CW.sr <| RW.st (Ex.assign (.bool false) rfl) rfl <| RW.nil <| CW.ret ?_
     refine tqr (bqr (tqr (tqr (bqr (tqr ?_)))))
     refine end_tmp (.inl rfl) rfl (.bool false) rfl ?_
     exact ⟨_, _, (hM.pick [] rfl rfl), false, hm, rfl, rfl⟩
    ·
     replace hm := And.right hm hc29
     refine RW.st (Ex.fieldAddr fa98_0 rfl) rfl <| RW.st (Ex.load1 hM 0 to3 rfl rfl rfl) rfl ?_
     refine RW.callP hM (delta_in_lift ((ix x0 v8).Epoch) 1 hm) en92 rfl rfl rfl rfl ?_; rintro _ w H31 _ hle32 ⟨v30, hm, rfl, rfl⟩ hM
     refine RW.st (Ex.not (p := v30 = true) (bvar _)) rfl <| RW.st (Ex.pickF (.bool (decide (¬ (v30 = true)))) rfl rfl) rfl <| RW.st (Ex.move (.bool (decide (¬ (v30 = true)))) rfl) rfl ?_
     refine RW.split 37 (p := ¬ (v30 = true)) rfl (fun hc33 => ?_) (fun hc33 => ?_)
     ·
      replace hm := And.left hm hc33
      refine RW.pp <| RW.pp <| RW.pass rfl rfl <| RW.st (Ex.pickT (.bool true) rfl rfl) rfl <| RW.nil <| CW.cond_true rfl <| CW.sr <| RW.st (Ex.assign (.bool false) rfl) rfl <| RW.nil <| CW.ret ?_
      refine tqr (bqr (tqr (tqr (bqr (tqr ?_)))))
      refine end_tmp (.inl rfl) rfl (.bool false) rfl ?_
      exact ⟨_, _, (hM.pick [] rfl rfl), false, hm, rfl, rfl⟩
     ·
      replace hm := And.right hm hc33
      refine RW.st (Ex.fieldAddr fa98_0 rfl) rfl <| RW.st (Ex.load1 hM 0 to3 rfl rfl rfl) rfl <| RW.st (Ex.fieldAddr fa98_0 rfl) rfl <| RW.st (Ex.load1 hM 1 to3 rfl rfl rfl) rfl <| RW.st (Ex.leq rfl rfl) rfl <| RW.st (Ex.pickF (.bool (decide (((ix x0 v8).Epoch) ≤ v5))) rfl rfl) rfl <| RW.nil ?_
      refine CW.cond_dec (p := ((ix x0 v8).Epoch) ≤ v5) rfl (fun hc34 => ?_) (fun hc34 => ?_)
      ·
       replace hm := And.left hm hc34
       refine CW.sr <| RW.st (Ex.assign (.bool false) rfl) rfl <| RW.nil <| CW.ret ?_
       refine tqr (bqr (tqr (tqr (bqr (tqr ?_)))))
       refine end_tmp (.inl rfl) rfl (.bool false) rfl ?_
       exact ⟨_, _, (hM.pick [] rfl rfl), false, hm, rfl, rfl⟩
      ·
       replace hm := And.right hm hc34
       refine CW.skip <| CW.region <| RW.st (Ex.loadA hM 0 [.int .i64 ((ix x0 v8).Epoch), .int .i64 ((ix x0 v8).From), .int .i64 ((ix x0 v8).To)] ta98 rfl rfl rfl rfl) rfl ?_
       refine RW.store hM 1 (.agg #[.int .i64 ((ix x0 v8).Epoch), .int .i64 ((ix x0 v8).From), .int .i64 ((ix x0 v8).To)]) [.int .i64 ((ix x0 v8).Epoch), .int .i64 ((ix x0 v8).From), .int .i64 ((ix x0 v8).To)] [.int .i64 ((ix x0 v8).Epoch), .int .i64 ((ix x0 v8).From), .int .i64 ((ix x0 v8).To)] sz98 rfl rfl rfl (oneAll ⟨rfl, rfl, rfl, trivial⟩) rfl (nb rfl) rfl [.box b17 98 [.int .i64 ((ix x0 v8).Epoch), .int .i64 ((ix x0 v8).From), .int .i64 ((ix x0 v8).To)], .box b2 98 [.int .i64 ((ix x0 v8).Epoch), .int .i64 ((ix x0 v8).From), .int .i64 ((ix x0 v8).To)]] rfl rfl rfl ?_; intro w hM
       refine RW.nil <| CW.region ?_
       obtain ⟨hg35, hm⟩ := hm
       refine RW.st (Ex.add rfl rfl hg35.1 hg35.2) rfl <| RW.st (Ex.move (.int .i64 (v8 + 1)) rfl) rfl <| RW.nil ?_
       exact And.intro rfl ⟨k9, ⟨(ix x0 v8).Epoch, (ix x0 v8).From, (ix x0 v8).To, v8 + 1, H31, hle4.trans hle32, slc ⟨rfl, rfl, rfl, rfl, trivial⟩, (hM.pick [1] rfl rfl), (by rw [hrec10]; exact hm)⟩, Nat.lt_succ_self _⟩
 ·
  replace hm := And.right hm hc11
  refine CW.exit ?_
  refine CW.sr <| RW.st (Ex.assign (.bool true) rfl) rfl <| RW.nil <| CW.ret ?_
  refine end_tmp (.inl rfl) rfl (.bool true) rfl ?_
  exact ⟨_, _, (hM.pick [] rfl rfl), true, hm, rfl, rfl⟩
theorem image_mapped_api_Sector_int__image_sizes_1_lift {H : Hp} (x0 : List (List Sec)) {A1 : Option Addr} {n1 c1 : Nat} {s1 : List Value} (hF1 : Fz (α := List Sec) H A1 n1 c1 x0 s1) {Φ : List Int → Prop} (hm : image_mapped_api_Sector_int__image_sizes_1_W x0 Φ) : RetP Tryd.prog 146 #[.slice A1 n1 c1, .func (.func 147) #[] #[]] H (fun H' v L => ∃ y, Φ y ∧ ∃ A40, ∃ n40, ∃ c40, ∃ s40, v = .slice A40 n40 c40 ∧ DtL (α := Int) H' s40 y ∧ n40 = y.length ∧ L = [.row (.slice A40 n40 c40) 3 1 n40 s40]) := by
 refine RetP.of_code Tryd.func146 rfl (nb rfl) fun w0 hM => ?_
 refine CW.sr <| RW.st (Ex.assign (.slice none 0 0) rfl) rfl <| RW.nil <| CW.sr <| RW.st (Ex.move (.slice A1 n1 c1) rfl) rfl <| RW.st (Ex.lenN st24.1 rfl hF1.hn) rfl ?_
 obtain ⟨hg8, hm⟩ := hm
 obtain ⟨hg9, hm⟩ := hm
 refine RW.makeE (α := Int) hM st40 tz3 rfl rfl hg8 hg9 rfl rfl ?_; intro b2 n3 c4 s5 w hd6 hn7 hM
 refine RW.st (Ex.assign (.slice (some ⟨b2, 0, none⟩) n3 c4) rfl) rfl <| RW.nil <| CW.seq <| CW.sr <| RW.st (Ex.move (.slice A1 n1 c1) rfl) rfl <| RW.st (Ex.lenN st24.1 rfl hF1.hn) rfl <| RW.st (Ex.move (.int .i64 0) rfl) rfl <| RW.nil <| CW.block ?_
 obtain ⟨m39, hm⟩ := hm
 skip
 refine CW.loop (β := Nat) (fun n σ w => ∃ (v12 : List Int), ∃ (A13 : Option Addr), ∃ (n14 : Nat), ∃ (c15 : Nat), ∃ (s16 : List Value), ∃ (v19 : Int), ∃ Hk10, H.le Hk10 ∧ (∃ τ, σ = sl [(1, .func (.func 147) #[] #[]), (5, .slice A13 n14 c15), (11, .slice A1 n1 c1), (12, .int .i64 ((x0.length : Int))), (13, .int .i64 v19)] τ) ∧ Mem w0 H w Hk10 [.row (.slice A13 n14 c15) 3 1 n14 s16] ∧ (DtL (α := Int) Hk10 s16 v12) ∧ (n14 = v12.length) ∧ LoopN (image_mapped_api_Sector_int__image_sizes_1_L1 x0 Φ) n (v12, v19)) (fun n => n) m39 ⟨([] : List Int), (some ⟨b2, 0, none⟩), n3, c4, s5, 0, H, (Hp.le.refl _), slc ⟨rfl, rfl, rfl, rfl, rfl, trivial⟩, hM, hd6, hn7, hm⟩ ?_
 rintro k20 _ w ⟨v12, A13, n14, c15, s16, v19, Hk10, hle11, ⟨τ, rfl⟩, hM, hd17, hn18, hm⟩
 obtain _ | k20 := k20
 · exact hm.elim
 replace hm : (image_mapped_api_Sector_int__image_sizes_1_L1 x0 Φ) (v12, v19) (LoopN (image_mapped_api_Sector_int__image_sizes_1_L1 x0 Φ) k20) := hm
 generalize hrec21 : LoopN (image_mapped_api_Sector_int__image_sizes_1_L1 x0 Φ) k20 = rec1 at hm
 refine CW.sr <| RW.st (Ex.lss rfl rfl) rfl <| RW.nil <| CW.seq ?_
 refine CW.cond_dec (p := v19 < (x0.length : Int)) rfl (fun hc22 => ?_) (fun hc22 => ?_)
 ·
  replace hm := And.left hm hc22
  refine CW.skip <| CW.seq <| CW.block <| CW.sr ?_
  obtain ⟨hg23, hm⟩ := hm
  refine RW.st (Ex.index st24 rfl rfl v19.toNat (hF1.ne hg23) hg23.nat (hF1.lt hg23)) rfl ?_
  obtain ⟨_, ⟨A24, n24, c24, s24, rfl, hF24⟩, hx25⟩ := DtL.getI (α := List Sec) (hF1.mono hle11).dat hg23
  refine RW.st (Ex.loadE hM hle11 hF1.rdc to61 rfl (hx25 0 _ rfl)) rfl <| RW.st (Ex.assign (.slice A24 n24 c24) rfl) rfl <| RW.nil <| CW.region <| RW.st (Ex.move (.slice A13 n14 c15) rfl) rfl <| RW.st (Ex.move (.func (.func 147) #[] #[]) rfl) rfl <| RW.st (Ex.move (.slice A24 n24 c24) rfl) rfl ?_
  refine RW.callP hM (image_sizes_1_lift (ix x0 v19) hF24 hm) en147 rfl rfl rfl rfl ?_; rintro _ w H27 _ hle28 ⟨v26, hm, rfl, rfl⟩ hM
  refine RW.buildSlice hM st40 tz3 [(0, .int .i64 v26)] [.int .i64 v26] (by decide) rfl rfl rfl (by decide) rfl rfl ?_; intro b29 w hM
  have hd30 : DtL H27 [.int .i64 v26] ([v26] : List Int) := (DtL.cons (c1 := [.int .i64 v26]) rfl DtL.nil)
  obtain ⟨hg37, hm⟩ := hm
  refine RW.appendD (α := Int) (xs := v12) (ys := ([v26] : List Int)) hM 1 st40 rfl rfl (hd17.mono hle28) hn18 rfl (fun j u hj => hM.rowCell (k := 0) rfl rfl hj) hd30 rfl hg37 rfl rfl ?_; intro A31 n32 c33 s34 w hd35 hn36 hM
  refine RW.st (Ex.assign (.slice A31 n32 c33) rfl) rfl <| RW.nil <| CW.region ?_
  obtain ⟨hg38, hm⟩ := hm
  refine RW.st (Ex.add rfl rfl hg38.1 hg38.2) rfl <| RW.st (Ex.move (.int .i64 (v19 + 1)) rfl) rfl <| RW.nil ?_
  exact And.intro rfl ⟨k20, ⟨(v12 ++ ([v26] : List Int)), A31, n32, c33, s34, v19 + 1, H27, hle11.trans hle28, slc ⟨rfl, rfl, rfl, rfl, rfl, trivial⟩, (hM.pick [1] rfl rfl), hd35, hn36, (by rw [hrec21]; exact hm)⟩, Nat.lt_succ_self _⟩
 ·
  replace hm := And.right hm hc22
  refine CW.exit ?_
  refine CW.sr <| RW.st (Ex.move (.slice A13 n14 c15) rfl) rfl <| RW.st (Ex.assign (.slice A13 n14 c15) rfl) rfl <| RW.nil <| CW.ret ?_
  refine end_tmp (.inl rfl) rfl (.slice A13 n14 c15) rfl ?_
  exact ⟨_, _, hM, v12, hm, A13, n14, c15, s16, rfl, hd17, hn18, rfl⟩
theorem slices_IndexFunc_int_int__image_checkSizes_1_lift {H : Hp} (x0 : List Int) {A1 : Option Addr} {n1 c1 : Nat} {s1 : List Value} (hF1 : Fz (α := Int) H A1 n1 c1 x0 s1) {Φ : Int → Prop} (hm : slices_IndexFunc_int_int__image_checkSizes_1_W x0 Φ) : RetP Tryd.prog 157 #[.slice A1 n1 c1, .func (.func 145) #[] #[]] H (fun _ v L => ∃ y, Φ y ∧ v = .int .i64 (y) ∧ L = []) := by
 refine RetP.of_code Tryd.func157 rfl (nb rfl) fun w0 hM => ?_
 refine CW.sr <| RW.st (Ex.assign (.int .i64 0) rfl) rfl <| RW.nil <| CW.seq <| CW.sr <| RW.st (Ex.move (.slice A1 n1 c1) rfl) rfl <| RW.st (Ex.lenN st40.1 rfl hF1.hn) rfl <| RW.st (Ex.move (.int .i64 0) rfl) rfl <| RW.nil <| CW.block ?_
 obtain ⟨m15, hm⟩ := hm
 skip
 refine CW.loop (β := Nat) (fun n σ w => ∃ (v4 : Int), ∃ Hk2, H.le Hk2 ∧ (∃ τ, σ = sl [(0, .slice A1 n1 c1), (1, .func (.func 145) #[] #[]), (7, .int .i64 ((x0.length : Int))), (8, .int .i64 v4)] τ) ∧ Mem w0 H w Hk2 [] ∧ LoopN (slices_IndexFunc_int_int__image_checkSizes_1_L1 x0 Φ) n (v4)) (fun n => n) m15 ⟨0, H, (Hp.le.refl _), slc ⟨rfl, rfl, rfl, rfl, trivial⟩, hM, hm⟩ ?_
 rintro k5 _ w ⟨v4, Hk2, hle3, ⟨τ, rfl⟩, hM, hm⟩
 obtain _ | k5 := k5
 · exact hm.elim
 replace hm : (slices_IndexFunc_int_int__image_checkSizes_1_L1 x0 Φ) (v4) (LoopN (slices_IndexFunc_int_int__image_checkSizes_1_L1 x0 Φ) k5) := hm
 generalize hrec6 : LoopN (slices_IndexFunc_int_int__image_checkSizes_1_L1 x0 Φ) k5 = rec1 at hm
 refine CW.sr <| RW.st (Ex.lss rfl rfl) rfl <| RW.nil <| CW.seq ?_
 refine CW.cond_dec (p := v4 < (x0.length : Int)) rfl (fun hc7 => ?_) (fun hc7 => ?_)
 ·
  replace hm := And.left hm hc7
  refine CW.skip <| CW.seq <| CW.block <| CW.sr <| RW.st (Ex.move (.int .i64 v4) rfl) rfl <| RW.st (Ex.assign (.int .i64 v4) rfl) rfl <| RW.nil <| CW.sr <| RW.st (Ex.move (.func (.func 145) #[] #[]) rfl) rfl <| RW.st (Ex.move (.slice A1 n1 c1) rfl) rfl <| RW.st (Ex.move (.int .i64 v4) rfl) rfl ?_
  obtain ⟨hg8, hm⟩ := hm
  refine RW.st (Ex.index st40 rfl rfl v4.toNat (hF1.ne hg8) hg8.nat (hF1.lt hg8)) rfl ?_
  obtain ⟨_, rfl, hx9⟩ := DtL.getI (α := Int) (hF1.mono hle3).dat hg8
  refine RW.st (Ex.loadE hM hle3 hF1.rdc to3 rfl (hx9 0 _ rfl)) rfl ?_
  refine RW.callP hM (image_checkSizes_1_lift (ix x0 v4) hm) en145 rfl rfl rfl rfl ?_; rintro _ w H11 _ hle12 ⟨v10, hm, rfl, rfl⟩ hM
  refine RW.nil ?_
  refine CW.cond_b rfl (fun hc13 => ?_) (fun hc13 => ?_)
  ·
   replace hm := And.left hm hc13
   refine CW.sr <| RW.st (Ex.move (.int .i64 v4) rfl) rfl <| RW.st (Ex.assign (.int .i64 v4) rfl) rfl <| RW.nil <| CW.ret ?_
   refine bqr (tqr (tqr (bqr (tqr ?_))))
   refine end_tmp (.inl rfl) rfl (.int .i64 v4) rfl ?_
   exact ⟨_, _, hM, v4, hm, rfl, rfl⟩
  ·
   replace hm := And.right hm hc13
   refine CW.skip <| CW.region ?_
   obtain ⟨hg14, hm⟩ := hm
   refine RW.st (Ex.add rfl rfl hg14.1 hg14.2) rfl <| RW.st (Ex.move (.int .i64 (v4 + 1)) rfl) rfl <| RW.nil ?_
   exact And.intro rfl ⟨k5, ⟨v4 + 1, H11, hle3.trans hle12, slc ⟨rfl, rfl, rfl, rfl, trivial⟩, hM, (by rw [hrec6]; exact hm)⟩, Nat.lt_succ_self _⟩
 ·
  replace hm := And.right hm hc7
  refine CW.exit ?_
  refine CW.sr <| RW.st (Ex.assign (.int .i64 ((-1))) rfl) rfl <| RW.nil <| CW.ret ?_
  refine end_tmp (.inl rfl) rfl (.int .i64 ((-1))) rfl ?_
  exact ⟨_, _, hM, (-1), hm, rfl, rfl⟩
theorem bitmap_Check_lift {H : Hp} (x0 : api_Bitmap) {A1 : Option Addr} {n1 c1 : Nat} {s1 : List Value} (hF1 : Fz (α := BitVec 64) H A1 n1 c1 x0.Words s1) {Φ : Int → Prop} (hm : bitmap_Check_W x0 Φ) : RetP Tryd.prog 94 #[.agg #[.int .i64 x0.Size, .slice A1 n1 c1]] H (fun _ v L => ∃ y, Φ y ∧ v = .int .i64 (y) ∧ L = []) := by
 refine RetP.of_code Tryd.func94 rfl (nb rfl) fun w0 hM => ?_
 refine CW.sr ?_
 refine RW.box hM (.agg #[.int .i64 x0.Size, .slice A1 n1 c1]) [.int .i64 x0.Size, .slice A1 n1 c1] rfl rfl rfl rfl ?_; intro b2 w hM
 refine RW.st (Ex.assign (.int .i64 0) rfl) rfl <| RW.nil ?_
 refine CW.cut (fun D σ w => D = [] ∧ ∃ Hk3, H.le Hk3 ∧ (∃ τ, σ = sl [(1, .pointer (some ⟨b2, 0, none⟩))] τ) ∧ Mem w0 H w Hk3 [.box b2 65 [.int .i64 x0.Size, .slice A1 n1 c1]] ∧ bitmap_Check_J1 x0 Φ) ?_ ?_
 ·
  refine CW.seq ?_
  by_cases hc17 : x0.Size < 0
  ·
   replace hm := And.left hm hc17
   refine CW.drawE 17 [.pointer (some ⟨b2, 0, none⟩), .int .i64 x0.Size, .bool true, .bool true, undef, undef, undef, .bool true, .bool true, undef, undef, undef, undef, undef, undef, undef, .bool true]
    [[(1, none)], [(4, some 0)], [(5, some 1)], [(6, some 2)], [(7, some 3)], [(7, some 3)], [(7, some 3)], [(7, some 3), (10, some 6)], [(11, some 7)], [(12, some 8)], [(12, some 8)], [(12, some 8)], [(12, some 8)], [(12, some 8)], [(12, some 8)], [(12, some 8)], [(12, some 8), (19, some 15)]] [(1, none), (20, some 16)] (by kernel_rfl) hM (by kernel_rfl) ⟨?_, ?_, ?_, ?_, ?_, ?_, ?_, ?_, ?_, ?_, ?_, ?_, ?_, ?_, ?_, ?_, ?_, trivial⟩ ?_
   · exact One.ex (fun H' τ w hled hM => Ex.fieldAddr fa65_0 rfl) rfl (fun _ => rfl) rfl
   · exact One.ex (fun H' τ w hled hM => Ex.load1 hM 0 to3 rfl rfl rfl) rfl (fun _ => rfl) rfl
   · exact One.ex (fun H' τ w hled hM => Ex.yes (Ex.lss rfl rfl) hc17) rfl (fun _ => rfl) rfl
   · exact One.ex (fun H' τ w hled hM => Ex.move (.bool true) rfl) rfl (fun _ => rfl) rfl
   · exact One.pass (fun _ => rfl) rfl
   · exact One.pass (fun _ => rfl) rfl
   · exact One.pass (fun _ => rfl) rfl
   · exact One.ex (fun H' τ w hled hM => Ex.pickT (.bool true) rfl rfl) rfl (fun _ => rfl) rfl
   · exact One.ex (fun H' τ w hled hM => Ex.move (.bool true) rfl) rfl (fun _ => rfl) rfl
   · exact One.pass (fun _ => rfl) rfl
   · exact One.pass (fun _ => rfl) rfl
   · exact One.pass (fun _ => rfl) rfl
   · exact One.pass (fun _ => rfl) rfl
   · exact One.pass (fun _ => rfl) rfl
   · exact One.pass (fun _ => rfl) rfl
   · exact One.pass (fun _ => rfl) rfl
   · exact One.ex (fun H' τ w hled hM => Ex.pickT (.bool true) rfl rfl) rfl (fun _ => rfl) rfl
   intro τ w hM
   change RW _ _ _ _ _ _ _ _ (sl [(1, .pointer (some ⟨b2, 0, none⟩)), (20, .bool true)] τ) _
   refine RW.nil <| CW.cond_true rfl <| CW.sr <| RW.st (Ex.assign (.int .i64 3) rfl) rfl <| RW.nil <| CW.ret ?_
   refine tqr ?_
   refine end_tmp (.inl rfl) rfl (.int .i64 3) rfl ?_
   exact ⟨_, _, (hM.pick [] rfl rfl), 3, hm, rfl, rfl⟩
  ·
   replace hm := And.right hm hc17
   by_cases hc18 : 4096 < x0.Size
   ·
    replace hm := And.left hm hc18
    refine CW.drawE 17 [.pointer (some ⟨b2, 0, none⟩), .int .i64 x0.Size, .bool false, .bool false, .pointer (some ⟨b2, 0, none⟩), .int .i64 x0.Size, .bool true, .bool true, .bool true, undef, undef, undef, undef, undef, undef, undef, .bool true]
     [[(1, none)], [(4, some 0)], [(5, some 1)], [(6, some 2)], [(1, none), (7, some 3)], [(7, some 3), (8, some 4)], [(7, some 3), (9, some 5)], [(7, some 3), (10, some 6)], [(11, some 7)], [(12, some 8)], [(12, some 8)], [(12, some 8)], [(12, some 8)], [(12, some 8)], [(12, some 8)], [(12, some 8)], [(12, some 8), (19, some 15)]] [(1, none), (20, some 16)] (by kernel_rfl) hM (by kernel_rfl) ⟨?_, ?_, ?_, ?_, ?_, ?_, ?_, ?_, ?_, ?_, ?_, ?_, ?_, ?_, ?_, ?_, ?_, trivial⟩ ?_
    · exact One.ex (fun H' τ w hled hM => Ex.fieldAddr fa65_0 rfl) rfl (fun _ => rfl) rfl
    · exact One.ex (fun H' τ w hled hM => Ex.load1 hM 0 to3 rfl rfl rfl) rfl (fun _ => rfl) rfl
    · exact One.ex (fun H' τ w hled hM => Ex.no (Ex.lss rfl rfl) hc17) rfl (fun _ => rfl) rfl
    · exact One.ex (fun H' τ w hled hM => Ex.move (.bool false) rfl) rfl (fun _ => rfl) rfl
    · exact One.ex (fun H' τ w hled hM => Ex.fieldAddr fa65_0 rfl) rfl (fun _ => rfl) rfl
    · exact One.ex (fun H' τ w hled hM => Ex.load1 hM 0 to3 rfl rfl rfl) rfl (fun _ => rfl) rfl
    · exact One.ex (fun H' τ w hled hM => Ex.yes (Ex.gtr rfl rfl) hc18) rfl (fun _ => rfl) rfl
    · exact One.ex (fun H' τ w hled hM => Ex.pickF (.bool true) rfl rfl) rfl (fun _ => rfl) rfl
    · exact One.ex (fun H' τ w hled hM => Ex.move (.bool true) rfl) rfl (fun _ => rfl) rfl
    · exact One.pass (fun _ => rfl) rfl
    · exact One.pass (fun _ => rfl) rfl
    · exact One.pass (fun _ => rfl) rfl
    · exact One.pass (fun _ => rfl) rfl
    · exact One.pass (fun _ => rfl) rfl
    · exact One.pass (fun _ => rfl) rfl
    · exact One.pass (fun _ => rfl) rfl
    · exact One.ex (fun H' τ w hled hM => Ex.pickT (.bool true) rfl rfl) rfl (fun _ => rfl) rfl
    intro τ w hM
    change RW _ _ _ _ _ _ _ _ (sl [(1, .pointer (some ⟨b2, 0, none⟩)), (20, .bool true)] τ) _
    refine RW.nil <| CW.cond_true rfl <| CW.sr <| RW.st (Ex.assign (.int .i64 3) rfl) rfl <| RW.nil <| CW.ret ?_
    refine tqr ?_
    refine end_tmp (.inl rfl) rfl (.int .i64 3) rfl ?_
    exact ⟨_, _, (hM.pick [] rfl rfl), 3, hm, rfl, rfl⟩
   ·
    replace hm := And.right hm hc18
    obtain ⟨v19, hW20, hm⟩ := hm
    refine CW.drawE 17 [.pointer (some ⟨b2, 0, none⟩), .int .i64 x0.Size, .bool false, .bool false, .pointer (some ⟨b2, 0, none⟩), .int .i64 x0.Size, .bool false, .bool false, .bool false, .pointer (some ⟨b2, 1, none⟩), .slice A1 n1 c1, .int .i64 ((x0.Words.length : Int)), .pointer (some ⟨b2, 0, none⟩), .int .i64 x0.Size, .int .i64 v19, .bool (decide ((x0.Words.length : Int) ≠ v19)), .bool (decide ((x0.Words.length : Int) ≠ v19))]
     [[(1, none)], [(4, some 0)], [(5, some 1)], [(6, some 2)], [(1, none), (7, some 3)], [(7, some 3), (8, some 4)], [(7, some 3), (9, some 5)], [(7, some 3), (10, some 6)], [(11, some 7)], [(1, none), (12, some 8)], [(12, some 8), (13, some 9)], [(12, some 8), (14, some 10)], [(1, none), (12, some 8)], [(12, some 8), (16, some 12)], [(12, some 8), (17, some 13)], [(12, some 8), (15, some 11), (18, some 14)], [(12, some 8), (19, some 15)]] [(1, none), (20, some 16)] (by kernel_rfl) hM (by kernel_rfl) ⟨?_, ?_, ?_, ?_, ?_, ?_, ?_, ?_, ?_, ?_, ?_, ?_, ?_, ?_, ?_, ?_, ?_, trivial⟩ ?_
    · exact One.ex (fun H' τ w hled hM => Ex.fieldAddr fa65_0 rfl) rfl (fun _ => rfl) rfl
    · exact One.ex (fun H' τ w hled hM => Ex.load1 hM 0 to3 rfl rfl rfl) rfl (fun _ => rfl) rfl
    · exact One.ex (fun H' τ w hled hM => Ex.no (Ex.lss rfl rfl) hc17) rfl (fun _ => rfl) rfl
    · exact One.ex (fun H' τ w hled hM => Ex.move (.bool false) rfl) rfl (fun _ => rfl) rfl
    · exact One.ex (fun H' τ w hled hM => Ex.fieldAddr fa65_0 rfl) rfl (fun _ => rfl) rfl
    · exact One.ex (fun H' τ w hled hM => Ex.load1 hM 0 to3 rfl rfl rfl) rfl (fun _ => rfl) rfl
    · exact One.ex (fun H' τ w hled hM => Ex.no (Ex.gtr rfl rfl) hc18) rfl (fun _ => rfl) rfl
    · exact One.ex (fun H' τ w hled hM => Ex.pickF (.bool false) rfl rfl) rfl (fun _ => rfl) rfl
    · exact One.ex (fun H' τ w hled hM => Ex.move (.bool false) rfl) rfl (fun _ => rfl) rfl
    · exact One.ex (fun H' τ w hled hM => Ex.fieldAddr fa65_1 rfl) rfl (fun _ => rfl) rfl
    · exact One.ex (fun H' τ w hled hM => Ex.load1 hM 0 to63 rfl rfl rfl) rfl (fun _ => rfl) rfl
    · exact One.ex (fun H' τ w hled hM => Ex.lenN st63.1 rfl hF1.hn) rfl (fun _ => rfl) rfl
    · exact One.ex (fun H' τ w hled hM => Ex.fieldAddr fa65_0 rfl) rfl (fun _ => rfl) rfl
    · exact One.ex (fun H' τ w hled hM => Ex.load1 hM 0 to3 rfl rfl rfl) rfl (fun _ => rfl) rfl
    · exact One.call (bitmap_words_lift x0.Size hW20).toV en131 (fun _ => rfl) (fun _ => rfl) (fun _ => rfl) rfl
    · exact One.ex (fun H' τ w hled hM => Ex.neq rfl rfl) rfl (fun _ => rfl) rfl
    · exact One.ex (fun H' τ w hled hM => Ex.pickF (.bool (decide ((x0.Words.length : Int) ≠ v19))) rfl rfl) rfl (fun _ => rfl) rfl
    intro τ w hM
    change RW _ _ _ _ _ _ _ _ (sl [(1, .pointer (some ⟨b2, 0, none⟩)), (20, .bool (decide ((x0.Words.length : Int) ≠ v19)))] τ) _
    refine RW.nil ?_
    refine CW.cond_dec (p := (x0.Words.length : Int) ≠ v19) rfl (fun hc21 => ?_) (fun hc21 => ?_)
    ·
     replace hm := And.left hm hc21
     refine CW.sr <| RW.st (Ex.assign (.int .i64 3) rfl) rfl <| RW.nil <| CW.ret ?_
     refine tqr ?_
     refine end_tmp (.inl rfl) rfl (.int .i64 3) rfl ?_
     exact ⟨_, _, (hM.pick [] rfl rfl), 3, hm, rfl, rfl⟩
    ·
     replace hm := And.right hm hc21
     refine CW.skip ?_
     exact And.intro rfl ⟨H, (Hp.le.refl _), slc ⟨rfl, trivial⟩, hM, hm⟩
 rintro _ _ w ⟨rfl, Hk3, hle4, ⟨τ, rfl⟩, hM, hm⟩
 refine CW.seq <| CW.sr <| RW.st (Ex.fieldAddr fa65_0 rfl) rfl <| RW.st (Ex.load1 hM 0 to3 rfl rfl rfl) rfl ?_
 obtain ⟨hg5, hm⟩ := hm
 refine RW.st (Ex.rem rfl rfl hg5 (by decide)) rfl <| RW.st (Ex.assign (.int .i64 (x0.Size % 64)) rfl) rfl <| RW.nil ?_
 obtain ⟨hG12, hm⟩ := hm
 refine CW.cut (fun D σ w => D = [] ∧ (∃ τ, σ = sl [(38, .bool (decide ((0 < (x0.Size % 64)) ∧ (((ix x0.Words ((x0.Words.length : Int) - 1)) >>> (x0.Size % 64 : Int).toNat) ≠ (0#64)))))] τ) ∧ Mem w0 H w Hk3 [.box b2 65 [.int .i64 x0.Size, .slice A1 n1 c1]]) ?_ ?_
 ·
  replace hm := hG12
  refine CW.region <| RW.st (Ex.move (.int .i64 (x0.Size % 64)) rfl) rfl <| RW.st (Ex.gtr rfl rfl) rfl <| RW.st (Ex.move (.bool (decide (0 < (x0.Size % 64)))) rfl) rfl ?_
  refine RW.split 26 (p := 0 < (x0.Size % 64)) rfl (fun hc6 => ?_) (fun hc6 => ?_)
  ·
   replace hm := hm hc6
   refine RW.st (Ex.fieldAddr fa65_1 rfl) rfl <| RW.st (Ex.load1 hM 0 to63 rfl rfl rfl) rfl <| RW.st (Ex.fieldAddr fa65_1 rfl) rfl <| RW.st (Ex.load1 hM 0 to63 rfl rfl rfl) rfl <| RW.st (Ex.lenN st63.1 rfl hF1.hn) rfl ?_
   obtain ⟨hg7, hm⟩ := hm
   refine RW.st (Ex.sub rfl rfl hg7.1 hg7.2) rfl ?_
   obtain ⟨hg8, hm⟩ := hm
   refine RW.st (Ex.index st63 rfl rfl (((x0.Words.length : Int) - 1).toNat) (hF1.ne hg8) hg8.nat (hF1.lt hg8)) rfl ?_
   obtain ⟨_, rfl, hx9⟩ := DtL.getI (α := BitVec 64) (hF1.mono hle4).dat hg8
   refine RW.st (Ex.loadE hM hle4 hF1.rdc to151 rfl (hx9 0 _ rfl)) rfl <| RW.st (Ex.move (.int .i64 (x0.Size % 64)) rfl) rfl ?_
   have hg10 := hm
   refine RW.st (Ex.shr64 (a := (ix x0.Words ((x0.Words.length : Int) - 1))) (n := x0.Size % 64) rfl rfl hg10) rfl <| RW.st (Ex.neq64 (a := (ix x0.Words ((x0.Words.length : Int) - 1)) >>> (x0.Size % 64 : Int).toNat) (b := 0#64) rfl rfl) rfl <| RW.st (Ex.pickT (.bool (decide (((ix x0.Words ((x0.Words.length : Int) - 1)) >>> (x0.Size % 64 : Int).toNat) ≠ (0#64)))) rfl rfl) rfl <| RW.nil ?_
   exact And.intro rfl (And.intro (slc ⟨(congrArg Value.bool (decide_eq_decide.2 (imAnd hc6 Iff.rfl))), trivial⟩) hM)
  ·
   skip
   refine RW.pp <| RW.pp <| RW.pp <| RW.pp <| RW.pp <| RW.pass rfl rfl <| RW.st (Ex.pickF (.bool false) rfl rfl) rfl <| RW.nil ?_
   exact And.intro rfl (And.intro (slc ⟨(congrArg Value.bool (decide_eq_false (fun q => hc6 q.1)).symm), trivial⟩) hM)
 rintro _ _ w ⟨rfl, ⟨τ, rfl⟩, hM⟩
 refine CW.cond_dec (p := (0 < (x0.Size % 64)) ∧ (((ix x0.Words ((x0.Words.length : Int) - 1)) >>> (x0.Size % 64 : Int).toNat) ≠ (0#64))) rfl (fun hc11 => ?_) (fun hc11 => ?_)
 ·
  replace hm := And.left hm hc11
  refine CW.sr <| RW.st (Ex.assign (.int .i64 3) rfl) rfl <| RW.nil <| CW.ret ?_
  refine tqr ?_
  refine end_tmp (.inl rfl) rfl (.int .i64 3) rfl ?_
  exact ⟨_, _, (hM.pick [] rfl rfl), 3, hm, rfl, rfl⟩
 ·
  replace hm := And.right hm hc11
  refine CW.skip <| CW.sr <| RW.st (Ex.assign (.int .i64 0) rfl) rfl <| RW.nil <| CW.ret ?_
  refine end_tmp (.inl rfl) rfl (.int .i64 0) rfl ?_
  exact ⟨_, _, (hM.pick [] rfl rfl), 0, hm, rfl, rfl⟩
theorem reverse_volumes_api_Extent__reverse_Undo_1_lift {H : Hp} (hT : TabH H 0) (x0 : List api_Bitmap) {A1 : Option Addr} {n1 c1 : Nat} {s1 : List Value} (hF1 : Fz (α := api_Bitmap) H A1 n1 c1 x0 s1) {Φ : List (List api_Extent) → Prop} (hm : reverse_volumes_api_Extent__reverse_Undo_1_W x0 Φ) : RetP Tryd.prog 42 #[.slice A1 n1 c1, .func (.func 43) #[] #[]] H (fun H' v L => ∃ y, Φ y ∧ ∃ A34, ∃ n34, ∃ c34, ∃ s34, v = .slice A34 n34 c34 ∧ DtL (α := List api_Extent) H' s34 y ∧ n34 = y.length ∧ L = [.row (.slice A34 n34 c34) 68 1 n34 s34]) := by
 refine RetP.of_code Tryd.func42 rfl (nb rfl) fun w0 hM => ?_
 refine CW.sr <| RW.st (Ex.assign (.slice none 0 0) rfl) rfl <| RW.nil <| CW.sr <| RW.st (Ex.assign (.slice none 0 0) rfl) rfl <| RW.nil <| CW.seq <| CW.sr <| RW.st (Ex.move (.slice A1 n1 c1) rfl) rfl <| RW.st (Ex.lenN st23.1 rfl hF1.hn) rfl <| RW.st (Ex.move (.int .i64 0) rfl) rfl ?_
 refine RW.nil <| CW.block ?_
 obtain ⟨m33, hm⟩ := hm
 skip
 replace hM := hM.nilRow 68 1
 refine CW.loop (β := Nat) (fun n σ w => ∃ (v4 : List (List api_Extent)), ∃ (A5 : Option Addr), ∃ (n6 : Nat), ∃ (c7 : Nat), ∃ (s8 : List Value), ∃ (v11 : Int), ∃ Hk2, H.le Hk2 ∧ (∃ τ, σ = sl [(1, .func (.func 43) #[] #[]), (5, .slice A5 n6 c7), (8, .slice A1 n1 c1), (9, .int .i64 ((x0.length : Int))), (10, .int .i64 v11)] τ) ∧ Mem w0 H w Hk2 [.row (.slice A5 n6 c7) 68 1 n6 s8] ∧ (DtL (α := List api_Extent) Hk2 s8 v4) ∧ (n6 = v4.length) ∧ LoopN (reverse_volumes_api_Extent__reverse_Undo_1_L1 x0 Φ) n (v4, v11)) (fun n => n) m33 ⟨([] : List (List api_Extent)), none, 0, 0, [], 0, H, (Hp.le.refl _), slc ⟨rfl, rfl, rfl, rfl, rfl, trivial⟩, hM, (DtL.nil : DtL _ [] ([] : List (List api_Extent))), rfl, hm⟩ ?_
 rintro k12 _ w ⟨v4, A5, n6, c7, s8, v11, Hk2, hle3, ⟨τ, rfl⟩, hM, hd9, hn10, hm⟩
 obtain _ | k12 := k12
 · exact hm.elim
 replace hm : (reverse_volumes_api_Extent__reverse_Undo_1_L1 x0 Φ) (v4, v11) (LoopN (reverse_volumes_api_Extent__reverse_Undo_1_L1 x0 Φ) k12) := hm
 generalize hrec13 : LoopN (reverse_volumes_api_Extent__reverse_Undo_1_L1 x0 Φ) k12 = rec1 at hm
 refine CW.sr <| RW.st (Ex.lss rfl rfl) rfl <| RW.nil <| CW.seq ?_
 refine CW.cond_dec (p := v11 < (x0.length : Int)) rfl (fun hc14 => ?_) (fun hc14 => ?_)
 ·
  replace hm := And.left hm hc14
  refine CW.skip <| CW.seq <| CW.block <| CW.sr <| RW.st (Ex.move (.int .i64 v11) rfl) rfl ?_
  obtain ⟨hg15, hm⟩ := hm
  refine RW.st (Ex.index st23 rfl rfl v11.toNat (hF1.ne hg15) hg15.nat (hF1.lt hg15)) rfl ?_
  obtain ⟨_, ⟨A16, n16, c16, s16, rfl, hF16⟩, hx17⟩ := DtL.getI (α := api_Bitmap) (hF1.mono hle3).dat hg15
  refine RW.st (Ex.loadEA hM hle3 hF1.rdc [.int .i64 ((ix x0 v11).Size), .slice A16 n16 c16] ta65 rfl (hF1.ne hg15) rfl (chunk_sub (off := 0) (n := 2) hx17 rfl)) rfl ?_
  refine RW.alloc hM tz65 [.int .i64 0, .slice none 0 0] rfl rfl rfl ?_; intro b18 w hM
  refine RW.st (Ex.assign (.int .i64 v11) rfl) rfl ?_
  refine RW.store hM 0 (.agg #[.int .i64 ((ix x0 v11).Size), .slice A16 n16 c16]) [.int .i64 ((ix x0 v11).Size), .slice A16 n16 c16] [.int .i64 ((ix x0 v11).Size), .slice A16 n16 c16] sz65 rfl rfl rfl (oneAll ⟨rfl, rfl, trivial⟩) rfl (nb rfl) rfl [.box b18 65 [.int .i64 ((ix x0 v11).Size), .slice A16 n16 c16], .row (.slice A5 n6 c7) 68 1 n6 s8] rfl rfl rfl ?_; intro w hM
  refine RW.nil <| CW.region <| RW.st (Ex.move (.slice A5 n6 c7) rfl) rfl <| RW.st (Ex.move (.func (.func 43) #[] #[]) rfl) rfl <| RW.st (Ex.move (.int .i64 v11) rfl) rfl <| RW.st (Ex.loadA hM 0 [.int .i64 ((ix x0 v11).Size), .slice A16 n16 c16] ta65 rfl rfl rfl rfl) rfl ?_
  refine RW.callP hM (reverse_Undo_1_lift (hT.mono hle3) v11 (ix x0 v11) hF16 hm) en43 rfl rfl rfl rfl ?_; rintro _ w H20 _ hle21 ⟨v19, hm, A22, n22, c22, s22, rfl, hF22, rfl⟩ hM
  refine RW.buildSlice hM st30 tz68 [(0, .slice A22 n22 c22)] [.slice A22 n22 c22] (by decide) rfl rfl rfl (by decide) rfl rfl ?_; intro b23 w hM
  have hd24 : DtL H20 [.slice A22 n22 c22] ([v19] : List (List api_Extent)) := (DtL.cons (c1 := [.slice A22 n22 c22]) ⟨_, _, _, _, rfl, hF22⟩ DtL.nil)
  obtain ⟨hg31, hm⟩ := hm
  refine RW.appendD (α := List api_Extent) (xs := v4) (ys := ([v19] : List (List api_Extent))) hM 2 st30 rfl rfl (hd9.mono hle21) hn10 rfl (fun j u hj => hM.rowCell (k := 0) rfl rfl hj) hd24 rfl hg31 rfl rfl ?_; intro A25 n26 c27 s28 w hd29 hn30 hM
  refine RW.st (Ex.assign (.slice A25 n26 c27) rfl) rfl <| RW.nil <| CW.region ?_
  obtain ⟨hg32, hm⟩ := hm
  refine RW.st (Ex.add rfl rfl hg32.1 hg32.2) rfl <| RW.st (Ex.move (.int .i64 (v11 + 1)) rfl) rfl <| RW.nil ?_
  exact And.intro rfl ⟨k12, ⟨(v4 ++ ([v19] : List (List api_Extent))), A25, n26, c27, s28, v11 + 1, H20, hle3.trans hle21, slc ⟨rfl, rfl, rfl, rfl, rfl, trivial⟩, (hM.pick [2] rfl rfl), hd29, hn30, (by rw [hrec13]; exact hm)⟩, Nat.lt_succ_self _⟩
 ·
  replace hm := And.right hm hc14
  refine CW.exit ?_
  refine CW.sr <| RW.st (Ex.move (.slice A5 n6 c7) rfl) rfl <| RW.st (Ex.assign (.slice A5 n6 c7) rfl) rfl <| RW.nil <| CW.ret ?_
  refine end_tmp (.inl rfl) rfl (.slice A5 n6 c7) rfl ?_
  exact ⟨_, _, hM, v4, hm, A5, n6, c7, s8, rfl, hd9, hn10, rfl⟩
theorem slEF_lift {H : Hp} (x0 : List (List Sec)) (x1 : List (List Sec)) {A1 : Option Addr} {n1 c1 : Nat} {s1 : List Value} (hF1 : Fz (α := List Sec) H A1 n1 c1 x0 s1) {A2 : Option Addr} {n2 c2 : Nat} {s2 : List Value} (hF2 : Fz (α := List Sec) H A2 n2 c2 x1 s2) {Φ : Bool → Prop} (hm : slEF_W x0 x1 Φ) : RetP Tryd.prog 135 #[.slice A1 n1 c1, .slice A2 n2 c2, .func (.func 136) #[] #[]] H (fun _ v L => ∃ y, Φ y ∧ v = .bool y ∧ L = []) := by
 refine RetP.of_code Tryd.func135 rfl (nb rfl) fun w0 hM => ?_
 refine CW.sr <| RW.st (Ex.assign (.bool false) rfl) rfl <| RW.nil <| CW.seq <| CW.sr <| RW.st (Ex.move (.slice A1 n1 c1) rfl) rfl <| RW.st (Ex.lenN st25.1 rfl hF1.hn) rfl <| RW.st (Ex.move (.slice A2 n2 c2) rfl) rfl <| RW.st (Ex.lenN st25.1 rfl hF2.hn) rfl <| RW.st (Ex.neq rfl rfl) rfl <| RW.nil ?_
 refine CW.cond_dec (p := (x0.length : Int) ≠ (x1.length : Int)) rfl (fun hc3 => ?_) (fun hc3 => ?_)
 ·
  replace hm := And.left hm hc3
  refine CW.sr <| RW.st (Ex.assign (.bool false) rfl) rfl <| RW.nil <| CW.ret ?_
  refine tqr ?_
  refine end_tmp (.inl rfl) rfl (.bool false) rfl ?_
  exact ⟨_, _, hM, false, hm, rfl, rfl⟩
 ·
  replace hm := And.right hm hc3
  refine CW.skip <| CW.seq <| CW.sr <| RW.st (Ex.move (.slice A1 n1 c1) rfl) rfl <| RW.st (Ex.lenN st25.1 rfl hF1.hn) rfl <| RW.st (Ex.move (.int .i64 0) rfl) rfl <| RW.nil <| CW.block ?_
  obtain ⟨m21, hm⟩ := hm
  skip
  refine CW.loop (β := Nat) (fun n σ w => ∃ (v6 : Int), ∃ Hk4, H.le Hk4 ∧ (∃ τ, σ = sl [(1, .slice A2 n2 c2), (2, .func (.func 136) #[] #[]), (15, .slice A1 n1 c1), (16, .int .i64 ((x0.length : Int))), (17, .int .i64 v6)] τ) ∧ Mem w0 H w Hk4 [] ∧ LoopN (slEF_L1 x0 x1 Φ) n (v6)) (fun n => n) m21 ⟨0, H, (Hp.le.refl _), slc ⟨rfl, rfl, rfl, rfl, rfl, trivial⟩, hM, hm⟩ ?_
  rintro k7 _ w ⟨v6, Hk4, hle5, ⟨τ, rfl⟩, hM, hm⟩
  obtain _ | k7 := k7
  · exact hm.elim
  replace hm : (slEF_L1 x0 x1 Φ) (v6) (LoopN (slEF_L1 x0 x1 Φ) k7) := hm
  generalize hrec8 : LoopN (slEF_L1 x0 x1 Φ) k7 = rec1 at hm
  refine CW.sr <| RW.st (Ex.lss rfl rfl) rfl <| RW.nil <| CW.seq ?_
  refine CW.cond_dec (p := v6 < (x0.length : Int)) rfl (fun hc9 => ?_) (fun hc9 => ?_)
  ·
   replace hm := And.left hm hc9
   refine CW.skip <| CW.seq <| CW.block <| CW.sr <| RW.st (Ex.move (.int .i64 v6) rfl) rfl ?_
   obtain ⟨hg10, hm⟩ := hm
   refine RW.st (Ex.index st25 rfl rfl v6.toNat (hF1.ne hg10) hg10.nat (hF1.lt hg10)) rfl ?_
   obtain ⟨_, ⟨A11, n11, c11, s11, rfl, hF11⟩, hx12⟩ := DtL.getI (α := List Sec) (hF1.mono hle5).dat hg10
   refine RW.st (Ex.loadE hM hle5 hF1.rdc to61 rfl (hx12 0 _ rfl)) rfl <| RW.st (Ex.assign (.int .i64 v6) rfl) rfl <| RW.st (Ex.assign (.slice A11 n11 c11) rfl) rfl <| RW.nil <| CW.sr <| RW.st (Ex.move (.slice A2 n2 c2) rfl) rfl <| RW.st (Ex.move (.int .i64 v6) rfl) rfl ?_
   obtain ⟨hg13, hm⟩ := hm
   refine RW.st (Ex.index st25 rfl rfl v6.toNat (hF2.ne hg13) hg13.nat (hF2.lt hg13)) rfl ?_
   obtain ⟨_, ⟨A14, n14, c14, s14, rfl, hF14⟩, hx15⟩ := DtL.getI (α := List Sec) (hF2.mono hle5).dat hg13
   refine RW.st (Ex.loadE hM hle5 hF2.rdc to61 rfl (hx15 0 _ rfl)) rfl <| RW.st (Ex.assign (.slice A14 n14 c14) rfl) rfl <| RW.nil <| CW.sr <| RW.st (Ex.move (.func (.func 136) #[] #[]) rfl) rfl <| RW.st (Ex.move (.slice A11 n11 c11) rfl) rfl <| RW.st (Ex.move (.slice A14 n14 c14) rfl) rfl ?_
   refine RW.callP hM (delta_alike_1_lift (ix x0 v6) (ix x1 v6) hF11 hF14 hm) en136 rfl rfl rfl rfl ?_; rintro _ w H17 _ hle18 ⟨v16, hm, rfl, rfl⟩ hM
   refine RW.st (Ex.not (p := v16 = true) (bvar _)) rfl <| RW.nil ?_
   refine CW.cond_dec (p := ¬ (v16 = true)) rfl (fun hc19 => ?_) (fun hc19 => ?_)
   ·
    replace hm := And.left hm hc19
    refine CW.sr <| RW.st (Ex.assign (.bool false) rfl) rfl <| RW.nil <| CW.ret ?_
    refine bqr (tqr (tqr (bqr (tqr ?_))))
    refine end_tmp (.inl rfl) rfl (.bool false) rfl ?_
    exact ⟨_, _, hM, false, hm, rfl, rfl⟩
   ·
    replace hm := And.right hm hc19
    refine CW.skip <| CW.region ?_
    obtain ⟨hg20, hm⟩ := hm
    refine RW.st (Ex.add rfl rfl hg20.1 hg20.2) rfl <| RW.st (Ex.move (.int .i64 (v6 + 1)) rfl) rfl <| RW.nil ?_
    exact And.intro rfl ⟨k7, ⟨v6 + 1, H17, hle5.trans hle18, slc ⟨rfl, rfl, rfl, rfl, rfl, trivial⟩, hM, (by rw [hrec8]; exact hm)⟩, Nat.lt_succ_self _⟩
  ·
   replace hm := And.right hm hc9
   refine CW.exit ?_
   refine CW.sr <| RW.st (Ex.assign (.bool true) rfl) rfl <| RW.nil <| CW.ret ?_
   refine end_tmp (.inl rfl) rfl (.bool true) rfl ?_
   exact ⟨_, _, hM, true, hm, rfl, rfl⟩
theorem image_mapped_int_api_Sector__image_New_1_lift {H : Hp} (x0 : List Int) {A1 : Option Addr} {n1 c1 : Nat} {s1 : List Value} (hF1 : Fz (α := Int) H A1 n1 c1 x0 s1) {Φ : List (List Sec) → Prop} (hm : image_mapped_int_api_Sector__image_New_1_W x0 Φ) : RetP Tryd.prog 138 #[.slice A1 n1 c1, .func (.func 139) #[] #[]] H (fun H' v L => ∃ y, Φ y ∧ ∃ A44, ∃ n44, ∃ c44, ∃ s44, ∃ rs45, v = .slice A44 n44 c44 ∧ DeepL (α := List Sec) [71] H' s44 y rs45 ∧ n44 = y.length ∧ L = .row (.slice A44 n44 c44) 61 1 n44 s44 :: rs45) := by
 refine RetP.of_code Tryd.func138 rfl (nb rfl) fun w0 hM => ?_
 refine CW.sr <| RW.st (Ex.assign (.slice none 0 0) rfl) rfl <| RW.nil <| CW.sr <| RW.st (Ex.move (.slice A1 n1 c1) rfl) rfl <| RW.st (Ex.lenN st40.1 rfl hF1.hn) rfl ?_
 obtain ⟨hg8, hm⟩ := hm
 obtain ⟨hg9, hm⟩ := hm
 refine RW.makeE (α := List Sec) hM st24 tz61 rfl rfl hg8 hg9 rfl rfl ?_; intro b2 n3 c4 s5 w hd6 hn7 hM
 refine RW.st (Ex.assign (.slice (some ⟨b2, 0, none⟩) n3 c4) rfl) rfl <| RW.nil <| CW.seq <| CW.sr <| RW.st (Ex.move (.slice A1 n1 c1) rfl) rfl <| RW.st (Ex.lenN st40.1 rfl hF1.hn) rfl <| RW.st (Ex.move (.int .i64 0) rfl) rfl <| RW.nil <| CW.block ?_
 obtain ⟨m43, hm⟩ := hm
 skip
 refine CW.loop (β := Nat) (fun n σ w => ∃ (v12 : List (List Sec)), ∃ (A13 : Option Addr), ∃ (n14 : Nat), ∃ (c15 : Nat), ∃ (s16 : List Value), ∃ (rs17 : List Ent), ∃ (v20 : Int), ∃ Hk10, H.le Hk10 ∧ (∃ τ, σ = sl [(1, .func (.func 139) #[] #[]), (5, .slice A13 n14 c15), (11, .slice A1 n1 c1), (12, .int .i64 ((x0.length : Int))), (13, .int .i64 v20)] τ) ∧ Mem w0 H w Hk10 (.row (.slice A13 n14 c15) 61 1 n14 s16 :: rs17) ∧ (DeepL (α := List Sec) [71] Hk10 s16 v12 rs17) ∧ (n14 = v12.length) ∧ LoopN (image_mapped_int_api_Sector__image_New_1_L1 x0 Φ) n (v12, v20)) (fun n => n) m43 ⟨([] : List (List Sec)), (some ⟨b2, 0, none⟩), n3, c4, s5, [], 0, H, (Hp.le.refl _), slc ⟨rfl, rfl, rfl, rfl, rfl, trivial⟩, hM, (DeepL.ofNil (Ts := [71]) hd6), hn7, hm⟩ ?_
 rintro k21 _ w ⟨v12, A13, n14, c15, s16, rs17, v20, Hk10, hle11, ⟨τ, rfl⟩, hM, hd18, hn19, hm⟩
 obtain _ | k21 := k21
 · exact hm.elim
 replace hm : (image_mapped_int_api_Sector__image_New_1_L1 x0 Φ) (v12, v20) (LoopN (image_mapped_int_api_Sector__image_New_1_L1 x0 Φ) k21) := hm
 generalize hrec22 : LoopN (image_mapped_int_api_Sector__image_New_1_L1 x0 Φ) k21 = rec1 at hm
 refine CW.sr <| RW.st (Ex.lss rfl rfl) rfl <| RW.nil <| CW.seq ?_
 refine CW.cond_dec (p := v20 < (x0.length : Int)) rfl (fun hc23 => ?_) (fun hc23 => ?_)
 ·
  replace hm := And.left hm hc23
  refine CW.skip <| CW.seq <| CW.block <| CW.sr ?_
  obtain ⟨hg24, hm⟩ := hm
  refine RW.st (Ex.index st40 rfl rfl v20.toNat (hF1.ne hg24) hg24.nat (hF1.lt hg24)) rfl ?_
  obtain ⟨_, rfl, hx25⟩ := DtL.getI (α := Int) (hF1.mono hle11).dat hg24
  refine RW.st (Ex.loadE hM hle11 hF1.rdc to3 rfl (hx25 0 _ rfl)) rfl <| RW.st (Ex.assign (.int .i64 ((ix x0 v20))) rfl) rfl <| RW.nil <| CW.region <| RW.st (Ex.move (.slice A13 n14 c15) rfl) rfl <| RW.st (Ex.move (.func (.func 139) #[] #[]) rfl) rfl <| RW.st (Ex.move (.int .i64 ((ix x0 v20))) rfl) rfl ?_
  refine RW.callP hM (image_New_1_lift (ix x0 v20) hm) en139 rfl rfl rfl rfl ?_; rintro _ w H27 _ hle28 ⟨v26, hm, A29, n29, c29, s29, rfl, hd30, hn31, rfl⟩ hM
  refine RW.buildSlice hM st24 tz61 [(0, .slice A29 n29 c29)] [.slice A29 n29 c29] (by decide) rfl rfl rfl (by decide) rfl rfl ?_; intro b32 w hM
  obtain ⟨hg38, hm⟩ := hm
  refine RW.appendH (α := List Sec) (xs := v12) (x0 := v26) hM 2 st24 rfl rfl hn19 rfl (fun j u hj => hM.rowCell (k := 0) rfl rfl hj) rfl (oneAll ⟨rfl, trivial⟩) hg38 rfl rfl ?_; intro A34 n35 c36 w hn37 hM
  obtain ⟨s39, rs40, hd41, hM⟩ := Mem.adopt (α := List Sec) (Ts := [71]) (x := v26) [.row (.slice (some ⟨b32, 0, none⟩) 1 1) 61 1 1 [.slice A29 n29 c29], .row (.slice A34 n35 c36) 61 1 n35 (s16 ++ [.slice A29 n29 c29])] (Mem.pickT (L1 := [.row (.slice (some ⟨b32, 0, none⟩) 1 1) 61 1 1 [.slice A29 n29 c29], .row (.slice A29 n29 c29) 71 8 n29 s29, .row (.slice A34 n35 c36) 61 1 n35 (s16 ++ [.slice A29 n29 c29])]) (T := rs17) hM [1, 0, 2] rfl rfl) 1 rfl (hd18.mono hle28) ⟨A29, n29, c29, s29, rfl, rfl, hd30, hn31⟩
  replace hM : Mem w0 H w H27 (.row (.slice A34 n35 c36) 61 1 n35 s39 :: rs40) := Mem.pickT (L1 := [.row (.slice (some ⟨b32, 0, none⟩) 1 1) 61 1 1 [.slice A29 n29 c29], .row (.slice A34 n35 c36) 61 1 n35 s39]) (T := rs40) hM [1] rfl rfl
  refine RW.st (Ex.assign (.slice A34 n35 c36) rfl) rfl <| RW.nil <| CW.region ?_
  obtain ⟨hg42, hm⟩ := hm
  refine RW.st (Ex.add rfl rfl hg42.1 hg42.2) rfl <| RW.st (Ex.move (.int .i64 (v20 + 1)) rfl) rfl <| RW.nil ?_
  exact And.intro rfl ⟨k21, ⟨(v12 ++ [v26]), A34, n35, c36, s39, rs40, v20 + 1, H27, hle11.trans hle28, slc ⟨rfl, rfl, rfl, rfl, rfl, trivial⟩, hM, hd41, hn37, (by rw [hrec22]; exact hm)⟩, Nat.lt_succ_self _⟩
 ·
  replace hm := And.right hm hc23
  refine CW.exit ?_
  refine CW.sr <| RW.st (Ex.move (.slice A13 n14 c15) rfl) rfl <| RW.st (Ex.assign (.slice A13 n14 c15) rfl) rfl <| RW.nil <| CW.ret ?_
  refine end_tmp (.inl rfl) rfl (.slice A13 n14 c15) rfl ?_
  exact ⟨_, _, hM, v12, hm, A13, n14, c15, s16, rs17, rfl, hd18, hn19, rfl⟩
theorem cycle_positions_1_lift {H : Hp} (x0 : Int) {Φ : Bool → Prop} (hm : cycle_positions_1_W x0 Φ) : RetP Tryd.prog 141 #[.int .i64 x0] H (fun _ v L => ∃ y, Φ y ∧ v = .bool y ∧ L = []) := by
 refine RetP.of_code Tryd.func141 rfl (nb rfl) fun w0 hM => ?_
 refine CW.sr <| RW.st (Ex.assign (.bool false) rfl) rfl <| RW.nil <| CW.sr <| RW.st (Ex.move (.int .i64 x0) rfl) rfl ?_
 refine RW.callP hM (cycle_in_lift x0 0 1073741824 hm) en103 rfl rfl rfl rfl ?_; rintro _ w H2 _ hle3 ⟨v1, hm, rfl, rfl⟩ hM
 refine RW.st (Ex.not (p := v1 = true) (bvar _)) rfl <| RW.st (Ex.assign (.bool (decide (¬ (v1 = true)))) rfl) rfl <| RW.nil <| CW.ret ?_
 refine end_tmp (.inl rfl) rfl (.bool (decide (¬ (v1 = true)))) rfl ?_
 exact ⟨_, _, hM, decide (¬ (v1 = true)), hm, rfl, rfl⟩
theorem ref02_both_lift {H : Hp} (x0 : api_Bitmap) (x1 : api_Bitmap) {A1 : Option Addr} {n1 c1 : Nat} {s1 : List Value} (hF1 : Fz (α := BitVec 64) H A1 n1 c1 x0.Words s1) {A2 : Option Addr} {n2 c2 : Nat} {s2 : List Value} (hF2 : Fz (α := BitVec 64) H A2 n2 c2 x1.Words s2) {Φ : Int → Prop} (hm : ref02_both_W x0 x1 Φ) : RetP Tryd.prog 128 #[.agg #[.int .i64 x0.Size, .slice A1 n1 c1], .agg #[.int .i64 x1.Size, .slice A2 n2 c2]] H (fun _ v L => ∃ y, Φ y ∧ v = .int .i64 (y) ∧ L = []) := by
 refine RetP.of_code Tryd.func128 rfl (nb rfl) fun w0 hM => ?_
 refine CW.sr ?_
 refine RW.box hM (.agg #[.int .i64 x0.Size, .slice A1 n1 c1]) [.int .i64 x0.Size, .slice A1 n1 c1] rfl rfl rfl rfl ?_; intro b3 w hM
 refine RW.box hM (.agg #[.int .i64 x1.Size, .slice A2 n2 c2]) [.int .i64 x1.Size, .slice A2 n2 c2] rfl rfl rfl rfl ?_; intro b4 w hM
 refine RW.st (Ex.assign (.int .i64 0) rfl) rfl <| RW.nil <| CW.seq <| CW.sr <| RW.st (Ex.loadA hM 1 [.int .i64 x0.Size, .slice A1 n1 c1] ta65 rfl rfl rfl rfl) rfl ?_
 refine RW.callP hM (ref02_Check_lift x0 hF1 hm) en67 rfl rfl rfl rfl ?_; rintro _ w H14 _ hle15 ⟨v13, hm, rfl, rfl⟩ hM
 refine RW.st (Ex.neq rfl rfl) rfl <| RW.st (Ex.move (.bool (decide (v13 ≠ 0))) rfl) rfl ?_
 refine RW.split 8 (p := v13 ≠ 0) rfl (fun hc16 => ?_) (fun hc16 => ?_)
 ·
  replace hm := And.left hm hc16
  refine RW.pp <| RW.pass rfl rfl <| RW.st (Ex.pickT (.bool true) rfl rfl) rfl <| RW.nil <| CW.cond_true rfl <| CW.sr <| RW.st (Ex.assign (.int .i64 3) rfl) rfl <| RW.nil <| CW.ret ?_
  refine tqr ?_
  refine end_tmp (.inl rfl) rfl (.int .i64 3) rfl ?_
  exact ⟨_, _, (hM.pick [] rfl rfl), 3, hm, rfl, rfl⟩
 ·
  replace hm := And.right hm hc16
  refine RW.st (Ex.loadA hM 0 [.int .i64 x1.Size, .slice A2 n2 c2] ta65 rfl rfl rfl rfl) rfl ?_
  refine RW.callP hM (ref02_Check_lift x1 (hF2.mono hle15) hm) en67 rfl rfl rfl rfl ?_; rintro _ w H18 _ hle19 ⟨v17, hm, rfl, rfl⟩ hM
  refine RW.st (Ex.neq rfl rfl) rfl <| RW.st (Ex.pickF (.bool (decide (v17 ≠ 0))) rfl rfl) rfl <| RW.nil ?_
  refine CW.cond_dec (p := v17 ≠ 0) rfl (fun hc20 => ?_) (fun hc20 => ?_)
  ·
   replace hm := And.left hm hc20
   refine CW.sr <| RW.st (Ex.assign (.int .i64 3) rfl) rfl <| RW.nil <| CW.ret ?_
   refine tqr ?_
   refine end_tmp (.inl rfl) rfl (.int .i64 3) rfl ?_
   exact ⟨_, _, (hM.pick [] rfl rfl), 3, hm, rfl, rfl⟩
  ·
   replace hm := And.right hm hc20
   refine CW.skip <| CW.seq <| CW.sr <| RW.st (Ex.fieldAddr fa65_0 rfl) rfl <| RW.st (Ex.load1 hM 1 to3 rfl rfl rfl) rfl <| RW.st (Ex.fieldAddr fa65_0 rfl) rfl <| RW.st (Ex.load1 hM 0 to3 rfl rfl rfl) rfl <| RW.st (Ex.neq rfl rfl) rfl <| RW.nil ?_
   refine CW.cond_dec (p := x0.Size ≠ x1.Size) rfl (fun hc21 => ?_) (fun hc21 => ?_)
   ·
    replace hm := And.left hm hc21
    refine CW.sr <| RW.st (Ex.assign (.int .i64 22) rfl) rfl <| RW.nil <| CW.ret ?_
    refine tqr ?_
    refine end_tmp (.inl rfl) rfl (.int .i64 22) rfl ?_
    exact ⟨_, _, (hM.pick [] rfl rfl), 22, hm, rfl, rfl⟩
   ·
    replace hm := And.right hm hc21
    refine CW.skip <| CW.sr <| RW.st (Ex.assign (.int .i64 0) rfl) rfl <| RW.nil <| CW.ret ?_
    refine end_tmp (.inl rfl) rfl (.int .i64 0) rfl ?_
    exact ⟨_, _, (hM.pick [] rfl rfl), 0, hm, rfl, rfl⟩
theorem ref43_Same_lift {H : Hp} (x0 : api_Tracker) (x1 : api_Tracker) {A1 : Option Addr} {n1 c1 : Nat} {s1 : List Value} (hF1 : Fz (α := Int) H A1 n1 c1 x0.Sizes s1) {A2 : Option Addr} {n2 c2 : Nat} {s2 : List Value} (hF2 : Fz (α := api_Peer) H A2 n2 c2 x0.Peers s2) {A3 : Option Addr} {n3 c3 : Nat} {s3 : List Value} (hF3 : Fz (α := Int) H A3 n3 c3 x1.Sizes s3) {A4 : Option Addr} {n4 c4 : Nat} {s4 : List Value} (hF4 : Fz (α := api_Peer) H A4 n4 c4 x1.Peers s4) {Φ : Bool → Prop} (hm : ref43_Same_W x0 x1 Φ) : RetP Tryd.prog 36 #[.agg #[.slice A1 n1 c1, .slice A2 n2 c2], .agg #[.slice A3 n3 c3, .slice A4 n4 c4]] H (fun _ v L => ∃ y, Φ y ∧ v = .bool y ∧ L = []) := by
 refine RetP.of_code Tryd.func36 rfl (nb rfl) fun w0 hM => ?_
 refine CW.sr ?_
 refine RW.box hM (.agg #[.slice A1 n1 c1, .slice A2 n2 c2]) [.slice A1 n1 c1, .slice A2 n2 c2] rfl rfl rfl rfl ?_; intro b5 w hM
 refine RW.box hM (.agg #[.slice A3 n3 c3, .slice A4 n4 c4]) [.slice A3 n3 c3, .slice A4 n4 c4] rfl rfl rfl rfl ?_; intro b6 w hM
 refine RW.st (Ex.assign (.bool false) rfl) rfl <| RW.nil ?_
 refine CW.cut (fun D σ w => D = [] ∧ ∃ Hk7, H.le Hk7 ∧ (∃ τ, σ = sl [(2, .pointer (some ⟨b5, 0, none⟩)), (3, .pointer (some ⟨b6, 0, none⟩))] τ) ∧ Mem w0 H w Hk7 [.box b5 85 [.slice A1 n1 c1, .slice A2 n2 c2], .box b6 85 [.slice A3 n3 c3, .slice A4 n4 c4]] ∧ ref43_Same_J1 x0 x1 Φ) ?_ ?_
 ·
  refine CW.sr <| RW.st (Ex.fieldAddr fa85_0 rfl) rfl <| RW.st (Ex.load1 hM 1 to40 rfl rfl rfl) rfl <| RW.st (Ex.fieldAddr fa85_0 rfl) rfl <| RW.st (Ex.load1 hM 0 to40 rfl rfl rfl) rfl ?_
  refine RW.callP hM (ref23_SameInts_lift x0.Sizes x1.Sizes hF1 hF3 hm) en58 rfl rfl rfl rfl ?_; rintro _ w H74 _ hle75 ⟨v73, hm, rfl, rfl⟩ hM
  refine RW.st (Ex.not (p := v73 = true) (bvar _)) rfl <| RW.st (Ex.move (.bool (decide (¬ (v73 = true)))) rfl) rfl ?_
  refine RW.split 14 (p := ¬ (v73 = true)) rfl (fun hc76 => ?_) (fun hc76 => ?_)
  ·
   replace hm := And.left hm hc76
   refine RW.pp <| RW.pp <| RW.pp <| RW.pass rfl rfl <| RW.st (Ex.pickT (.bool true) rfl rfl) rfl <| RW.nil <| CW.cond_true rfl <| CW.sr <| RW.st (Ex.assign (.bool false) rfl) rfl <| RW.nil ?_
   refine CW.ret ?_
   refine tqr ?_
   refine end_tmp (.inl rfl) rfl (.bool false) rfl ?_
   exact ⟨_, _, (hM.pick [] rfl rfl), false, hm, rfl, rfl⟩
  ·
   replace hm := And.right hm hc76
   refine RW.st (Ex.fieldAddr fa85_1 rfl) rfl <| RW.st (Ex.load1 hM 1 to83 rfl rfl rfl) rfl <| RW.st (Ex.lenN st83.1 rfl hF2.hn) rfl <| RW.st (Ex.fieldAddr fa85_1 rfl) rfl <| RW.st (Ex.load1 hM 0 to83 rfl rfl rfl) rfl <| RW.st (Ex.lenN st83.1 rfl hF4.hn) rfl <| RW.st (Ex.neq rfl rfl) rfl <| RW.st (Ex.pickF (.bool (decide ((x0.Peers.length : Int) ≠ (x1.Peers.length : Int)))) rfl rfl) rfl <| RW.nil ?_
   refine CW.cond_dec (p := (x0.Peers.length : Int) ≠ (x1.Peers.length : Int)) rfl (fun hc77 => ?_) (fun hc77 => ?_)
   ·
    replace hm := And.left hm hc77
    refine CW.sr <| RW.st (Ex.assign (.bool false) rfl) rfl <| RW.nil <| CW.ret ?_
    refine tqr ?_
    refine end_tmp (.inl rfl) rfl (.bool false) rfl ?_
    exact ⟨_, _, (hM.pick [] rfl rfl), false, hm, rfl, rfl⟩
   ·
    replace hm := And.right hm hc77
    refine CW.skip ?_
    exact And.intro rfl ⟨H74, hle75, slc ⟨rfl, rfl, trivial⟩, (hM.pick [1, 0] rfl rfl), hm⟩
 rintro _ _ w ⟨rfl, Hk7, hle8, ⟨τ, rfl⟩, hM, hm⟩
 refine CW.seq <| CW.sr <| RW.st (Ex.assign (.int .i64 0) rfl) rfl <| RW.nil <| CW.block ?_
 obtain ⟨m68, hm⟩ := hm
 skip
 refine CW.loop (β := Nat) (fun n σ w => ∃ (v11 : Int), ∃ Hk9, Hk7.le Hk9 ∧ (∃ τ, σ = sl [(2, .pointer (some ⟨b5, 0, none⟩)), (3, .pointer (some ⟨b6, 0, none⟩)), (5, .int .i64 v11)] τ) ∧ Mem w0 H w Hk9 [.box b5 85 [.slice A1 n1 c1, .slice A2 n2 c2], .box b6 85 [.slice A3 n3 c3, .slice A4 n4 c4]] ∧ LoopN (ref43_Same_L2 x0 x1 Φ) n (v11)) (fun n => n) m68 ⟨0, Hk7, (Hp.le.refl _), slc ⟨rfl, rfl, rfl, trivial⟩, hM, hm⟩ ?_
 rintro k12 _ w ⟨v11, Hk9, hle10, ⟨τ, rfl⟩, hM, hm⟩
 obtain _ | k12 := k12
 · exact hm.elim
 replace hm : (ref43_Same_L2 x0 x1 Φ) (v11) (LoopN (ref43_Same_L2 x0 x1 Φ) k12) := hm
 generalize hrec13 : LoopN (ref43_Same_L2 x0 x1 Φ) k12 = rec2 at hm
 refine CW.seq <| CW.sr <| RW.st (Ex.move (.int .i64 v11) rfl) rfl <| RW.st (Ex.fieldAddr fa85_1 rfl) rfl <| RW.st (Ex.load1 hM 0 to83 rfl rfl rfl) rfl <| RW.st (Ex.lenN st83.1 rfl hF2.hn) rfl <| RW.st (Ex.lss rfl rfl) rfl <| RW.nil ?_
 refine CW.cond_dec (p := v11 < (x0.Peers.length : Int)) rfl (fun hc14 => ?_) (fun hc14 => ?_)
 ·
  replace hm := And.left hm hc14
  refine CW.skip <| CW.seq <| CW.block <| CW.seq ?_
  obtain ⟨hg18, hm⟩ := hm
  obtain ⟨_, ⟨A19, n19, c19, s19, rfl, hF19⟩, hx20⟩ := DtL.getI (α := api_Peer) (hF2.mono (hle8.trans hle10)).dat hg18
  obtain ⟨hg21, hm⟩ := hm
  obtain ⟨_, ⟨A22, n22, c22, s22, rfl, hF22⟩, hx23⟩ := DtL.getI (α := api_Peer) (hF4.mono (hle8.trans hle10)).dat hg21
  refine CW.drawL 14 [] [(fun Hq us E => us = [.pointer (some ⟨b5, 1, none⟩)] ∧ E = [] ∧ True), (fun Hq us E => us = [.slice A2 n2 c2] ∧ E = [] ∧ True), (fun Hq us E => us = [.int .i64 v11] ∧ E = [] ∧ True), (fun Hq us E => us = [elp A2 (v11.toNat * 3 + 0)] ∧ E = [] ∧ True), (fun Hq us E => us = [.agg #[.int .i64 ((ix x0.Peers v11).Site), .int .i64 ((ix x0.Peers v11).Common), .slice A19 n19 c19]] ∧ E = [] ∧ True), (fun Hq us E => us = [.pointer (some ⟨b6, 1, none⟩)] ∧ E = [] ∧ True), (fun Hq us E => us = [.slice A4 n4 c4] ∧ E = [] ∧ True), (fun Hq us E => us = [.int .i64 v11] ∧ E = [] ∧ True), (fun Hq us E => us = [elp A4 (v11.toNat * 3 + 0)] ∧ E = [] ∧ True), (fun Hq us E => us = [.agg #[.int .i64 ((ix x1.Peers v11).Site), .int .i64 ((ix x1.Peers v11).Common), .slice A22 n22 c22]] ∧ E = [] ∧ True), (fun Hq us E => ∃ (b24 : Nat), us = [.pointer (some ⟨b24, 0, none⟩)] ∧ E = [.box b24 142 [.int .i64 0, .int .i64 0, .slice none 0 0]] ∧ True), (fun Hq us E => ∃ (b25 : Nat), us = [.pointer (some ⟨b25, 0, none⟩)] ∧ E = [.box b25 142 [.int .i64 0, .int .i64 0, .slice none 0 0]] ∧ True), (fun Hq us E => ∃ (b24 : Nat), us = [.pointer (some ⟨b24, 0, none⟩)] ∧ E = [.box b24 142 [.int .i64 ((ix x0.Peers v11).Site), .int .i64 ((ix x0.Peers v11).Common), .slice A19 n19 c19]] ∧ True), (fun Hq us E => ∃ (b25 : Nat), us = [.pointer (some ⟨b25, 0, none⟩)] ∧ E = [.box b25 142 [.int .i64 ((ix x1.Peers v11).Site), .int .i64 ((ix x1.Peers v11).Common), .slice A22 n22 c22]] ∧ True)]
   (fun k => [[0], [1], [2], [3], [4], [5], [6], [7], [8], [9], [10], [11], [10], [11]].getD k []) (fun k => [none, none, none, none, none, none, none, none, none, none, none, none, some 10, some 11].getD k none) (by kernel_rfl) hM (by kernel_rfl) (by kernel_rfl) (by kernel_rfl) rfl (by simp only [List.forall_mem_cons]; exact ⟨fun _ _ _ _ hle ⟨e1, e2, _⟩ => ⟨e1, e2, trivial⟩, fun _ _ _ _ hle ⟨e1, e2, _⟩ => ⟨e1, e2, trivial⟩, fun _ _ _ _ hle ⟨e1, e2, _⟩ => ⟨e1, e2, trivial⟩, fun _ _ _ _ hle ⟨e1, e2, _⟩ => ⟨e1, e2, trivial⟩, fun _ _ _ _ hle ⟨e1, e2, _⟩ => ⟨e1, e2, trivial⟩, fun _ _ _ _ hle ⟨e1, e2, _⟩ => ⟨e1, e2, trivial⟩, fun _ _ _ _ hle ⟨e1, e2, _⟩ => ⟨e1, e2, trivial⟩, fun _ _ _ _ hle ⟨e1, e2, _⟩ => ⟨e1, e2, trivial⟩, fun _ _ _ _ hle ⟨e1, e2, _⟩ => ⟨e1, e2, trivial⟩, fun _ _ _ _ hle ⟨e1, e2, _⟩ => ⟨e1, e2, trivial⟩, fun _ _ _ _ hle ⟨b24, e1, e2, _⟩ => ⟨b24, e1, e2, trivial⟩, fun _ _ _ _ hle ⟨b25, e1, e2, _⟩ => ⟨b25, e1, e2, trivial⟩, fun _ _ _ _ hle ⟨b24, e1, e2, _⟩ => ⟨b24, e1, e2, trivial⟩, fun _ _ _ _ hle ⟨b25, e1, e2, _⟩ => ⟨b25, e1, e2, trivial⟩, by simp⟩) ⟨?_, ?_, ?_, ?_, ?_, ?_, ?_, ?_, ?_, ?_, ?_, ?_, ?_, ?_, trivial⟩ ?_
  ·
   intro H' σ' w R E hle hMR hE0 hE hp hf
   obtain rfl := hE0 rfl
   obtain ⟨τ, rfl⟩ := slc (σ := σ') (l := [(2, .pointer (some ⟨b5, 0, none⟩))]) ⟨(hf 2 (by kernel_rfl)).trans rfl, trivial⟩
   have hM := Mem.subR (R := R) hMR
   exact RW.step (Ex.fieldAddr fa85_1 rfl) rfl rfl rfl (RW.nil ⟨rfl, rfl, _, rfl, H', [], Hp.le.refl _, hMR, rfl, rfl, trivial⟩)
  ·
   intro H' σ' w R E hle hMR hE0 hE hp hf
   obtain rfl := hE0 rfl
   obtain ⟨_, hg⟩ := hp 0 (by decide) (by kernel_rfl)
   obtain ⟨e26, _, _⟩ := hg.get rfl
   have e27 : σ' 30 = .pointer (some ⟨b5, 1, none⟩) := (List.cons.inj e26).1
   obtain ⟨τ, rfl⟩ := slc (σ := σ') (l := [(30, .pointer (some ⟨b5, 1, none⟩))]) ⟨e27, trivial⟩
   have hM := Mem.subR (R := R) hMR
   exact RW.step (Ex.load1 hM 0 to83 rfl rfl rfl) rfl rfl rfl (RW.nil ⟨rfl, rfl, _, rfl, H', [], Hp.le.refl _, hMR, rfl, rfl, trivial⟩)
  ·
   intro H' σ' w R E hle hMR hE0 hE hp hf
   obtain rfl := hE0 rfl
   obtain ⟨τ, rfl⟩ := slc (σ := σ') (l := [(5, .int .i64 v11)]) ⟨(hf 5 (by kernel_rfl)).trans rfl, trivial⟩
   have hM := Mem.subR (R := R) hMR
   exact RW.step (Ex.move (.int .i64 v11) rfl) rfl rfl rfl (RW.nil ⟨rfl, rfl, _, rfl, H', [], Hp.le.refl _, hMR, rfl, rfl, trivial⟩)
  ·
   intro H' σ' w R E hle hMR hE0 hE hp hf
   obtain rfl := hE0 rfl
   obtain ⟨_, hg⟩ := hp 1 (by decide) (by kernel_rfl)
   obtain ⟨e28, _, _⟩ := hg.get rfl
   have e29 : σ' 31 = .slice A2 n2 c2 := (List.cons.inj e28).1
   obtain ⟨_, hg⟩ := hp 2 (by decide) (by kernel_rfl)
   obtain ⟨e30, _, _⟩ := hg.get rfl
   have e31 : σ' 32 = .int .i64 v11 := (List.cons.inj e30).1
   obtain ⟨τ, rfl⟩ := slc (σ := σ') (l := [(31, .slice A2 n2 c2), (32, .int .i64 v11)]) ⟨e29, e31, trivial⟩
   have hM := Mem.subR (R := R) hMR
   exact RW.step (Ex.index st83 rfl rfl v11.toNat (hF2.ne hg18) hg18.nat (hF2.lt hg18)) rfl rfl rfl (RW.nil ⟨rfl, rfl, _, rfl, H', [], Hp.le.refl _, hMR, rfl, rfl, trivial⟩)
  ·
   intro H' σ' w R E hle hMR hE0 hE hp hf
   obtain rfl := hE0 rfl
   obtain ⟨_, hg⟩ := hp 3 (by decide) (by kernel_rfl)
   obtain ⟨e32, _, _⟩ := hg.get rfl
   have e33 : σ' 33 = elp A2 (v11.toNat * 3 + 0) := (List.cons.inj e32).1
   obtain ⟨τ, rfl⟩ := slc (σ := σ') (l := [(33, elp A2 (v11.toNat * 3 + 0))]) ⟨e33, trivial⟩
   have hM := Mem.subR (R := R) hMR
   exact RW.step (Ex.loadEA hM ((hle8.trans hle10).trans hle) hF2.rdc [.int .i64 ((ix x0.Peers v11).Site), .int .i64 ((ix x0.Peers v11).Common), .slice A19 n19 c19] ta142 rfl (hF2.ne hg18) rfl (chunk_sub (off := 0) (n := 3) hx20 rfl)) rfl rfl rfl (RW.nil ⟨rfl, rfl, _, rfl, H', [], Hp.le.refl _, hMR, rfl, rfl, trivial⟩)
  ·
   intro H' σ' w R E hle hMR hE0 hE hp hf
   obtain rfl := hE0 rfl
   obtain ⟨τ, rfl⟩ := slc (σ := σ') (l := [(3, .pointer (some ⟨b6, 0, none⟩))]) ⟨(hf 3 (by kernel_rfl)).trans rfl, trivial⟩
   have hM := Mem.subR (R := R) hMR
   exact RW.step (Ex.fieldAddr fa85_1 rfl) rfl rfl rfl (RW.nil ⟨rfl, rfl, _, rfl, H', [], Hp.le.refl _, hMR, rfl, rfl, trivial⟩)
  ·
   intro H' σ' w R E hle hMR hE0 hE hp hf
   obtain rfl := hE0 rfl
   obtain ⟨_, hg⟩ := hp 5 (by decide) (by kernel_rfl)
   obtain ⟨e34, _, _⟩ := hg.get rfl
   have e35 : σ' 35 = .pointer (some ⟨b6, 1, none⟩) := (List.cons.inj e34).1
   obtain ⟨τ, rfl⟩ := slc (σ := σ') (l := [(35, .pointer (some ⟨b6, 1, none⟩))]) ⟨e35, trivial⟩
   have hM := Mem.subR (R := R) hMR
   exact RW.step (Ex.load1 hM 1 to83 rfl rfl rfl) rfl rfl rfl (RW.nil ⟨rfl, rfl, _, rfl, H', [], Hp.le.refl _, hMR, rfl, rfl, trivial⟩)
  ·
   intro H' σ' w R E hle hMR hE0 hE hp hf
   obtain rfl := hE0 rfl
   obtain ⟨τ, rfl⟩ := slc (σ := σ') (l := [(5, .int .i64 v11)]) ⟨(hf 5 (by kernel_rfl)).trans rfl, trivial⟩
   have hM := Mem.subR (R := R) hMR
   exact RW.step (Ex.move (.int .i64 v11) rfl) rfl rfl rfl (RW.nil ⟨rfl, rfl, _, rfl, H', [], Hp.le.refl _, hMR, rfl, rfl, trivial⟩)
  ·
   intro H' σ' w R E hle hMR hE0 hE hp hf
   obtain rfl := hE0 rfl
   obtain ⟨_, hg⟩ := hp 6 (by decide) (by kernel_rfl)
   obtain ⟨e36, _, _⟩ := hg.get rfl
   have e37 : σ' 36 = .slice A4 n4 c4 := (List.cons.inj e36).1
   obtain ⟨_, hg⟩ := hp 7 (by decide) (by kernel_rfl)
   obtain ⟨e38, _, _⟩ := hg.get rfl
   have e39 : σ' 37 = .int .i64 v11 := (List.cons.inj e38).1
   obtain ⟨τ, rfl⟩ := slc (σ := σ') (l := [(36, .slice A4 n4 c4), (37, .int .i64 v11)]) ⟨e37, e39, trivial⟩
   have hM := Mem.subR (R := R) hMR
   exact RW.step (Ex.index st83 rfl rfl v11.toNat (hF4.ne hg21) hg21.nat (hF4.lt hg21)) rfl rfl rfl (RW.nil ⟨rfl, rfl, _, rfl, H', [], Hp.le.refl _, hMR, rfl, rfl, trivial⟩)
  ·
   intro H' σ' w R E hle hMR hE0 hE hp hf
   obtain rfl := hE0 rfl
   obtain ⟨_, hg⟩ := hp 8 (by decide) (by kernel_rfl)
   obtain ⟨e40, _, _⟩ := hg.get rfl
   have e41 : σ' 38 = elp A4 (v11.toNat * 3 + 0) := (List.cons.inj e40).1
   obtain ⟨τ, rfl⟩ := slc (σ := σ') (l := [(38, elp A4 (v11.toNat * 3 + 0))]) ⟨e41, trivial⟩
   have hM := Mem.subR (R := R) hMR
   exact RW.step (Ex.loadEA hM ((hle8.trans hle10).trans hle) hF4.rdc [.int .i64 ((ix x1.Peers v11).Site), .int .i64 ((ix x1.Peers v11).Common), .slice A22 n22 c22] ta142 rfl (hF4.ne hg21) rfl (chunk_sub (off := 0) (n := 3) hx23 rfl)) rfl rfl rfl (RW.nil ⟨rfl, rfl, _, rfl, H', [], Hp.le.refl _, hMR, rfl, rfl, trivial⟩)
  ·
   intro H' σ' w R E hle hMR hE0 hE hp hf
   obtain rfl := hE0 rfl
   obtain ⟨τ, rfl⟩ := slc (σ := σ') (l := []) trivial
   have hM := Mem.subR (R := R) hMR
   refine RW.alloc hMR tz142 [.int .i64 0, .int .i64 0, .slice none 0 0] rfl rfl rfl ?_; intro b24 w hMR
   exact RW.nil ⟨rfl, rfl, _, rfl, H', [.box b24 142 [.int .i64 0, .int .i64 0, .slice none 0 0]], Hp.le.refl _, hMR, b24, rfl, rfl, trivial⟩
  ·
   intro H' σ' w R E hle hMR hE0 hE hp hf
   obtain rfl := hE0 rfl
   obtain ⟨τ, rfl⟩ := slc (σ := σ') (l := []) trivial
   have hM := Mem.subR (R := R) hMR
   refine RW.alloc hMR tz142 [.int .i64 0, .int .i64 0, .slice none 0 0] rfl rfl rfl ?_; intro b25 w hMR
   exact RW.nil ⟨rfl, rfl, _, rfl, H', [.box b25 142 [.int .i64 0, .int .i64 0, .slice none 0 0]], Hp.le.refl _, hMR, b25, rfl, rfl, trivial⟩
  ·
   intro H' σ' w R E hle hMR hE0 hE hp hf
   obtain ⟨b24, e42, rfl, _⟩ := (hE 10 rfl).get rfl
   have e43 : σ' 6 = .pointer (some ⟨b24, 0, none⟩) := (List.cons.inj e42).1
   obtain ⟨_, hg⟩ := hp 4 (by decide) (by kernel_rfl)
   obtain ⟨e44, _, _⟩ := hg.get rfl
   have e45 : σ' 34 = .agg #[.int .i64 ((ix x0.Peers v11).Site), .int .i64 ((ix x0.Peers v11).Common), .slice A19 n19 c19] := (List.cons.inj e44).1
   obtain ⟨τ, rfl⟩ := slc (σ := σ') (l := [(34, .agg #[.int .i64 ((ix x0.Peers v11).Site), .int .i64 ((ix x0.Peers v11).Common), .slice A19 n19 c19]), (6, .pointer (some ⟨b24, 0, none⟩))]) ⟨e45, e43, trivial⟩
   refine RW.store hMR 0 (.agg #[.int .i64 ((ix x0.Peers v11).Site), .int .i64 ((ix x0.Peers v11).Common), .slice A19 n19 c19]) [.int .i64 ((ix x0.Peers v11).Site), .int .i64 ((ix x0.Peers v11).Common), .slice A19 n19 c19] [.int .i64 ((ix x0.Peers v11).Site), .int .i64 ((ix x0.Peers v11).Common), .slice A19 n19 c19] sz142 rfl rfl rfl (oneAll ⟨rfl, rfl, rfl, trivial⟩) rfl (nb rfl) rfl (.box b24 142 [.int .i64 ((ix x0.Peers v11).Site), .int .i64 ((ix x0.Peers v11).Common), .slice A19 n19 c19] :: (R ++ [.box b5 85 [.slice A1 n1 c1, .slice A2 n2 c2], .box b6 85 [.slice A3 n3 c3, .slice A4 n4 c4]])) rfl rfl rfl ?_; intro w hMR
   exact RW.nil ⟨rfl, rfl, _, rfl, H', [.box b24 142 [.int .i64 ((ix x0.Peers v11).Site), .int .i64 ((ix x0.Peers v11).Common), .slice A19 n19 c19]], Hp.le.refl _, hMR, b24, rfl, rfl, trivial⟩
  ·
   intro H' σ' w R E hle hMR hE0 hE hp hf
   obtain ⟨b25, e46, rfl, _⟩ := (hE 11 rfl).get rfl
   have e47 : σ' 7 = .pointer (some ⟨b25, 0, none⟩) := (List.cons.inj e46).1
   obtain ⟨_, hg⟩ := hp 9 (by decide) (by kernel_rfl)
   obtain ⟨e48, _, _⟩ := hg.get rfl
   have e49 : σ' 39 = .agg #[.int .i64 ((ix x1.Peers v11).Site), .int .i64 ((ix x1.Peers v11).Common), .slice A22 n22 c22] := (List.cons.inj e48).1
   obtain ⟨τ, rfl⟩ := slc (σ := σ') (l := [(39, .agg #[.int .i64 ((ix x1.Peers v11).Site), .int .i64 ((ix x1.Peers v11).Common), .slice A22 n22 c22]), (7, .pointer (some ⟨b25, 0, none⟩))]) ⟨e49, e47, trivial⟩
   refine RW.store hMR 0 (.agg #[.int .i64 ((ix x1.Peers v11).Site), .int .i64 ((ix x1.Peers v11).Common), .slice A22 n22 c22]) [.int .i64 ((ix x1.Peers v11).Site), .int .i64 ((ix x1.Peers v11).Common), .slice A22 n22 c22] [.int .i64 ((ix x1.Peers v11).Site), .int .i64 ((ix x1.Peers v11).Common), .slice A22 n22 c22] sz142 rfl rfl rfl (oneAll ⟨rfl, rfl, rfl, trivial⟩) rfl (nb rfl) rfl (.box b25 142 [.int .i64 ((ix x1.Peers v11).Site), .int .i64 ((ix x1.Peers v11).Common), .slice A22 n22 c22] :: (R ++ [.box b5 85 [.slice A1 n1 c1, .slice A2 n2 c2], .box b6 85 [.slice A3 n3 c3, .slice A4 n4 c4]])) rfl rfl rfl ?_; intro w hMR
   exact RW.nil ⟨rfl, rfl, _, rfl, H', [.box b25 142 [.int .i64 ((ix x1.Peers v11).Site), .int .i64 ((ix x1.Peers v11).Common), .slice A22 n22 c22]], Hp.le.refl _, hMR, b25, rfl, rfl, trivial⟩
  ·
   intro HR8 σ' w X miss hms hleR hM hX hX0 hf
   simp [subs] at hms
   rcases hms with rfl
   ·
    obtain ⟨H50, hH8⟩ : ∃ x, x = HR8 := ⟨_, rfl⟩
    subst hH8
    have hle51 := hleR
    obtain ⟨_, g0, y0⟩ := hX 0 (by decide) (by kernel_rfl)
    obtain ⟨_, rfl, _⟩ := g0.get rfl
    replace y0 : X 0 = [] := y0
    obtain ⟨_, g0, y1⟩ := hX 1 (by decide) (by kernel_rfl)
    obtain ⟨_, rfl, _⟩ := g0.get rfl
    replace y1 : X 1 = [] := y1
    obtain ⟨_, g0, y2⟩ := hX 2 (by decide) (by kernel_rfl)
    obtain ⟨_, rfl, _⟩ := g0.get rfl
    replace y2 : X 2 = [] := y2
    obtain ⟨_, g0, y3⟩ := hX 3 (by decide) (by kernel_rfl)
    obtain ⟨_, rfl, _⟩ := g0.get rfl
    replace y3 : X 3 = [] := y3
    obtain ⟨_, g0, y4⟩ := hX 4 (by decide) (by kernel_rfl)
    obtain ⟨_, rfl, _⟩ := g0.get rfl
    replace y4 : X 4 = [] := y4
    obtain ⟨_, g0, y5⟩ := hX 5 (by decide) (by kernel_rfl)
    obtain ⟨_, rfl, _⟩ := g0.get rfl
    replace y5 : X 5 = [] := y5
    obtain ⟨_, g0, y6⟩ := hX 6 (by decide) (by kernel_rfl)
    obtain ⟨_, rfl, _⟩ := g0.get rfl
    replace y6 : X 6 = [] := y6
    obtain ⟨_, g0, y7⟩ := hX 7 (by decide) (by kernel_rfl)
    obtain ⟨_, rfl, _⟩ := g0.get rfl
    replace y7 : X 7 = [] := y7
    obtain ⟨_, g0, y8⟩ := hX 8 (by decide) (by kernel_rfl)
    obtain ⟨_, rfl, _⟩ := g0.get rfl
    replace y8 : X 8 = [] := y8
    obtain ⟨_, g0, y9⟩ := hX 9 (by decide) (by kernel_rfl)
    obtain ⟨_, rfl, _⟩ := g0.get rfl
    replace y9 : X 9 = [] := y9
    obtain ⟨_, g0, y10⟩ := hX 10 (by decide) (by kernel_rfl)
    obtain ⟨_, _, rfl, _⟩ := g0.get rfl
    replace y10 : X 10 = [] := y10
    obtain ⟨_, g0, y11⟩ := hX 11 (by decide) (by kernel_rfl)
    obtain ⟨_, _, rfl, _⟩ := g0.get rfl
    replace y11 : X 11 = [] := y11
    obtain ⟨_, g0, y12⟩ := hX 12 (by decide) (by kernel_rfl)
    obtain ⟨b24, e52, rfl, _⟩ := g0.get rfl
    have e53 : σ' 6 = .pointer (some ⟨b24, 0, none⟩) := (List.cons.inj e52).1
    replace y12 : X 12 = [.box b24 142 [.int .i64 ((ix x0.Peers v11).Site), .int .i64 ((ix x0.Peers v11).Common), .slice A19 n19 c19]] := y12
    obtain ⟨_, g0, y13⟩ := hX 13 (by decide) (by kernel_rfl)
    obtain ⟨b25, e54, rfl, _⟩ := g0.get rfl
    have e55 : σ' 7 = .pointer (some ⟨b25, 0, none⟩) := (List.cons.inj e54).1
    replace y13 : X 13 = [.box b25 142 [.int .i64 ((ix x1.Peers v11).Site), .int .i64 ((ix x1.Peers v11).Common), .slice A22 n22 c22]] := y13
    have hfl : flatX X 14 = [.box b24 142 [.int .i64 ((ix x0.Peers v11).Site), .int .i64 ((ix x0.Peers v11).Common), .slice A19 n19 c19], .box b25 142 [.int .i64 ((ix x1.Peers v11).Site), .int .i64 ((ix x1.Peers v11).Common), .slice A22 n22 c22]] := by
     show X 0 ++ (X 1 ++ (X 2 ++ (X 3 ++ (X 4 ++ (X 5 ++ (X 6 ++ (X 7 ++ (X 8 ++ (X 9 ++ (X 10 ++ (X 11 ++ (X 12 ++ (X 13 ++ []))))))))))))) = _
     rw [y0, y1, y2, y3, y4, y5, y6, y7, y8, y9, y10, y11, y12, y13]; rfl
    rw [hfl] at hM
    obtain ⟨τ, rfl⟩ := slc (σ := σ') (l := [(2, .pointer (some ⟨b5, 0, none⟩)), (3, .pointer (some ⟨b6, 0, none⟩)), (5, .int .i64 v11), (6, .pointer (some ⟨b24, 0, none⟩)), (7, .pointer (some ⟨b25, 0, none⟩))]) ⟨(hf 2 (by kernel_rfl)).trans rfl, (hf 3 (by kernel_rfl)).trans rfl, (hf 5 (by kernel_rfl)).trans rfl, e53, e55, trivial⟩
    change RA _ _ _ _ _ _ _ (sl [(2, .pointer (some ⟨b5, 0, none⟩)), (3, .pointer (some ⟨b6, 0, none⟩)), (5, .int .i64 v11), (6, .pointer (some ⟨b24, 0, none⟩)), (7, .pointer (some ⟨b25, 0, none⟩))] τ) _ 14 _
    refine RA.done (by kernel_rfl) ?_
    refine CW.sr <| RW.st (Ex.fieldAddr fa142_0 rfl) rfl <| RW.st (Ex.load1 hM 0 to3 rfl rfl rfl) rfl <| RW.st (Ex.fieldAddr fa142_0 rfl) rfl <| RW.st (Ex.load1 hM 1 to3 rfl rfl rfl) rfl <| RW.st (Ex.neq rfl rfl) rfl <| RW.st (Ex.move (.bool (decide (((ix x0.Peers v11).Site) ≠ ((ix x1.Peers v11).Site)))) rfl) rfl ?_
    refine RW.split 45 (p := ((ix x0.Peers v11).Site) ≠ ((ix x1.Peers v11).Site)) rfl (fun hc61 => ?_) (fun hc61 => ?_)
    ·
     replace hm := And.left hm hc61
     refine RW.pp <| RW.pp <| RW.pass rfl rfl <| RW.st (Ex.pickT (.bool true) rfl rfl) rfl <| RW.st (Ex.move (.bool true) rfl) rfl <| RW.pp <| RW.pp <| RW.pp <| RW.st (Ex.pickT (.bool true) rfl rfl) rfl ?_
     refine RW.nil <| CW.cond_true rfl <| CW.sr <| RW.st (Ex.assign (.bool false) rfl) rfl <| RW.nil <| CW.ret ?_
     refine bqr (tqr (tqr (bqr (tqr ?_))))
     refine end_tmp (.inl rfl) rfl (.bool false) rfl ?_
     exact ⟨_, _, (hM.pick [] rfl rfl), false, hm, rfl, rfl⟩
    ·
     replace hm := And.right hm hc61
     refine RW.st (Ex.fieldAddr fa142_1 rfl) rfl <| RW.st (Ex.load1 hM 0 to3 rfl rfl rfl) rfl <| RW.st (Ex.fieldAddr fa142_1 rfl) rfl <| RW.st (Ex.load1 hM 1 to3 rfl rfl rfl) rfl <| RW.st (Ex.neq rfl rfl) rfl <| RW.st (Ex.pickF (.bool (decide (((ix x0.Peers v11).Common) ≠ ((ix x1.Peers v11).Common)))) rfl rfl) rfl <| RW.st (Ex.move (.bool (decide (((ix x0.Peers v11).Common) ≠ ((ix x1.Peers v11).Common)))) rfl) rfl ?_
     refine RW.split 52 (p := ((ix x0.Peers v11).Common) ≠ ((ix x1.Peers v11).Common)) rfl (fun hc62 => ?_) (fun hc62 => ?_)
     ·
      replace hm := And.left hm hc62
      refine RW.pp <| RW.pp <| RW.pp <| RW.st (Ex.pickT (.bool true) rfl rfl) rfl <| RW.nil <| CW.cond_true rfl <| CW.sr <| RW.st (Ex.assign (.bool false) rfl) rfl <| RW.nil <| CW.ret ?_
      refine bqr (tqr (tqr (bqr (tqr ?_))))
      refine end_tmp (.inl rfl) rfl (.bool false) rfl ?_
      exact ⟨_, _, (hM.pick [] rfl rfl), false, hm, rfl, rfl⟩
     ·
      replace hm := And.right hm hc62
      refine RW.st (Ex.fieldAddr fa142_2 rfl) rfl <| RW.st (Ex.load1 hM 0 to23 rfl rfl rfl) rfl <| RW.st (Ex.fieldAddr fa142_2 rfl) rfl <| RW.st (Ex.load1 hM 1 to23 rfl rfl rfl) rfl ?_
      refine RW.callP hM (ref02_SameAll_lift ((ix x0.Peers v11).Dirty) ((ix x1.Peers v11).Dirty) (hF19.mono hle51) (hF22.mono hle51) hm) en88 rfl rfl rfl rfl ?_; rintro _ w H64 _ hle65 ⟨v63, hm, rfl, rfl⟩ hM
      refine RW.st (Ex.not (p := v63 = true) (bvar _)) rfl <| RW.st (Ex.pickF (.bool (decide (¬ (v63 = true)))) rfl rfl) rfl <| RW.nil ?_
      refine CW.cond_dec (p := ¬ (v63 = true)) rfl (fun hc66 => ?_) (fun hc66 => ?_)
      ·
       replace hm := And.left hm hc66
       refine CW.sr <| RW.st (Ex.assign (.bool false) rfl) rfl <| RW.nil <| CW.ret ?_
       refine bqr (tqr (tqr (bqr (tqr ?_))))
       refine end_tmp (.inl rfl) rfl (.bool false) rfl ?_
       exact ⟨_, _, (hM.pick [] rfl rfl), false, hm, rfl, rfl⟩
      ·
       replace hm := And.right hm hc66
       refine CW.skip <| CW.region <| RW.st (Ex.move (.int .i64 v11) rfl) rfl ?_
       obtain ⟨hg67, hm⟩ := hm
       refine RW.st (Ex.add rfl rfl hg67.1 hg67.2) rfl <| RW.st (Ex.assign (.int .i64 (v11 + 1)) rfl) rfl <| RW.nil ?_
       exact And.intro rfl ⟨k12, ⟨v11 + 1, H64, hle10.trans (hle51.trans hle65), slc ⟨rfl, rfl, rfl, trivial⟩, (hM.pick [2, 3] rfl rfl), (by rw [hrec13]; exact hm)⟩, Nat.lt_succ_self _⟩
 ·
  replace hm := And.right hm hc14
  refine CW.exit ?_
  refine CW.sr <| RW.st (Ex.assign (.bool true) rfl) rfl <| RW.nil <| CW.ret ?_
  refine end_tmp (.inl rfl) rfl (.bool true) rfl ?_
  exact ⟨_, _, (hM.pick [] rfl rfl), true, hm, rfl, rfl⟩
theorem ref47_SameExtents_lift {H : Hp} (x0 : List (List api_Extent)) (x1 : List (List api_Extent)) {A1 : Option Addr} {n1 c1 : Nat} {s1 : List Value} (hF1 : Fz (α := List api_Extent) H A1 n1 c1 x0 s1) {A2 : Option Addr} {n2 c2 : Nat} {s2 : List Value} (hF2 : Fz (α := List api_Extent) H A2 n2 c2 x1 s2) {Φ : Bool → Prop} (hm : ref47_SameExtents_W x0 x1 Φ) : RetP Tryd.prog 16 #[.slice A1 n1 c1, .slice A2 n2 c2] H (fun _ v L => ∃ y, Φ y ∧ v = .bool y ∧ L = []) := by
 refine RetP.of_code Tryd.func16 rfl (nb rfl) fun w0 hM => ?_
 refine CW.sr <| RW.st (Ex.assign (.bool false) rfl) rfl <| RW.nil <| CW.seq <| CW.sr <| RW.st (Ex.move (.slice A1 n1 c1) rfl) rfl <| RW.st (Ex.lenN st30.1 rfl hF1.hn) rfl <| RW.st (Ex.move (.slice A2 n2 c2) rfl) rfl <| RW.st (Ex.lenN st30.1 rfl hF2.hn) rfl <| RW.st (Ex.neq rfl rfl) rfl <| RW.nil ?_
 refine CW.cond_dec (p := (x0.length : Int) ≠ (x1.length : Int)) rfl (fun hc3 => ?_) (fun hc3 => ?_)
 ·
  replace hm := And.left hm hc3
  refine CW.sr <| RW.st (Ex.assign (.bool false) rfl) rfl <| RW.nil <| CW.ret ?_
  refine tqr ?_
  refine end_tmp (.inl rfl) rfl (.bool false) rfl ?_
  exact ⟨_, _, hM, false, hm, rfl, rfl⟩
 ·
  replace hm := And.right hm hc3
  refine CW.skip <| CW.seq <| CW.sr <| RW.st (Ex.assign (.int .i64 0) rfl) rfl <| RW.nil <| CW.block ?_
  obtain ⟨m20, hm⟩ := hm
  skip
  refine CW.loop (β := Nat) (fun n σ w => ∃ (v6 : Int), ∃ Hk4, H.le Hk4 ∧ (∃ τ, σ = sl [(0, .slice A1 n1 c1), (1, .slice A2 n2 c2), (5, .int .i64 v6)] τ) ∧ Mem w0 H w Hk4 [] ∧ LoopN (ref47_SameExtents_L1 x0 x1 Φ) n (v6)) (fun n => n) m20 ⟨0, H, (Hp.le.refl _), slc ⟨rfl, rfl, rfl, trivial⟩, hM, hm⟩ ?_
  rintro k7 _ w ⟨v6, Hk4, hle5, ⟨τ, rfl⟩, hM, hm⟩
  obtain _ | k7 := k7
  · exact hm.elim
  replace hm : (ref47_SameExtents_L1 x0 x1 Φ) (v6) (LoopN (ref47_SameExtents_L1 x0 x1 Φ) k7) := hm
  generalize hrec8 : LoopN (ref47_SameExtents_L1 x0 x1 Φ) k7 = rec1 at hm
  refine CW.seq <| CW.sr <| RW.st (Ex.move (.int .i64 v6) rfl) rfl <| RW.st (Ex.move (.slice A1 n1 c1) rfl) rfl <| RW.st (Ex.lenN st30.1 rfl hF1.hn) rfl <| RW.st (Ex.lss rfl rfl) rfl <| RW.nil ?_
  refine CW.cond_dec (p := v6 < (x0.length : Int)) rfl (fun hc9 => ?_) (fun hc9 => ?_)
  ·
   replace hm := And.left hm hc9
   refine CW.skip <| CW.seq <| CW.block <| CW.seq ?_
   obtain ⟨hg10, hm⟩ := hm
   obtain ⟨_, ⟨A11, n11, c11, s11, rfl, hF11⟩, hx12⟩ := DtL.getI (α := List api_Extent) (hF1.mono hle5).dat hg10
   obtain ⟨hg13, hm⟩ := hm
   obtain ⟨_, ⟨A14, n14, c14, s14, rfl, hF14⟩, hx15⟩ := DtL.getI (α := List api_Extent) (hF2.mono hle5).dat hg13
   obtain ⟨v16, hW17, hm⟩ := hm
   refine CW.drawE 10 [.slice A1 n1 c1, .int .i64 v6, elp A1 (v6.toNat * 1 + 0), .slice A11 n11 c11, .slice A2 n2 c2, .int .i64 v6, elp A2 (v6.toNat * 1 + 0), .slice A14 n14 c14, .bool v16, .bool (decide (¬ (v16 = true)))]
    [[(0, none)], [(5, none)], [(17, some 0), (18, some 1)], [(19, some 2)], [(1, none)], [(5, none)], [(21, some 4), (22, some 5)], [(23, some 6)], [(20, some 3), (24, some 7)], [(25, some 8)]] [(0, none), (1, none), (5, none), (26, some 9)] (by kernel_rfl) hM (by kernel_rfl) ⟨?_, ?_, ?_, ?_, ?_, ?_, ?_, ?_, ?_, ?_, trivial⟩ ?_
   · exact One.ex (fun H' τ w hled hM => Ex.move (.slice A1 n1 c1) rfl) rfl (fun _ => rfl) rfl
   · exact One.ex (fun H' τ w hled hM => Ex.move (.int .i64 v6) rfl) rfl (fun _ => rfl) rfl
   · exact One.ex (fun H' τ w hled hM => Ex.index st30 rfl rfl v6.toNat (hF1.ne hg10) hg10.nat (hF1.lt hg10)) rfl (fun _ => rfl) rfl
   · exact One.ex (fun H' τ w hled hM => Ex.loadE hM (hle5.trans hled) hF1.rdc to68 rfl (hx12 0 _ rfl)) rfl (fun _ => rfl) rfl
   · exact One.ex (fun H' τ w hled hM => Ex.move (.slice A2 n2 c2) rfl) rfl (fun _ => rfl) rfl
   · exact One.ex (fun H' τ w hled hM => Ex.move (.int .i64 v6) rfl) rfl (fun _ => rfl) rfl
   · exact One.ex (fun H' τ w hled hM => Ex.index st30 rfl rfl v6.toNat (hF2.ne hg13) hg13.nat (hF2.lt hg13)) rfl (fun _ => rfl) rfl
   · exact One.ex (fun H' τ w hled hM => Ex.loadE hM (hle5.trans hled) hF2.rdc to68 rfl (hx15 0 _ rfl)) rfl (fun _ => rfl) rfl
   · exact One.call (ref02_SameExtents_lift (ix x0 v6) (ix x1 v6) hF11 hF14 hW17).toV en49 (fun _ => rfl) (fun _ => rfl) (fun _ => rfl) rfl
   · exact One.ex (fun H' τ w hled hM => Ex.not (p := v16 = true) (bvar _)) rfl (fun _ => rfl) rfl
   intro τ w hM
   change RW _ _ _ _ _ _ _ _ (sl [(0, .slice A1 n1 c1), (1, .slice A2 n2 c2), (5, .int .i64 v6), (26, .bool (decide (¬ (v16 = true))))] τ) _
   refine RW.nil ?_
   refine CW.cond_dec (p := ¬ (v16 = true)) rfl (fun hc18 => ?_) (fun hc18 => ?_)
   ·
    replace hm := And.left hm hc18
    refine CW.sr <| RW.st (Ex.assign (.bool false) rfl) rfl <| RW.nil <| CW.ret ?_
    refine bqr (tqr (tqr (bqr (tqr ?_))))
    refine end_tmp (.inl rfl) rfl (.bool false) rfl ?_
    exact ⟨_, _, hM, false, hm, rfl, rfl⟩
   ·
    replace hm := And.right hm hc18
    refine CW.skip <| CW.region <| RW.st (Ex.move (.int .i64 v6) rfl) rfl ?_
    obtain ⟨hg19, hm⟩ := hm
    refine RW.st (Ex.add rfl rfl hg19.1 hg19.2) rfl <| RW.st (Ex.assign (.int .i64 (v6 + 1)) rfl) rfl <| RW.nil ?_
    exact And.intro rfl ⟨k7, ⟨v6 + 1, Hk4, hle5.trans (Hp.le.refl _), slc ⟨rfl, rfl, rfl, trivial⟩, hM, (by rw [hrec8]; exact hm)⟩, Nat.lt_succ_self _⟩
  ·
   replace hm := And.right hm hc9
   refine CW.exit ?_
   refine CW.sr <| RW.st (Ex.assign (.bool true) rfl) rfl <| RW.nil <| CW.ret ?_
   refine end_tmp (.inl rfl) rfl (.bool true) rfl ?_
   exact ⟨_, _, hM, true, hm, rfl, rfl⟩
theorem slices_IndexFunc_int_int__cycle_positions_1_lift {H : Hp} (x0 : List Int) {A1 : Option Addr} {n1 c1 : Nat} {s1 : List Value} (hF1 : Fz (α := Int) H A1 n1 c1 x0 s1) {Φ : Int → Prop} (hm : slices_IndexFunc_int_int__cycle_positions_1_W x0 Φ) : RetP Tryd.prog 157 #[.slice A1 n1 c1, .func (.func 141) #[] #[]] H (fun _ v L => ∃ y, Φ y ∧ v = .int .i64 (y) ∧ L = []) := by
 refine RetP.of_code Tryd.func157 rfl (nb rfl) fun w0 hM => ?_
 refine CW.sr <| RW.st (Ex.assign (.int .i64 0) rfl) rfl <| RW.nil <| CW.seq <| CW.sr <| RW.st (Ex.move (.slice A1 n1 c1) rfl) rfl <| RW.st (Ex.lenN st40.1 rfl hF1.hn) rfl <| RW.st (Ex.move (.int .i64 0) rfl) rfl <| RW.nil <| CW.block ?_
 obtain ⟨m15, hm⟩ := hm
 skip
 refine CW.loop (β := Nat) (fun n σ w => ∃ (v4 : Int), ∃ Hk2, H.le Hk2 ∧ (∃ τ, σ = sl [(0, .slice A1 n1 c1), (1, .func (.func 141) #[] #[]), (7, .int .i64 ((x0.length : Int))), (8, .int .i64 v4)] τ) ∧ Mem w0 H w Hk2 [] ∧ LoopN (slices_IndexFunc_int_int__cycle_positions_1_L1 x0 Φ) n (v4)) (fun n => n) m15 ⟨0, H, (Hp.le.refl _), slc ⟨rfl, rfl, rfl, rfl, trivial⟩, hM, hm⟩ ?_
 rintro k5 _ w ⟨v4, Hk2, hle3, ⟨τ, rfl⟩, hM, hm⟩
 obtain _ | k5 := k5
 · exact hm.elim
 replace hm : (slices_IndexFunc_int_int__cycle_positions_1_L1 x0 Φ) (v4) (LoopN (slices_IndexFunc_int_int__cycle_positions_1_L1 x0 Φ) k5) := hm
 generalize hrec6 : LoopN (slices_IndexFunc_int_int__cycle_positions_1_L1 x0 Φ) k5 = rec1 at hm
 refine CW.sr <| RW.st (Ex.lss rfl rfl) rfl <| RW.nil <| CW.seq ?_
 refine CW.cond_dec (p := v4 < (x0.length : Int)) rfl (fun hc7 => ?_) (fun hc7 => ?_)
 ·
  replace hm := And.left hm hc7
  refine CW.skip <| CW.seq <| CW.block <| CW.sr <| RW.st (Ex.move (.int .i64 v4) rfl) rfl <| RW.st (Ex.assign (.int .i64 v4) rfl) rfl <| RW.nil <| CW.sr <| RW.st (Ex.move (.func (.func 141) #[] #[]) rfl) rfl <| RW.st (Ex.move (.slice A1 n1 c1) rfl) rfl <| RW.st (Ex.move (.int .i64 v4) rfl) rfl ?_
  obtain ⟨hg8, hm⟩ := hm
  refine RW.st (Ex.index st40 rfl rfl v4.toNat (hF1.ne hg8) hg8.nat (hF1.lt hg8)) rfl ?_
  obtain ⟨_, rfl, hx9⟩ := DtL.getI (α := Int) (hF1.mono hle3).dat hg8
  refine RW.st (Ex.loadE hM hle3 hF1.rdc to3 rfl (hx9 0 _ rfl)) rfl ?_
  refine RW.callP hM (cycle_positions_1_lift (ix x0 v4) hm) en141 rfl rfl rfl rfl ?_; rintro _ w H11 _ hle12 ⟨v10, hm, rfl, rfl⟩ hM
  refine RW.nil ?_
  refine CW.cond_b rfl (fun hc13 => ?_) (fun hc13 => ?_)
  ·
   replace hm := And.left hm hc13
   refine CW.sr <| RW.st (Ex.move (.int .i64 v4) rfl) rfl <| RW.st (Ex.assign (.int .i64 v4) rfl) rfl <| RW.nil <| CW.ret ?_
   refine bqr (tqr (tqr (bqr (tqr ?_))))
   refine end_tmp (.inl rfl) rfl (.int .i64 v4) rfl ?_
   exact ⟨_, _, hM, v4, hm, rfl, rfl⟩
  ·
   replace hm := And.right hm hc13
   refine CW.skip <| CW.region ?_
   obtain ⟨hg14, hm⟩ := hm
   refine RW.st (Ex.add rfl rfl hg14.1 hg14.2) rfl <| RW.st (Ex.move (.int .i64 (v4 + 1)) rfl) rfl <| RW.nil ?_
   exact And.intro rfl ⟨k5, ⟨v4 + 1, H11, hle3.trans hle12, slc ⟨rfl, rfl, rfl, rfl, trivial⟩, hM, (by rw [hrec6]; exact hm)⟩, Nat.lt_succ_self _⟩
 ·
  replace hm := And.right hm hc7
  refine CW.exit ?_
  refine CW.sr <| RW.st (Ex.assign (.int .i64 ((-1))) rfl) rfl <| RW.nil <| CW.ret ?_
  refine end_tmp (.inl rfl) rfl (.int .i64 ((-1))) rfl ?_
  exact ⟨_, _, hM, (-1), hm, rfl, rfl⟩
theorem tracker_checkBitmaps_1_lift {H : Hp} (x0 : api_Bitmap) (x1 : Int) {A1 : Option Addr} {n1 c1 : Nat} {s1 : List Value} (hF1 : Fz (α := BitVec 64) H A1 n1 c1 x0.Words s1) {Φ : Bool × Int → Prop} (hm : tracker_checkBitmaps_1_W x0 x1 Φ) : RetP Tryd.prog 154 #[.agg #[.int .i64 x0.Size, .slice A1 n1 c1], .int .i64 x1] H (fun _ v L => ∃ y, Φ y ∧ v = .tuple #[.bool y.1, .int .i64 (y.2)] ∧ L = []) := by
 refine RetP.of_code Tryd.func154 rfl (nb rfl) fun w0 hM => ?_
 refine CW.sr ?_
 refine RW.box hM (.agg #[.int .i64 x0.Size, .slice A1 n1 c1]) [.int .i64 x0.Size, .slice A1 n1 c1] rfl rfl rfl rfl ?_; intro b2 w hM
 refine RW.st (Ex.assign (.bool false) rfl) rfl <| RW.st (Ex.assign (.int .i64 0) rfl) rfl <| RW.nil <| CW.seq <| CW.sr <| RW.st (Ex.loadA hM 0 [.int .i64 x0.Size, .slice A1 n1 c1] ta65 rfl rfl rfl rfl) rfl ?_
 refine RW.callP hM (bitmap_Check_lift x0 hF1 hm) en94 rfl rfl rfl rfl ?_; rintro _ w H4 _ hle5 ⟨v3, hm, rfl, rfl⟩ hM
 refine RW.st (Ex.assign (.int .i64 v3) rfl) rfl <| RW.nil <| CW.sr <| RW.st (Ex.move (.int .i64 v3) rfl) rfl <| RW.st (Ex.neq rfl rfl) rfl <| RW.nil ?_
 refine CW.cond_dec (p := v3 ≠ 0) rfl (fun hc6 => ?_) (fun hc6 => ?_)
 ·
  replace hm := And.left hm hc6
  refine CW.sr <| RW.st (Ex.move (.int .i64 v3) rfl) rfl <| RW.st (Ex.assign (.bool false) rfl) rfl <| RW.st (Ex.assign (.int .i64 v3) rfl) rfl <| RW.nil <| CW.ret ?_
  refine tqr ?_
  refine end_tmp2 (.inl rfl) rfl (.bool false) (.int .i64 v3) rfl rfl ?_
  exact ⟨_, _, (hM.pick [] rfl rfl), (false, v3), hm, rfl, rfl⟩
 ·
  replace hm := And.right hm hc6
  refine CW.skip <| CW.seq <| CW.sr <| RW.st (Ex.fieldAddr fa65_0 rfl) rfl <| RW.st (Ex.load1 hM 0 to3 rfl rfl rfl) rfl <| RW.st (Ex.move (.int .i64 x1) rfl) rfl <| RW.st (Ex.neq rfl rfl) rfl <| RW.nil ?_
  refine CW.cond_dec (p := x0.Size ≠ x1) rfl (fun hc7 => ?_) (fun hc7 => ?_)
  ·
   replace hm := And.left hm hc7
   refine CW.sr <| RW.st (Ex.assign (.bool false) rfl) rfl <| RW.st (Ex.assign (.int .i64 22) rfl) rfl <| RW.nil <| CW.ret ?_
   refine tqr ?_
   refine end_tmp2 (.inl rfl) rfl (.bool false) (.int .i64 22) rfl rfl ?_
   exact ⟨_, _, (hM.pick [] rfl rfl), (false, 22), hm, rfl, rfl⟩
  ·
   replace hm := And.right hm hc7
   refine CW.skip <| CW.sr <| RW.st (Ex.assign (.bool true) rfl) rfl <| RW.st (Ex.assign (.int .i64 0) rfl) rfl <| RW.nil <| CW.ret ?_
   refine end_tmp2 (.inl rfl) rfl (.bool true) (.int .i64 0) rfl rfl ?_
   exact ⟨_, _, (hM.pick [] rfl rfl), (true, 0), hm, rfl, rfl⟩
theorem reverse_volumes_api_Bitmap__reverse_Turn_2_lift {H : Hp} (x0 : List api_Bitmap) {A1 : Option Addr} {n1 c1 : Nat} {s1 : List Value} (hF1 : Fz (α := api_Bitmap) H A1 n1 c1 x0 s1) {Φ : List api_Bitmap → Prop} (hm : reverse_volumes_api_Bitmap__reverse_Turn_2_W x0 Φ) : RetP Tryd.prog 83 #[.slice A1 n1 c1, .func (.func 84) #[] #[]] H (fun H' v L => ∃ y, Φ y ∧ ∃ A34, ∃ n34, ∃ c34, ∃ s34, v = .slice A34 n34 c34 ∧ DtL (α := api_Bitmap) H' s34 y ∧ n34 = y.length ∧ L = [.row (.slice A34 n34 c34) 65 2 n34 s34]) := by
 refine RetP.of_code Tryd.func83 rfl (nb rfl) fun w0 hM => ?_
 refine CW.sr <| RW.st (Ex.assign (.slice none 0 0) rfl) rfl <| RW.nil <| CW.sr <| RW.st (Ex.assign (.slice none 0 0) rfl) rfl <| RW.nil <| CW.seq <| CW.sr <| RW.st (Ex.move (.slice A1 n1 c1) rfl) rfl <| RW.st (Ex.lenN st23.1 rfl hF1.hn) rfl <| RW.st (Ex.move (.int .i64 0) rfl) rfl ?_
 refine RW.nil <| CW.block ?_
 obtain ⟨m33, hm⟩ := hm
 skip
 replace hM := hM.nilRow 65 2
 refine CW.loop (β := Nat) (fun n σ w => ∃ (v4 : List api_Bitmap), ∃ (A5 : Option Addr), ∃ (n6 : Nat), ∃ (c7 : Nat), ∃ (s8 : List Value), ∃ (v11 : Int), ∃ Hk2, H.le Hk2 ∧ (∃ τ, σ = sl [(1, .func (.func 84) #[] #[]), (5, .slice A5 n6 c7), (8, .slice A1 n1 c1), (9, .int .i64 ((x0.length : Int))), (10, .int .i64 v11)] τ) ∧ Mem w0 H w Hk2 [.row (.slice A5 n6 c7) 65 2 n6 s8] ∧ (DtL (α := api_Bitmap) Hk2 s8 v4) ∧ (n6 = v4.length) ∧ LoopN (reverse_volumes_api_Bitmap__reverse_Turn_2_L1 x0 Φ) n (v4, v11)) (fun n => n) m33 ⟨([] : List api_Bitmap), none, 0, 0, [], 0, H, (Hp.le.refl _), slc ⟨rfl, rfl, rfl, rfl, rfl, trivial⟩, hM, (DtL.nil : DtL _ [] ([] : List api_Bitmap)), rfl, hm⟩ ?_
 rintro k12 _ w ⟨v4, A5, n6, c7, s8, v11, Hk2, hle3, ⟨τ, rfl⟩, hM, hd9, hn10, hm⟩
 obtain _ | k12 := k12
 · exact hm.elim
 replace hm : (reverse_volumes_api_Bitmap__reverse_Turn_2_L1 x0 Φ) (v4, v11) (LoopN (reverse_volumes_api_Bitmap__reverse_Turn_2_L1 x0 Φ) k12) := hm
 generalize hrec13 : LoopN (reverse_volumes_api_Bitmap__reverse_Turn_2_L1 x0 Φ) k12 = rec1 at hm
 refine CW.sr <| RW.st (Ex.lss rfl rfl) rfl <| RW.nil <| CW.seq ?_
 refine CW.cond_dec (p := v11 < (x0.length : Int)) rfl (fun hc14 => ?_) (fun hc14 => ?_)
 ·
  replace hm := And.left hm hc14
  refine CW.skip <| CW.seq <| CW.block <| CW.sr <| RW.st (Ex.move (.int .i64 v11) rfl) rfl ?_
  obtain ⟨hg15, hm⟩ := hm
  refine RW.st (Ex.index st23 rfl rfl v11.toNat (hF1.ne hg15) hg15.nat (hF1.lt hg15)) rfl ?_
  obtain ⟨_, ⟨A16, n16, c16, s16, rfl, hF16⟩, hx17⟩ := DtL.getI (α := api_Bitmap) (hF1.mono hle3).dat hg15
  refine RW.st (Ex.loadEA hM hle3 hF1.rdc [.int .i64 ((ix x0 v11).Size), .slice A16 n16 c16] ta65 rfl (hF1.ne hg15) rfl (chunk_sub (off := 0) (n := 2) hx17 rfl)) rfl ?_
  refine RW.alloc hM tz65 [.int .i64 0, .slice none 0 0] rfl rfl rfl ?_; intro b18 w hM
  refine RW.st (Ex.assign (.int .i64 v11) rfl) rfl ?_
  refine RW.store hM 0 (.agg #[.int .i64 ((ix x0 v11).Size), .slice A16 n16 c16]) [.int .i64 ((ix x0 v11).Size), .slice A16 n16 c16] [.int .i64 ((ix x0 v11).Size), .slice A16 n16 c16] sz65 rfl rfl rfl (oneAll ⟨rfl, rfl, trivial⟩) rfl (nb rfl) rfl [.box b18 65 [.int .i64 ((ix x0 v11).Size), .slice A16 n16 c16], .row (.slice A5 n6 c7) 65 2 n6 s8] rfl rfl rfl ?_; intro w hM
  refine RW.nil <| CW.region <| RW.st (Ex.move (.slice A5 n6 c7) rfl) rfl <| RW.st (Ex.move (.func (.func 84) #[] #[]) rfl) rfl <| RW.st (Ex.move (.int .i64 v11) rfl) rfl <| RW.st (Ex.loadA hM 0 [.int .i64 ((ix x0 v11).Size), .slice A16 n16 c16] ta65 rfl rfl rfl rfl) rfl ?_
  refine RW.callP hM (reverse_Turn_2_lift v11 (ix x0 v11) hF16 hm) en84 rfl rfl rfl rfl ?_; rintro _ w H20 _ hle21 ⟨v19, hm, A22, n22, c22, s22, rfl, hF22, rfl⟩ hM
  refine RW.buildSlice hM st23 tz65 [(0, .agg #[.int .i64 v19.Size, .slice A22 n22 c22])] [.int .i64 v19.Size, .slice A22 n22 c22] (by decide) rfl rfl rfl (by decide) rfl rfl ?_; intro b23 w hM
  have hd24 : DtL H20 [.int .i64 v19.Size, .slice A22 n22 c22] ([v19] : List api_Bitmap) := (DtL.cons (c1 := [.int .i64 v19.Size, .slice A22 n22 c22]) ⟨_, _, _, _, rfl, hF22⟩ DtL.nil)
  obtain ⟨hg31, hm⟩ := hm
  refine RW.appendD (α := api_Bitmap) (xs := v4) (ys := ([v19] : List api_Bitmap)) hM 2 st23 rfl rfl (hd9.mono hle21) hn10 rfl (fun j u hj => hM.rowCell (k := 0) rfl rfl hj) hd24 rfl hg31 rfl rfl ?_; intro A25 n26 c27 s28 w hd29 hn30 hM
  refine RW.st (Ex.assign (.slice A25 n26 c27) rfl) rfl <| RW.nil <| CW.region ?_
  obtain ⟨hg32, hm⟩ := hm
  refine RW.st (Ex.add rfl rfl hg32.1 hg32.2) rfl <| RW.st (Ex.move (.int .i64 (v11 + 1)) rfl) rfl <| RW.nil ?_
  exact And.intro rfl ⟨k12, ⟨(v4 ++ ([v19] : List api_Bitmap)), A25, n26, c27, s28, v11 + 1, H20, hle3.trans hle21, slc ⟨rfl, rfl, rfl, rfl, rfl, trivial⟩, (hM.pick [2] rfl rfl), hd29, hn30, (by rw [hrec13]; exact hm)⟩, Nat.lt_succ_self _⟩
 ·
  replace hm := And.right hm hc14
  refine CW.exit ?_
  refine CW.sr <| RW.st (Ex.move (.slice A5 n6 c7) rfl) rfl <| RW.st (Ex.assign (.slice A5 n6 c7) rfl) rfl <| RW.nil <| CW.ret ?_
  refine end_tmp (.inl rfl) rfl (.slice A5 n6 c7) rfl ?_
  exact ⟨_, _, hM, v4, hm, A5, n6, c7, s8, rfl, hd9, hn10, rfl⟩
theorem ref43_CheckBitmaps_lift {H : Hp} (x0 : List api_Bitmap) (x1 : List Int) {A1 : Option Addr} {n1 c1 : Nat} {s1 : List Value} (hF1 : Fz (α := api_Bitmap) H A1 n1 c1 x0 s1) {A2 : Option Addr} {n2 c2 : Nat} {s2 : List Value} (hF2 : Fz (α := Int) H A2 n2 c2 x1 s2) {Φ : Int → Prop} (hm : ref43_CheckBitmaps_W x0 x1 Φ) : RetP Tryd.prog 127 #[.slice A1 n1 c1, .slice A2 n2 c2] H (fun _ v L => ∃ y, Φ y ∧ v = .int .i64 (y) ∧ L = []) := by
 refine RetP.of_code Tryd.func127 rfl (nb rfl) fun w0 hM => ?_
 refine CW.sr <| RW.st (Ex.assign (.int .i64 0) rfl) rfl <| RW.nil <| CW.seq <| CW.sr <| RW.st (Ex.move (.slice A1 n1 c1) rfl) rfl <| RW.st (Ex.lenN st23.1 rfl hF1.hn) rfl <| RW.st (Ex.move (.slice A2 n2 c2) rfl) rfl <| RW.st (Ex.lenN st40.1 rfl hF2.hn) rfl <| RW.st (Ex.neq rfl rfl) rfl <| RW.nil ?_
 refine CW.cond_dec (p := (x0.length : Int) ≠ (x1.length : Int)) rfl (fun hc3 => ?_) (fun hc3 => ?_)
 ·
  replace hm := And.left hm hc3
  refine CW.sr <| RW.st (Ex.assign (.int .i64 6) rfl) rfl <| RW.nil <| CW.ret ?_
  refine tqr ?_
  refine end_tmp (.inl rfl) rfl (.int .i64 6) rfl ?_
  exact ⟨_, _, hM, 6, hm, rfl, rfl⟩
 ·
  replace hm := And.right hm hc3
  refine CW.skip <| CW.seq <| CW.sr <| RW.st (Ex.assign (.int .i64 0) rfl) rfl <| RW.nil <| CW.block ?_
  obtain ⟨m21, hm⟩ := hm
  skip
  refine CW.loop (β := Nat) (fun n σ w => ∃ (v6 : Int), ∃ Hk4, H.le Hk4 ∧ (∃ τ, σ = sl [(0, .slice A1 n1 c1), (1, .slice A2 n2 c2), (5, .int .i64 v6)] τ) ∧ Mem w0 H w Hk4 [] ∧ LoopN (ref43_CheckBitmaps_L1 x0 x1 Φ) n (v6)) (fun n => n) m21 ⟨0, H, (Hp.le.refl _), slc ⟨rfl, rfl, rfl, trivial⟩, hM, hm⟩ ?_
  rintro k7 _ w ⟨v6, Hk4, hle5, ⟨τ, rfl⟩, hM, hm⟩
  obtain _ | k7 := k7
  · exact hm.elim
  replace hm : (ref43_CheckBitmaps_L1 x0 x1 Φ) (v6) (LoopN (ref43_CheckBitmaps_L1 x0 x1 Φ) k7) := hm
  generalize hrec8 : LoopN (ref43_CheckBitmaps_L1 x0 x1 Φ) k7 = rec1 at hm
  refine CW.seq <| CW.sr <| RW.st (Ex.move (.int .i64 v6) rfl) rfl <| RW.st (Ex.move (.slice A1 n1 c1) rfl) rfl <| RW.st (Ex.lenN st23.1 rfl hF1.hn) rfl <| RW.st (Ex.lss rfl rfl) rfl <| RW.nil ?_
  refine CW.cond_dec (p := v6 < (x0.length : Int)) rfl (fun hc9 => ?_) (fun hc9 => ?_)
  ·
   replace hm := And.left hm hc9
   refine CW.skip <| CW.seq <| CW.block <| CW.seq <| CW.sr <| RW.st (Ex.move (.slice A1 n1 c1) rfl) rfl <| RW.st (Ex.move (.int .i64 v6) rfl) rfl ?_
   obtain ⟨hg10, hm⟩ := hm
   refine RW.st (Ex.index st23 rfl rfl v6.toNat (hF1.ne hg10) hg10.nat (hF1.lt hg10)) rfl ?_
   obtain ⟨_, ⟨A11, n11, c11, s11, rfl, hF11⟩, hx12⟩ := DtL.getI (α := api_Bitmap) (hF1.mono hle5).dat hg10
   refine RW.st (Ex.loadEA hM hle5 hF1.rdc [.int .i64 ((ix x0 v6).Size), .slice A11 n11 c11] ta65 rfl (hF1.ne hg10) rfl (chunk_sub (off := 0) (n := 2) hx12 rfl)) rfl ?_
   refine RW.callP hM (ref02_Check_lift (ix x0 v6) hF11 hm) en67 rfl rfl rfl rfl ?_; rintro _ w H14 _ hle15 ⟨v13, hm, rfl, rfl⟩ hM
   refine RW.st (Ex.assign (.int .i64 v13) rfl) rfl <| RW.nil <| CW.sr <| RW.st (Ex.move (.int .i64 v13) rfl) rfl <| RW.st (Ex.neq rfl rfl) rfl <| RW.nil ?_
   refine CW.cond_dec (p := v13 ≠ 0) rfl (fun hc16 => ?_) (fun hc16 => ?_)
   ·
    replace hm := And.left hm hc16
    refine CW.sr <| RW.st (Ex.move (.int .i64 v13) rfl) rfl <| RW.st (Ex.assign (.int .i64 v13) rfl) rfl <| RW.nil <| CW.ret ?_
    refine tqr (bqr (tqr (tqr (bqr (tqr ?_)))))
    refine end_tmp (.inl rfl) rfl (.int .i64 v13) rfl ?_
    exact ⟨_, _, hM, v13, hm, rfl, rfl⟩
   ·
    replace hm := And.right hm hc16
    refine CW.skip <| CW.seq ?_
    obtain ⟨hg17, hm⟩ := hm
    obtain ⟨_, rfl, hx18⟩ := DtL.getI (α := Int) (hF2.mono (hle5.trans hle15)).dat hg17
    refine CW.drawE 10 [.slice A1 n1 c1, .int .i64 v6, elp A1 (v6.toNat * 2 + 0), elp A1 (v6.toNat * 2 + 0), .int .i64 ((ix x0 v6).Size), .slice A2 n2 c2, .int .i64 v6, elp A2 (v6.toNat * 1 + 0), .int .i64 ((ix x1 v6)), .bool (decide (((ix x0 v6).Size) ≠ (ix x1 v6)))]
     [[(0, none)], [(5, none)], [(26, some 0), (27, some 1)], [(28, some 2)], [(29, some 3)], [(1, none)], [(5, none)], [(31, some 5), (32, some 6)], [(33, some 7)], [(30, some 4), (34, some 8)]] [(0, none), (1, none), (5, none), (35, some 9)] (by kernel_rfl) hM (by kernel_rfl) ⟨?_, ?_, ?_, ?_, ?_, ?_, ?_, ?_, ?_, ?_, trivial⟩ ?_
    · exact One.ex (fun H' τ w hled hM => Ex.move (.slice A1 n1 c1) rfl) rfl (fun _ => rfl) rfl
    · exact One.ex (fun H' τ w hled hM => Ex.move (.int .i64 v6) rfl) rfl (fun _ => rfl) rfl
    · exact One.ex (fun H' τ w hled hM => Ex.index st23 rfl rfl v6.toNat (hF1.ne hg10) hg10.nat (hF1.lt hg10)) rfl (fun _ => rfl) rfl
    · exact One.ex (fun H' τ w hled hM => Ex.fieldE fa65_0 (hF1.ne hg10) rfl) rfl (fun _ => rfl) rfl
    · exact One.ex (fun H' τ w hled hM => Ex.loadE hM ((hle5.trans hle15).trans hled) hF1.rdc to3 rfl (hx12 0 _ rfl)) rfl (fun _ => rfl) rfl
    · exact One.ex (fun H' τ w hled hM => Ex.move (.slice A2 n2 c2) rfl) rfl (fun _ => rfl) rfl
    · exact One.ex (fun H' τ w hled hM => Ex.move (.int .i64 v6) rfl) rfl (fun _ => rfl) rfl
    · exact One.ex (fun H' τ w hled hM => Ex.index st40 rfl rfl v6.toNat (hF2.ne hg17) hg17.nat (hF2.lt hg17)) rfl (fun _ => rfl) rfl
    · exact One.ex (fun H' τ w hled hM => Ex.loadE hM ((hle5.trans hle15).trans hled) hF2.rdc to3 rfl (hx18 0 _ rfl)) rfl (fun _ => rfl) rfl
    · exact One.ex (fun H' τ w hled hM => Ex.neq rfl rfl) rfl (fun _ => rfl) rfl
    intro τ w hM
    change RW _ _ _ _ _ _ _ _ (sl [(0, .slice A1 n1 c1), (1, .slice A2 n2 c2), (5, .int .i64 v6), (35, .bool (decide (((ix x0 v6).Size) ≠ (ix x1 v6))))] τ) _
    refine RW.nil ?_
    refine CW.cond_dec (p := ((ix x0 v6).Size) ≠ (ix x1 v6)) rfl (fun hc19 => ?_) (fun hc19 => ?_)
    ·
     replace hm := And.left hm hc19
     refine CW.sr <| RW.st (Ex.assign (.int .i64 22) rfl) rfl <| RW.nil <| CW.ret ?_
     refine bqr (tqr (tqr (bqr (tqr ?_))))
     refine end_tmp (.inl rfl) rfl (.int .i64 22) rfl ?_
     exact ⟨_, _, hM, 22, hm, rfl, rfl⟩
    ·
     replace hm := And.right hm hc19
     refine CW.skip <| CW.region <| RW.st (Ex.move (.int .i64 v6) rfl) rfl ?_
     obtain ⟨hg20, hm⟩ := hm
     refine RW.st (Ex.add rfl rfl hg20.1 hg20.2) rfl <| RW.st (Ex.assign (.int .i64 (v6 + 1)) rfl) rfl <| RW.nil ?_
     exact And.intro rfl ⟨k7, ⟨v6 + 1, H14, hle5.trans hle15, slc ⟨rfl, rfl, rfl, trivial⟩, hM, (by rw [hrec8]; exact hm)⟩, Nat.lt_succ_self _⟩
  ·
   replace hm := And.right hm hc9
   refine CW.exit ?_
   refine CW.sr <| RW.st (Ex.assign (.int .i64 0) rfl) rfl <| RW.nil <| CW.ret ?_
   refine end_tmp (.inl rfl) rfl (.int .i64 0) rfl ?_
   exact ⟨_, _, hM, 0, hm, rfl, rfl⟩
theorem ref43_Check_lift {H : Hp} (x0 : api_Tracker) {A1 : Option Addr} {n1 c1 : Nat} {s1 : List Value} (hF1 : Fz (α := Int) H A1 n1 c1 x0.Sizes s1) {A2 : Option Addr} {n2 c2 : Nat} {s2 : List Value} (hF2 : Fz (α := api_Peer) H A2 n2 c2 x0.Peers s2) {Φ : Int → Prop} (hm : ref43_Check_W x0 Φ) : RetP Tryd.prog 86 #[.agg #[.slice A1 n1 c1, .slice A2 n2 c2]] H (fun _ v L => ∃ y, Φ y ∧ v = .int .i64 (y) ∧ L = []) := by
 refine RetP.of_code Tryd.func86 rfl (nb rfl) fun w0 hM => ?_
 refine CW.sr ?_
 refine RW.box hM (.agg #[.slice A1 n1 c1, .slice A2 n2 c2]) [.slice A1 n1 c1, .slice A2 n2 c2] rfl rfl rfl rfl ?_; intro b3 w hM
 refine RW.st (Ex.assign (.int .i64 0) rfl) rfl <| RW.nil <| CW.seq <| CW.sr <| RW.st (Ex.fieldAddr fa85_0 rfl) rfl <| RW.st (Ex.load1 hM 0 to40 rfl rfl rfl) rfl ?_
 refine RW.callP hM (ref07_Sizes_lift x0.Sizes hF1 hm) en73 rfl rfl rfl rfl ?_; rintro _ w H5 _ hle6 ⟨v4, hm, rfl, rfl⟩ hM
 refine RW.st (Ex.assign (.int .i64 v4) rfl) rfl <| RW.nil <| CW.sr <| RW.st (Ex.move (.int .i64 v4) rfl) rfl <| RW.st (Ex.neq rfl rfl) rfl <| RW.nil ?_
 refine CW.cond_dec (p := v4 ≠ 0) rfl (fun hc7 => ?_) (fun hc7 => ?_)
 ·
  replace hm := And.left hm hc7
  refine CW.sr <| RW.st (Ex.move (.int .i64 v4) rfl) rfl <| RW.st (Ex.assign (.int .i64 v4) rfl) rfl <| RW.nil <| CW.ret ?_
  refine tqr ?_
  refine end_tmp (.inl rfl) rfl (.int .i64 v4) rfl ?_
  exact ⟨_, _, (hM.pick [] rfl rfl), v4, hm, rfl, rfl⟩
 ·
  replace hm := And.right hm hc7
  refine CW.skip <| CW.seq <| CW.sr <| RW.st (Ex.fieldAddr fa85_1 rfl) rfl <| RW.st (Ex.load1 hM 0 to83 rfl rfl rfl) rfl <| RW.st (Ex.lenN st83.1 rfl hF2.hn) rfl <| RW.st (Ex.gtr rfl rfl) rfl <| RW.nil ?_
  refine CW.cond_dec (p := 4 < (x0.Peers.length : Int)) rfl (fun hc8 => ?_) (fun hc8 => ?_)
  ·
   replace hm := And.left hm hc8
   refine CW.sr <| RW.st (Ex.assign (.int .i64 6) rfl) rfl <| RW.nil <| CW.ret ?_
   refine tqr ?_
   refine end_tmp (.inl rfl) rfl (.int .i64 6) rfl ?_
   exact ⟨_, _, (hM.pick [] rfl rfl), 6, hm, rfl, rfl⟩
  ·
   replace hm := And.right hm hc8
   refine CW.skip <| CW.seq <| CW.sr <| RW.st (Ex.assign (.int .i64 0) rfl) rfl <| RW.nil <| CW.block ?_
   obtain ⟨m35, hm⟩ := hm
   skip
   refine CW.loop (β := Nat) (fun n σ w => ∃ (v11 : Int), ∃ Hk9, H5.le Hk9 ∧ (∃ τ, σ = sl [(1, .pointer (some ⟨b3, 0, none⟩)), (4, .int .i64 v11)] τ) ∧ Mem w0 H w Hk9 [.box b3 85 [.slice A1 n1 c1, .slice A2 n2 c2]] ∧ LoopN (ref43_Check_L1 x0 Φ) n (v11)) (fun n => n) m35 ⟨0, H5, (Hp.le.refl _), slc ⟨rfl, rfl, trivial⟩, hM, hm⟩ ?_
   rintro k12 _ w ⟨v11, Hk9, hle10, ⟨τ, rfl⟩, hM, hm⟩
   obtain _ | k12 := k12
   · exact hm.elim
   replace hm : (ref43_Check_L1 x0 Φ) (v11) (LoopN (ref43_Check_L1 x0 Φ) k12) := hm
   generalize hrec13 : LoopN (ref43_Check_L1 x0 Φ) k12 = rec1 at hm
   refine CW.seq <| CW.sr <| RW.st (Ex.move (.int .i64 v11) rfl) rfl <| RW.st (Ex.fieldAddr fa85_1 rfl) rfl <| RW.st (Ex.load1 hM 0 to83 rfl rfl rfl) rfl <| RW.st (Ex.lenN st83.1 rfl hF2.hn) rfl <| RW.st (Ex.lss rfl rfl) rfl <| RW.nil ?_
   refine CW.cond_dec (p := v11 < (x0.Peers.length : Int)) rfl (fun hc14 => ?_) (fun hc14 => ?_)
   ·
    replace hm := And.left hm hc14
    refine CW.skip <| CW.seq <| CW.block <| CW.sr <| RW.st (Ex.fieldAddr fa85_1 rfl) rfl <| RW.st (Ex.load1 hM 0 to83 rfl rfl rfl) rfl <| RW.st (Ex.move (.int .i64 v11) rfl) rfl ?_
    obtain ⟨hg15, hm⟩ := hm
    refine RW.st (Ex.index st83 rfl rfl v11.toNat (hF2.ne hg15) hg15.nat (hF2.lt hg15)) rfl ?_
    obtain ⟨_, ⟨A16, n16, c16, s16, rfl, hF16⟩, hx17⟩ := DtL.getI (α := api_Peer) (hF2.mono (hle6.trans hle10)).dat hg15
    refine RW.st (Ex.loadEA hM (hle6.trans hle10) hF2.rdc [.int .i64 ((ix x0.Peers v11).Site), .int .i64 ((ix x0.Peers v11).Common), .slice A16 n16 c16] ta142 rfl (hF2.ne hg15) rfl (chunk_sub (off := 0) (n := 3) hx17 rfl)) rfl ?_
    refine RW.alloc hM tz142 [.int .i64 0, .int .i64 0, .slice none 0 0] rfl rfl rfl ?_; intro b18 w hM
    refine RW.store hM 0 (.agg #[.int .i64 ((ix x0.Peers v11).Site), .int .i64 ((ix x0.Peers v11).Common), .slice A16 n16 c16]) [.int .i64 ((ix x0.Peers v11).Site), .int .i64 ((ix x0.Peers v11).Common), .slice A16 n16 c16] [.int .i64 ((ix x0.Peers v11).Site), .int .i64 ((ix x0.Peers v11).Common), .slice A16 n16 c16] sz142 rfl rfl rfl (oneAll ⟨rfl, rfl, rfl, trivial⟩) rfl (nb rfl) rfl [.box b18 142 [.int .i64 ((ix x0.Peers v11).Site), .int .i64 ((ix x0.Peers v11).Common), .slice A16 n16 c16], .box b3 85 [.slice A1 n1 c1, .slice A2 n2 c2]] rfl rfl rfl ?_; intro w hM
    refine RW.nil <| CW.seq ?_
    skip
    refine CW.cut (fun D σ w => D = [] ∧ (∃ τ, σ = sl [(1, .pointer (some ⟨b3, 0, none⟩)), (4, .int .i64 v11), (5, .pointer (some ⟨b18, 0, none⟩)), (36, .bool (decide ((((ix x0.Peers v11).Site) < 0) ∨ (4 ≤ ((ix x0.Peers v11).Site)))))] τ) ∧ Mem w0 H w Hk9 [.box b18 142 [.int .i64 ((ix x0.Peers v11).Site), .int .i64 ((ix x0.Peers v11).Common), .slice A16 n16 c16], .box b3 85 [.slice A1 n1 c1, .slice A2 n2 c2]]) ?_ ?_
    ·
     skip
     refine CW.region <| RW.st (Ex.fieldAddr fa142_0 rfl) rfl <| RW.st (Ex.load1 hM 0 to3 rfl rfl rfl) rfl <| RW.st (Ex.lss rfl rfl) rfl <| RW.st (Ex.move (.bool (decide (((ix x0.Peers v11).Site) < 0))) rfl) rfl ?_
     refine RW.split 32 (p := ((ix x0.Peers v11).Site) < 0) rfl (fun hc19 => ?_) (fun hc19 => ?_)
     ·
      skip
      refine RW.pp <| RW.pass rfl rfl <| RW.st (Ex.pickT (.bool true) rfl rfl) rfl <| RW.nil ?_
      exact And.intro rfl (And.intro (slc ⟨rfl, rfl, rfl, (congrArg Value.bool (decide_eq_true (.inl hc19)).symm), trivial⟩) hM)
     ·
      skip
      refine RW.st (Ex.fieldAddr fa142_0 rfl) rfl <| RW.st (Ex.load1 hM 0 to3 rfl rfl rfl) rfl <| RW.st (Ex.geq rfl rfl) rfl <| RW.st (Ex.pickF (.bool (decide (4 ≤ ((ix x0.Peers v11).Site)))) rfl rfl) rfl <| RW.nil ?_
      exact And.intro rfl (And.intro (slc ⟨rfl, rfl, rfl, (congrArg Value.bool (decide_eq_decide.2 (imOr hc19 Iff.rfl))), trivial⟩) hM)
    rintro _ _ w ⟨rfl, ⟨τ, rfl⟩, hM⟩
    refine CW.cond_dec (p := (((ix x0.Peers v11).Site) < 0) ∨ (4 ≤ ((ix x0.Peers v11).Site))) rfl (fun hc20 => ?_) (fun hc20 => ?_)
    ·
     replace hm := And.left hm hc20
     refine CW.sr <| RW.st (Ex.assign (.int .i64 2) rfl) rfl <| RW.nil <| CW.ret ?_
     refine tqr (bqr (tqr (tqr (bqr (tqr ?_)))))
     refine end_tmp (.inl rfl) rfl (.int .i64 2) rfl ?_
     exact ⟨_, _, (hM.pick [] rfl rfl), 2, hm, rfl, rfl⟩
    ·
     replace hm := And.right hm hc20
     refine CW.skip <| CW.seq ?_
     obtain ⟨hG34, hm⟩ := hm
     refine CW.cut (fun D σ w => D = [] ∧ (∃ τ, σ = sl [(1, .pointer (some ⟨b3, 0, none⟩)), (4, .int .i64 v11), (5, .pointer (some ⟨b18, 0, none⟩)), (50, .bool (decide ((0 < v11) ∧ (((ix x0.Peers v11).Site) ≤ ((ix x0.Peers (v11 - 1)).Site)))))] τ) ∧ Mem w0 H w Hk9 [.box b18 142 [.int .i64 ((ix x0.Peers v11).Site), .int .i64 ((ix x0.Peers v11).Common), .slice A16 n16 c16], .box b3 85 [.slice A1 n1 c1, .slice A2 n2 c2]]) ?_ ?_
     ·
      replace hm := hG34
      by_cases hc21 : 0 < v11
      ·
       replace hm := hm hc21
       obtain ⟨hg22, hm⟩ := hm
       have hg23 := hm
       obtain ⟨_, ⟨A24, n24, c24, s24, rfl, hF24⟩, hx25⟩ := DtL.getI (α := api_Peer) (hF2.mono (hle6.trans hle10)).dat hg23
       refine CW.drawE 14 [.int .i64 v11, .bool true, .bool true, .pointer (some ⟨b18, 0, none⟩), .int .i64 ((ix x0.Peers v11).Site), .pointer (some ⟨b3, 1, none⟩), .slice A2 n2 c2, .int .i64 v11, .int .i64 (v11 - 1), elp A2 (((v11 - 1).toNat) * 3 + 0), elp A2 (((v11 - 1).toNat) * 3 + 0), .int .i64 ((ix x0.Peers (v11 - 1)).Site), .bool (decide (((ix x0.Peers v11).Site) ≤ ((ix x0.Peers (v11 - 1)).Site))), .bool (decide (((ix x0.Peers v11).Site) ≤ ((ix x0.Peers (v11 - 1)).Site)))]
        [[(4, none)], [(37, some 0)], [(38, some 1)], [(5, none), (39, some 2)], [(39, some 2), (40, some 3)], [(1, none), (39, some 2)], [(39, some 2), (42, some 5)], [(4, none), (39, some 2)], [(39, some 2), (44, some 7)], [(39, some 2), (43, some 6), (45, some 8)], [(39, some 2), (46, some 9)], [(39, some 2), (47, some 10)], [(39, some 2), (41, some 4), (48, some 11)], [(39, some 2), (49, some 12)]] [(1, none), (4, none), (5, none), (50, some 13)] (by kernel_rfl) hM (by kernel_rfl) ⟨?_, ?_, ?_, ?_, ?_, ?_, ?_, ?_, ?_, ?_, ?_, ?_, ?_, ?_, trivial⟩ ?_
       · exact One.ex (fun H' τ w hled hM => Ex.move (.int .i64 v11) rfl) rfl (fun _ => rfl) rfl
       · exact One.ex (fun H' τ w hled hM => Ex.yes (Ex.gtr rfl rfl) hc21) rfl (fun _ => rfl) rfl
       · exact One.ex (fun H' τ w hled hM => Ex.move (.bool true) rfl) rfl (fun _ => rfl) rfl
       · exact One.ex (fun H' τ w hled hM => Ex.fieldAddr fa142_0 rfl) rfl (fun _ => rfl) rfl
       · exact One.ex (fun H' τ w hled hM => Ex.load1 hM 0 to3 rfl rfl rfl) rfl (fun _ => rfl) rfl
       · exact One.ex (fun H' τ w hled hM => Ex.fieldAddr fa85_1 rfl) rfl (fun _ => rfl) rfl
       · exact One.ex (fun H' τ w hled hM => Ex.load1 hM 1 to83 rfl rfl rfl) rfl (fun _ => rfl) rfl
       · exact One.ex (fun H' τ w hled hM => Ex.move (.int .i64 v11) rfl) rfl (fun _ => rfl) rfl
       · exact One.ex (fun H' τ w hled hM => Ex.sub rfl rfl hg22.1 hg22.2) rfl (fun _ => rfl) rfl
       · exact One.ex (fun H' τ w hled hM => Ex.index st83 rfl rfl ((v11 - 1).toNat) (hF2.ne hg23) hg23.nat (hF2.lt hg23)) rfl (fun _ => rfl) rfl
       · exact One.ex (fun H' τ w hled hM => Ex.fieldE fa142_0 (hF2.ne hg23) rfl) rfl (fun _ => rfl) rfl
       · exact One.ex (fun H' τ w hled hM => Ex.loadE hM ((hle6.trans hle10).trans hled) hF2.rdc to3 rfl (hx25 0 _ rfl)) rfl (fun _ => rfl) rfl
       · exact One.ex (fun H' τ w hled hM => Ex.leq rfl rfl) rfl (fun _ => rfl) rfl
       · exact One.ex (fun H' τ w hled hM => Ex.pickT (.bool (decide (((ix x0.Peers v11).Site) ≤ ((ix x0.Peers (v11 - 1)).Site)))) rfl rfl) rfl (fun _ => rfl) rfl
       intro τ w hM
       change RW _ _ _ _ _ _ _ _ (sl [(1, .pointer (some ⟨b3, 0, none⟩)), (4, .int .i64 v11), (5, .pointer (some ⟨b18, 0, none⟩)), (50, .bool (decide (((ix x0.Peers v11).Site) ≤ ((ix x0.Peers (v11 - 1)).Site))))] τ) _
       refine RW.nil ?_
       exact And.intro rfl (And.intro (slc ⟨rfl, rfl, rfl, (congrArg Value.bool (decide_eq_decide.2 (imAnd hc21 Iff.rfl))), trivial⟩) hM)
      ·
       skip
       refine CW.drawE 14 [.int .i64 v11, .bool false, .bool false, undef, undef, undef, undef, undef, undef, undef, undef, undef, undef, .bool false]
        [[(4, none)], [(37, some 0)], [(38, some 1)], [(39, some 2)], [(39, some 2)], [(39, some 2)], [(39, some 2)], [(39, some 2)], [(39, some 2)], [(39, some 2)], [(39, some 2)], [(39, some 2)], [(39, some 2)], [(39, some 2), (49, some 12)]] [(1, none), (4, none), (5, none), (50, some 13)] (by kernel_rfl) hM (by kernel_rfl) ⟨?_, ?_, ?_, ?_, ?_, ?_, ?_, ?_, ?_, ?_, ?_, ?_, ?_, ?_, trivial⟩ ?_
       · exact One.ex (fun H' τ w hled hM => Ex.move (.int .i64 v11) rfl) rfl (fun _ => rfl) rfl
       · exact One.ex (fun H' τ w hled hM => Ex.no (Ex.gtr rfl rfl) hc21) rfl (fun _ => rfl) rfl
       · exact One.ex (fun H' τ w hled hM => Ex.move (.bool false) rfl) rfl (fun _ => rfl) rfl
       · exact One.pass (fun _ => rfl) rfl
       · exact One.pass (fun _ => rfl) rfl
       · exact One.pass (fun _ => rfl) rfl
       · exact One.pass (fun _ => rfl) rfl
       · exact One.pass (fun _ => rfl) rfl
       · exact One.pass (fun _ => rfl) rfl
       · exact One.pass (fun _ => rfl) rfl
       · exact One.pass (fun _ => rfl) rfl
       · exact One.pass (fun _ => rfl) rfl
       · exact One.pass (fun _ => rfl) rfl
       · exact One.ex (fun H' τ w hled hM => Ex.pickF (.bool false) rfl rfl) rfl (fun _ => rfl) rfl
       intro τ w hM
       change RW _ _ _ _ _ _ _ _ (sl [(1, .pointer (some ⟨b3, 0, none⟩)), (4, .int .i64 v11), (5, .pointer (some ⟨b18, 0, none⟩)), (50, .bool false)] τ) _
       refine RW.nil ?_
       exact And.intro rfl (And.intro (slc ⟨rfl, rfl, rfl, (congrArg Value.bool (decide_eq_false (fun q => hc21 q.1)).symm), trivial⟩) hM)
     rintro _ _ w ⟨rfl, ⟨τ, rfl⟩, hM⟩
     refine CW.cond_dec (p := (0 < v11) ∧ (((ix x0.Peers v11).Site) ≤ ((ix x0.Peers (v11 - 1)).Site))) rfl (fun hc26 => ?_) (fun hc26 => ?_)
     ·
      replace hm := And.left hm hc26
      refine CW.sr <| RW.st (Ex.assign (.int .i64 8) rfl) rfl <| RW.nil <| CW.ret ?_
      refine tqr (bqr (tqr (tqr (bqr (tqr ?_)))))
      refine end_tmp (.inl rfl) rfl (.int .i64 8) rfl ?_
      exact ⟨_, _, (hM.pick [] rfl rfl), 8, hm, rfl, rfl⟩
     ·
      replace hm := And.right hm hc26
      refine CW.skip <| CW.seq ?_
      skip
      refine CW.cut (fun D σ w => D = [] ∧ (∃ τ, σ = sl [(1, .pointer (some ⟨b3, 0, none⟩)), (4, .int .i64 v11), (5, .pointer (some ⟨b18, 0, none⟩)), (58, .bool (decide ((((ix x0.Peers v11).Common) < 0) ∨ (1073741824 < ((ix x0.Peers v11).Common)))))] τ) ∧ Mem w0 H w Hk9 [.box b18 142 [.int .i64 ((ix x0.Peers v11).Site), .int .i64 ((ix x0.Peers v11).Common), .slice A16 n16 c16], .box b3 85 [.slice A1 n1 c1, .slice A2 n2 c2]]) ?_ ?_
      ·
       skip
       refine CW.region <| RW.st (Ex.fieldAddr fa142_1 rfl) rfl <| RW.st (Ex.load1 hM 0 to3 rfl rfl rfl) rfl <| RW.st (Ex.lss rfl rfl) rfl <| RW.st (Ex.move (.bool (decide (((ix x0.Peers v11).Common) < 0))) rfl) rfl ?_
       refine RW.split 54 (p := ((ix x0.Peers v11).Common) < 0) rfl (fun hc27 => ?_) (fun hc27 => ?_)
       ·
        skip
        refine RW.pp <| RW.pass rfl rfl <| RW.st (Ex.pickT (.bool true) rfl rfl) rfl <| RW.nil ?_
        exact And.intro rfl (And.intro (slc ⟨rfl, rfl, rfl, (congrArg Value.bool (decide_eq_true (.inl hc27)).symm), trivial⟩) hM)
       ·
        skip
        refine RW.st (Ex.fieldAddr fa142_1 rfl) rfl <| RW.st (Ex.load1 hM 0 to3 rfl rfl rfl) rfl <| RW.st (Ex.gtr rfl rfl) rfl <| RW.st (Ex.pickF (.bool (decide (1073741824 < ((ix x0.Peers v11).Common)))) rfl rfl) rfl <| RW.nil ?_
        exact And.intro rfl (And.intro (slc ⟨rfl, rfl, rfl, (congrArg Value.bool (decide_eq_decide.2 (imOr hc27 Iff.rfl))), trivial⟩) hM)
      rintro _ _ w ⟨rfl, ⟨τ, rfl⟩, hM⟩
      refine CW.cond_dec (p := (((ix x0.Peers v11).Common) < 0) ∨ (1073741824 < ((ix x0.Peers v11).Common))) rfl (fun hc28 => ?_) (fun hc28 => ?_)
      ·
       replace hm := And.left hm hc28
       refine CW.sr <| RW.st (Ex.assign (.int .i64 2) rfl) rfl <| RW.nil <| CW.ret ?_
       refine tqr (bqr (tqr (tqr (bqr (tqr ?_)))))
       refine end_tmp (.inl rfl) rfl (.int .i64 2) rfl ?_
       exact ⟨_, _, (hM.pick [] rfl rfl), 2, hm, rfl, rfl⟩
      ·
       replace hm := And.right hm hc28
       refine CW.skip <| CW.sr <| RW.st (Ex.fieldAddr fa142_2 rfl) rfl <| RW.st (Ex.load1 hM 0 to23 rfl rfl rfl) rfl <| RW.st (Ex.fieldAddr fa85_0 rfl) rfl <| RW.st (Ex.load1 hM 1 to40 rfl rfl rfl) rfl ?_
       refine RW.callP hM (ref43_CheckBitmaps_lift ((ix x0.Peers v11).Dirty) x0.Sizes hF16 (hF1.mono (hle6.trans hle10)) hm) en127 rfl rfl rfl rfl ?_; rintro _ w H30 _ hle31 ⟨v29, hm, rfl, rfl⟩ hM
       refine RW.st (Ex.assign (.int .i64 v29) rfl) rfl <| RW.nil <| CW.sr <| RW.st (Ex.move (.int .i64 v29) rfl) rfl <| RW.st (Ex.neq rfl rfl) rfl <| RW.nil ?_
       refine CW.cond_dec (p := v29 ≠ 0) rfl (fun hc32 => ?_) (fun hc32 => ?_)
       ·
        replace hm := And.left hm hc32
        refine CW.sr <| RW.st (Ex.move (.int .i64 v29) rfl) rfl <| RW.st (Ex.assign (.int .i64 v29) rfl) rfl <| RW.nil <| CW.ret ?_
        refine bqr (tqr (tqr (bqr (tqr ?_))))
        refine end_tmp (.inl rfl) rfl (.int .i64 v29) rfl ?_
        exact ⟨_, _, (hM.pick [] rfl rfl), v29, hm, rfl, rfl⟩
       ·
        replace hm := And.right hm hc32
        refine CW.skip <| CW.region <| RW.st (Ex.move (.int .i64 v11) rfl) rfl ?_
        obtain ⟨hg33, hm⟩ := hm
        refine RW.st (Ex.add rfl rfl hg33.1 hg33.2) rfl <| RW.st (Ex.assign (.int .i64 (v11 + 1)) rfl) rfl <| RW.nil ?_
        exact And.intro rfl ⟨k12, ⟨v11 + 1, H30, hle10.trans hle31, slc ⟨rfl, rfl, trivial⟩, (hM.pick [1] rfl rfl), (by rw [hrec13]; exact hm)⟩, Nat.lt_succ_self _⟩
   ·
    replace hm := And.right hm hc14
    refine CW.exit ?_
    refine CW.sr <| RW.st (Ex.assign (.int .i64 0) rfl) rfl <| RW.nil <| CW.ret ?_
    refine end_tmp (.inl rfl) rfl (.int .i64 0) rfl ?_
    exact ⟨_, _, (hM.pick [] rfl rfl), 0, hm, rfl, rfl⟩
theorem ref02_Or_lift {H : Hp} (x0 : api_Bitmap) (x1 : api_Bitmap) {A1 : Option Addr} {n1 c1 : Nat} {s1 : List Value} (hF1 : Fz (α := BitVec 64) H A1 n1 c1 x0.Words s1) {A2 : Option Addr} {n2 c2 : Nat} {s2 : List Value} (hF2 : Fz (α := BitVec 64) H A2 n2 c2 x1.Words s2) {Φ : api_Bitmap × Int → Prop} (hm : ref02_Or_W x0 x1 Φ) : RetP Tryd.prog 87 #[.agg #[.int .i64 x0.Size, .slice A1 n1 c1], .agg #[.int .i64 x1.Size, .slice A2 n2 c2]] H (fun H' v L => ∃ y, Φ y ∧ ∃ A39, ∃ n39, ∃ c39, ∃ s39, v = .tuple #[.agg #[.int .i64 (y.1.Size), .slice A39 n39 c39], .int .i64 (y.2)] ∧ DtL (α := BitVec 64) H' s39 y.1.Words ∧ n39 = y.1.Words.length ∧ L = [.row (.slice A39 n39 c39) 151 1 n39 s39]) := by
 refine RetP.of_code Tryd.func87 rfl (nb rfl) fun w0 hM => ?_
 refine CW.sr ?_
 refine RW.box hM (.agg #[.int .i64 x0.Size, .slice A1 n1 c1]) [.int .i64 x0.Size, .slice A1 n1 c1] rfl rfl rfl rfl ?_; intro b3 w hM
 refine RW.box hM (.agg #[.int .i64 x1.Size, .slice A2 n2 c2]) [.int .i64 x1.Size, .slice A2 n2 c2] rfl rfl rfl rfl ?_; intro b4 w hM
 refine RW.alloc hM tz65 [.int .i64 0, .slice none 0 0] rfl rfl rfl ?_; intro b5 w hM
 refine RW.st (Ex.assign (.int .i64 0) rfl) rfl <| RW.nil <| CW.seq <| CW.sr <| RW.st (Ex.loadA hM 2 [.int .i64 x0.Size, .slice A1 n1 c1] ta65 rfl rfl rfl rfl) rfl <| RW.st (Ex.loadA hM 1 [.int .i64 x1.Size, .slice A2 n2 c2] ta65 rfl rfl rfl rfl) rfl ?_
 refine RW.callP hM (ref02_both_lift x0 x1 hF1 hF2 hm) en128 rfl rfl rfl rfl ?_; rintro _ w H7 _ hle8 ⟨v6, hm, rfl, rfl⟩ hM
 refine RW.st (Ex.assign (.int .i64 v6) rfl) rfl <| RW.nil <| CW.sr <| RW.st (Ex.move (.int .i64 v6) rfl) rfl <| RW.st (Ex.neq rfl rfl) rfl <| RW.nil ?_
 refine CW.cond_dec (p := v6 ≠ 0) rfl (fun hc9 => ?_) (fun hc9 => ?_)
 ·
  replace hm := And.left hm hc9
  refine CW.sr <| RW.st (Ex.build bs65 [] [.int .i64 0, .slice none 0 0] rfl rfl) rfl <| RW.st (Ex.move (.int .i64 v6) rfl) rfl ?_
  refine RW.store hM 0 (.agg #[.int .i64 0, .slice none 0 0]) [.int .i64 0, .slice none 0 0] [.int .i64 0, .slice none 0 0] sz65 rfl rfl rfl (oneAll ⟨rfl, rfl, trivial⟩) rfl (nb rfl) rfl [.box b5 65 [.int .i64 0, .slice none 0 0], .box b4 65 [.int .i64 x1.Size, .slice A2 n2 c2], .box b3 65 [.int .i64 x0.Size, .slice A1 n1 c1]] rfl rfl rfl ?_; intro w hM
  refine RW.st (Ex.assign (.int .i64 v6) rfl) rfl <| RW.nil <| CW.ret ?_
  refine tqr ?_
  refine ect (k := 0) (.inl rfl) rfl hM rfl (.int .i64 v6) rfl ta65 [.int .i64 0, .slice none 0 0] rfl rfl ?_
  replace hM := hM.nilRow 151 1
  exact ⟨_, _, (hM.pick [0] rfl rfl), ((api_Bitmap.mk 0 ([] : List (BitVec 64))), v6), hm, none, 0, 0, [], rfl, (DtL.nil : DtL _ [] ([] : List (BitVec 64))), rfl, rfl⟩
 ·
  replace hm := And.right hm hc9
  refine CW.skip <| CW.sr <| RW.st (Ex.loadA hM 2 [.int .i64 x0.Size, .slice A1 n1 c1] ta65 rfl rfl rfl rfl) rfl ?_
  refine RW.callP hM (ref02_Copy_lift x0 (hF1.mono hle8) hm) en129 rfl rfl rfl rfl ?_; rintro _ w H11 _ hle12 ⟨v10, hm, A13, n13, c13, s13, rfl, hd14, hn15, rfl⟩ hM
  refine RW.alloc hM tz65 [.int .i64 0, .slice none 0 0] rfl rfl rfl ?_; intro b16 w hM
  refine RW.store hM 0 (.agg #[.int .i64 v10.Size, .slice A13 n13 c13]) [.int .i64 v10.Size, .slice A13 n13 c13] [.int .i64 v10.Size, .slice A13 n13 c13] sz65 rfl rfl rfl (oneAll ⟨rfl, rfl, trivial⟩) rfl (nb rfl) rfl [.box b16 65 [.int .i64 v10.Size, .slice A13 n13 c13], .row (.slice A13 n13 c13) 151 1 n13 s13, .box b5 65 [.int .i64 0, .slice none 0 0], .box b4 65 [.int .i64 x1.Size, .slice A2 n2 c2], .box b3 65 [.int .i64 x0.Size, .slice A1 n1 c1]] rfl rfl rfl ?_; intro w hM
  refine RW.nil <| CW.seq <| CW.sr <| RW.st (Ex.assign (.int .i64 0) rfl) rfl <| RW.nil <| CW.block ?_
  obtain ⟨m38, hm⟩ := hm
  skip
  refine CW.loop (β := Nat) (fun n σ w => ∃ (v19 : List (BitVec 64)), ∃ (A20 : Option Addr), ∃ (n21 : Nat), ∃ (c22 : Nat), ∃ (s23 : List Value), ∃ (v26 : Int), ∃ Hk17, H11.le Hk17 ∧ (∃ τ, σ = sl [(2, .pointer (some ⟨b3, 0, none⟩)), (3, .pointer (some ⟨b4, 0, none⟩)), (4, .pointer (some ⟨b5, 0, none⟩)), (7, .pointer (some ⟨b16, 0, none⟩)), (8, .int .i64 v26)] τ) ∧ Mem w0 H w Hk17 [.box b3 65 [.int .i64 x0.Size, .slice A1 n1 c1], .box b4 65 [.int .i64 x1.Size, .slice A2 n2 c2], .box b5 65 [.int .i64 0, .slice none 0 0], .box b16 65 [.int .i64 v10.Size, .slice A20 n21 c22], .row (.slice A20 n21 c22) 151 1 n21 s23] ∧ (DtL (α := BitVec 64) Hk17 s23 v19) ∧ (n21 = v19.length) ∧ LoopN (ref02_Or_L1 x0 x1 v10 Φ) n (v19, v26)) (fun n => n) m38 ⟨v10.Words, A13, n13, c13, s13, 0, H11, (Hp.le.refl _), slc ⟨rfl, rfl, rfl, rfl, rfl, trivial⟩, (hM.pick [4, 3, 2, 0, 1] rfl rfl), hd14, hn15, hm⟩ ?_
  rintro k27 _ w ⟨v19, A20, n21, c22, s23, v26, Hk17, hle18, ⟨τ, rfl⟩, hM, hd24, hn25, hm⟩
  obtain _ | k27 := k27
  · exact hm.elim
  replace hm : (ref02_Or_L1 x0 x1 v10 Φ) (v19, v26) (LoopN (ref02_Or_L1 x0 x1 v10 Φ) k27) := hm
  generalize hrec28 : LoopN (ref02_Or_L1 x0 x1 v10 Φ) k27 = rec1 at hm
  refine CW.seq <| CW.sr <| RW.st (Ex.move (.int .i64 v26) rfl) rfl <| RW.st (Ex.fieldAddr fa65_1 rfl) rfl <| RW.st (Ex.load1 hM 3 to63 rfl rfl rfl) rfl <| RW.st (Ex.lenN st63.1 rfl hn25) rfl <| RW.st (Ex.lss rfl rfl) rfl <| RW.nil ?_
  refine CW.cond_dec (p := v26 < (v19.length : Int)) rfl (fun hc29 => ?_) (fun hc29 => ?_)
  ·
   replace hm := And.left hm hc29
   refine CW.skip <| CW.seq <| CW.block ?_
   obtain ⟨hg30, hm⟩ := hm
   obtain ⟨_, rfl, hx31⟩ := DtL.getI (α := BitVec 64) (hF1.mono ((hle8.trans hle12).trans hle18)).dat hg30
   obtain ⟨hg32, hm⟩ := hm
   obtain ⟨_, rfl, hx33⟩ := DtL.getI (α := BitVec 64) (hF2.mono ((hle8.trans hle12).trans hle18)).dat hg32
   refine CW.drawE 14 [.pointer (some ⟨b16, 1, none⟩), .slice A20 n21 c22, .int .i64 v26, .pointer (some ⟨b3, 1, none⟩), .slice A1 n1 c1, .int .i64 v26, elp A1 (v26.toNat * 1 + 0), u64 ((ix x0.Words v26)), .pointer (some ⟨b4, 1, none⟩), .slice A2 n2 c2, .int .i64 v26, elp A2 (v26.toNat * 1 + 0), u64 ((ix x1.Words v26)), u64 ((ix x0.Words v26) ||| (ix x1.Words v26))]
    [[(7, none)], [(25, some 0)], [(8, none)], [(2, none)], [(28, some 3)], [(8, none)], [(29, some 4), (30, some 5)], [(31, some 6)], [(3, none)], [(33, some 8)], [(8, none)], [(34, some 9), (35, some 10)], [(36, some 11)], [(32, some 7), (37, some 12)]] [(2, none), (3, none), (4, none), (7, none), (8, none), (26, some 1), (27, some 2), (38, some 13)] (by kernel_rfl) hM (by kernel_rfl) ⟨?_, ?_, ?_, ?_, ?_, ?_, ?_, ?_, ?_, ?_, ?_, ?_, ?_, ?_, trivial⟩ ?_
   · exact One.ex (fun H' τ w hled hM => Ex.fieldAddr fa65_1 rfl) rfl (fun _ => rfl) rfl
   · exact One.ex (fun H' τ w hled hM => Ex.load1 hM 3 to63 rfl rfl rfl) rfl (fun _ => rfl) rfl
   · exact One.ex (fun H' τ w hled hM => Ex.move (.int .i64 v26) rfl) rfl (fun _ => rfl) rfl
   · exact One.ex (fun H' τ w hled hM => Ex.fieldAddr fa65_1 rfl) rfl (fun _ => rfl) rfl
   · exact One.ex (fun H' τ w hled hM => Ex.load1 hM 0 to63 rfl rfl rfl) rfl (fun _ => rfl) rfl
   · exact One.ex (fun H' τ w hled hM => Ex.move (.int .i64 v26) rfl) rfl (fun _ => rfl) rfl
   · exact One.ex (fun H' τ w hled hM => Ex.index st63 rfl rfl v26.toNat (hF1.ne hg30) hg30.nat (hF1.lt hg30)) rfl (fun _ => rfl) rfl
   · exact One.ex (fun H' τ w hled hM => Ex.loadE hM (((hle8.trans hle12).trans hle18).trans hled) hF1.rdc to151 rfl (hx31 0 _ rfl)) rfl (fun _ => rfl) rfl
   · exact One.ex (fun H' τ w hled hM => Ex.fieldAddr fa65_1 rfl) rfl (fun _ => rfl) rfl
   · exact One.ex (fun H' τ w hled hM => Ex.load1 hM 1 to63 rfl rfl rfl) rfl (fun _ => rfl) rfl
   · exact One.ex (fun H' τ w hled hM => Ex.move (.int .i64 v26) rfl) rfl (fun _ => rfl) rfl
   · exact One.ex (fun H' τ w hled hM => Ex.index st63 rfl rfl v26.toNat (hF2.ne hg32) hg32.nat (hF2.lt hg32)) rfl (fun _ => rfl) rfl
   · exact One.ex (fun H' τ w hled hM => Ex.loadE hM (((hle8.trans hle12).trans hle18).trans hled) hF2.rdc to151 rfl (hx33 0 _ rfl)) rfl (fun _ => rfl) rfl
   · exact One.ex (fun H' τ w hled hM => Ex.or64 (a := (ix x0.Words v26)) (b := (ix x1.Words v26)) rfl rfl) rfl (fun _ => rfl) rfl
   intro τ w hM
   change RW _ _ _ _ _ _ _ _ (sl [(2, .pointer (some ⟨b3, 0, none⟩)), (3, .pointer (some ⟨b4, 0, none⟩)), (4, .pointer (some ⟨b5, 0, none⟩)), (7, .pointer (some ⟨b16, 0, none⟩)), (8, .int .i64 v26), (26, .slice A20 n21 c22), (27, .int .i64 v26), (38, u64 ((ix x0.Words v26) ||| (ix x1.Words v26)))] τ) _
   obtain ⟨hg34, hm⟩ := hm
   refine RW.st (Ex.index st63 rfl rfl v26.toNat (hM.rowNeD (α := BitVec 64) (p := 4) rfl hn25 hg34) hg34.nat (Nat.lt_of_lt_of_eq hg34.lt (hn25).symm)) rfl ?_
   refine RW.storeD (α := BitVec 64) (off := 0) (x' := (ix x0.Words v26) ||| (ix x1.Words v26)) hM 4 hd24 (u64 ((ix x0.Words v26) ||| (ix x1.Words v26))) [u64 ((ix x0.Words v26) ||| (ix x1.Words v26))] sz151 rfl hn25 hg34 (nb rfl) rfl rfl (oneAll ⟨rfl, trivial⟩) rfl (fun ch h => rdWhole h (show Dt.rd (α := BitVec 64) _ [u64 ((ix x0.Words v26) ||| (ix x1.Words v26))] ((ix x0.Words v26) ||| (ix x1.Words v26)) from rfl)) rfl rfl ?_
   intro s35 w hd36 hM
   refine RW.nil <| CW.region <| RW.st (Ex.move (.int .i64 v26) rfl) rfl ?_
   obtain ⟨hg37, hm⟩ := hm
   refine RW.st (Ex.add rfl rfl hg37.1 hg37.2) rfl <| RW.st (Ex.assign (.int .i64 (v26 + 1)) rfl) rfl <| RW.nil ?_
   exact And.intro rfl ⟨k27, ⟨(put v19 v26 ((ix x0.Words v26) ||| (ix x1.Words v26))), A20, n21, c22, s35, v26 + 1, Hk17, hle18.trans (Hp.le.refl _), slc ⟨rfl, rfl, rfl, rfl, rfl, trivial⟩, hM, hd36, (hn25).trans (put_len _ _ _).symm, (by rw [hrec28]; exact hm)⟩, Nat.lt_succ_self _⟩
  ·
   replace hm := And.right hm hc29
   refine CW.exit ?_
   refine CW.sr <| RW.st (Ex.loadA hM 3 [.int .i64 v10.Size, .slice A20 n21 c22] ta65 rfl rfl rfl rfl) rfl ?_
   refine RW.store hM 2 (.agg #[.int .i64 v10.Size, .slice A20 n21 c22]) [.int .i64 v10.Size, .slice A20 n21 c22] [.int .i64 v10.Size, .slice A20 n21 c22] sz65 rfl rfl rfl (oneAll ⟨rfl, rfl, trivial⟩) rfl (nb rfl) rfl [.box b3 65 [.int .i64 x0.Size, .slice A1 n1 c1], .box b4 65 [.int .i64 x1.Size, .slice A2 n2 c2], .box b5 65 [.int .i64 v10.Size, .slice A20 n21 c22], .box b16 65 [.int .i64 v10.Size, .slice A20 n21 c22], .row (.slice A20 n21 c22) 151 1 n21 s23] rfl rfl rfl ?_; intro w hM
   refine RW.st (Ex.assign (.int .i64 0) rfl) rfl <| RW.nil <| CW.ret ?_
   refine ect (k := 2) (.inl rfl) rfl hM rfl (.int .i64 0) rfl ta65 [.int .i64 v10.Size, .slice A20 n21 c22] rfl rfl ?_
   exact ⟨_, _, (hM.pick [4] rfl rfl), ((api_Bitmap.mk v10.Size v19), 0), hm, A20, n21, c22, s23, rfl, hd24, hn25, rfl⟩
theorem ref07_Fits_lift {H : Hp} (x0 : List (List Sec)) (x1 : api_Write) {A1 : Option Addr} {n1 c1 : Nat} {s1 : List Value} (hF1 : Fz (α := List Sec) H A1 n1 c1 x0 s1) {A2 : Option Addr} {n2 c2 : Nat} {s2 : List Value} (hF2 : Fz (α := Sec) H A2 n2 c2 x1.Data s2) {Φ : Int → Prop} (hm : ref07_Fits_W x0 x1 Φ) : RetP Tryd.prog 109 #[.slice A1 n1 c1, .agg #[.int .i64 x1.Volume, .int .i64 x1.Start, .slice A2 n2 c2]] H (fun _ v L => ∃ y, Φ y ∧ v = .int .i64 (y) ∧ L = []) := by
 refine RetP.of_code Tryd.func109 rfl (nb rfl) fun w0 hM => ?_
 refine CW.sr ?_
 refine RW.box hM (.agg #[.int .i64 x1.Volume, .int .i64 x1.Start, .slice A2 n2 c2]) [.int .i64 x1.Volume, .int .i64 x1.Start, .slice A2 n2 c2] rfl rfl rfl rfl ?_; intro b3 w hM
 refine RW.st (Ex.assign (.int .i64 0) rfl) rfl <| RW.nil <| CW.seq <| CW.sr <| RW.st (Ex.move (.slice A1 n1 c1) rfl) rfl ?_
 refine RW.callP hM (ref07_Check_lift x0 hF1 hm) en97 rfl rfl rfl rfl ?_; rintro _ w H5 _ hle6 ⟨v4, hm, rfl, rfl⟩ hM
 refine RW.st (Ex.assign (.int .i64 v4) rfl) rfl <| RW.nil <| CW.sr <| RW.st (Ex.move (.int .i64 v4) rfl) rfl <| RW.st (Ex.neq rfl rfl) rfl <| RW.nil ?_
 refine CW.cond_dec (p := v4 ≠ 0) rfl (fun hc7 => ?_) (fun hc7 => ?_)
 ·
  replace hm := And.left hm hc7
  refine CW.sr <| RW.st (Ex.move (.int .i64 v4) rfl) rfl <| RW.st (Ex.assign (.int .i64 v4) rfl) rfl <| RW.nil <| CW.ret ?_
  refine tqr ?_
  refine end_tmp (.inl rfl) rfl (.int .i64 v4) rfl ?_
  exact ⟨_, _, (hM.pick [] rfl rfl), v4, hm, rfl, rfl⟩
 ·
  replace hm := And.right hm hc7
  refine CW.skip <| CW.seq ?_
  obtain ⟨v8, hW9, hm⟩ := hm
  obtain ⟨v14, hW15, hm⟩ := hm
  refine CW.drawL 5 [] [(fun Hq us E => us = [.slice A1 n1 c1] ∧ E = [] ∧ True), (fun Hq us E => ∃ (A10 : Option Addr), ∃ (n10 : Nat), ∃ (c10 : Nat), ∃ (s10 : List Value), us = [.slice A10 n10 c10] ∧ E = [] ∧ Fz (α := Int) Hq A10 n10 c10 v8 s10 ∧ True), (fun Hq us E => us = [.agg #[.int .i64 x1.Volume, .int .i64 x1.Start, .slice A2 n2 c2]] ∧ E = [] ∧ True), (fun Hq us E => us = [.int .i64 v14] ∧ E = [] ∧ True), (fun Hq us E => us = [.int .i64 v14] ∧ E = [] ∧ True)]
   (fun k => [[0], [1], [2], [3], [4]].getD k []) (fun _ => none) (by kernel_rfl) hM (by kernel_rfl) (by kernel_rfl) (by kernel_rfl) rfl (by simp only [List.forall_mem_cons]; exact ⟨fun _ _ _ _ hle ⟨e1, e2, _⟩ => ⟨e1, e2, trivial⟩, fun _ _ _ _ hle ⟨A10, n10, c10, s10, e1, e2, hF13, _⟩ => ⟨A10, n10, c10, s10, e1, e2, hF13.mono hle, trivial⟩, fun _ _ _ _ hle ⟨e1, e2, _⟩ => ⟨e1, e2, trivial⟩, fun _ _ _ _ hle ⟨e1, e2, _⟩ => ⟨e1, e2, trivial⟩, fun _ _ _ _ hle ⟨e1, e2, _⟩ => ⟨e1, e2, trivial⟩, by simp⟩) ⟨?_, ?_, ?_, ?_, ?_, trivial⟩ ?_
  ·
   intro H' σ' w R E hle hMR hE0 hE hp hf
   obtain rfl := hE0 rfl
   obtain ⟨τ, rfl⟩ := slc (σ := σ') (l := [(0, .slice A1 n1 c1)]) ⟨(hf 0 (by kernel_rfl)).trans rfl, trivial⟩
   have hM := Mem.subR (R := R) hMR
   exact RW.step (Ex.move (.slice A1 n1 c1) rfl) rfl rfl rfl (RW.nil ⟨rfl, rfl, _, rfl, H', [], Hp.le.refl _, hMR, rfl, rfl, trivial⟩)
  ·
   intro H' σ' w R E hle hMR hE0 hE hp hf
   obtain rfl := hE0 rfl
   obtain ⟨_, hg⟩ := hp 0 (by decide) (by kernel_rfl)
   obtain ⟨e16, _, _⟩ := hg.get rfl
   have e17 : σ' 11 = .slice A1 n1 c1 := (List.cons.inj e16).1
   obtain ⟨τ, rfl⟩ := slc (σ := σ') (l := [(11, .slice A1 n1 c1)]) ⟨e17, trivial⟩
   have hM := Mem.subR (R := R) hMR
   refine RW.callP hMR (ref07_SizesOf_lift x0 (hF1.mono (hle6.trans hle)) hW9) en57 rfl rfl rfl rfl ?_; rintro _ w HS9 _ hleS ⟨_, rfl, A10, n10, c10, s10, rfl, hd11, hn12, rfl⟩ hMR
   obtain ⟨HS90, hMR, hleS0, hF13⟩ := hMR.giveF (α := Int) 0 rfl hd11 hn12
   exact RW.nil ⟨rfl, rfl, _, rfl, HS90, [], (hleS.trans hleS0), hMR, A10, n10, c10, s10, rfl, rfl, hF13, trivial⟩
  ·
   intro H' σ' w R E hle hMR hE0 hE hp hf
   obtain rfl := hE0 rfl
   obtain ⟨τ, rfl⟩ := slc (σ := σ') (l := [(3, .pointer (some ⟨b3, 0, none⟩))]) ⟨(hf 3 (by kernel_rfl)).trans rfl, trivial⟩
   have hM := Mem.subR (R := R) hMR
   exact RW.step (Ex.loadA hM 0 [.int .i64 x1.Volume, .int .i64 x1.Start, .slice A2 n2 c2] ta100 rfl rfl rfl rfl) rfl rfl rfl (RW.nil ⟨rfl, rfl, _, rfl, H', [], Hp.le.refl _, hMR, rfl, rfl, trivial⟩)
  ·
   intro H' σ' w R E hle hMR hE0 hE hp hf
   obtain rfl := hE0 rfl
   obtain ⟨_, hg⟩ := hp 1 (by decide) (by kernel_rfl)
   obtain ⟨A10, n10, c10, s10, e18, _, hF13, _⟩ := hg.get rfl
   have e19 : σ' 12 = .slice A10 n10 c10 := (List.cons.inj e18).1
   obtain ⟨_, hg⟩ := hp 2 (by decide) (by kernel_rfl)
   obtain ⟨e20, _, _⟩ := hg.get rfl
   have e21 : σ' 13 = .agg #[.int .i64 x1.Volume, .int .i64 x1.Start, .slice A2 n2 c2] := (List.cons.inj e20).1
   obtain ⟨τ, rfl⟩ := slc (σ := σ') (l := [(12, .slice A10 n10 c10), (13, .agg #[.int .i64 x1.Volume, .int .i64 x1.Start, .slice A2 n2 c2])]) ⟨e19, e21, trivial⟩
   have hM := Mem.subR (R := R) hMR
   refine RW.callP hMR (ref07_FitsSizes_lift v8 x1 hF13 (hF2.mono (hle6.trans hle)) hW15) en74 rfl rfl rfl rfl ?_; rintro _ w HS9 _ hleS ⟨_, rfl, rfl, rfl⟩ hMR
   exact RW.nil ⟨rfl, rfl, _, rfl, HS9, [], hleS, hMR, rfl, rfl, trivial⟩
  ·
   intro H' σ' w R E hle hMR hE0 hE hp hf
   obtain rfl := hE0 rfl
   obtain ⟨_, hg⟩ := hp 3 (by decide) (by kernel_rfl)
   obtain ⟨e22, _, _⟩ := hg.get rfl
   have e23 : σ' 14 = .int .i64 v14 := (List.cons.inj e22).1
   obtain ⟨τ, rfl⟩ := slc (σ := σ') (l := [(14, .int .i64 v14)]) ⟨e23, trivial⟩
   have hM := Mem.subR (R := R) hMR
   exact RW.step (Ex.assign (.int .i64 v14) rfl) rfl rfl rfl (RW.nil ⟨rfl, rfl, _, rfl, H', [], Hp.le.refl _, hMR, rfl, rfl, trivial⟩)
  ·
   intro HR8 σ' w X miss hms hleR hM hX hX0 hf
   simp [subs] at hms
   rcases hms with rfl
   ·
    obtain ⟨H24, hH8⟩ : ∃ x, x = HR8 := ⟨_, rfl⟩
    subst hH8
    have hle25 := hleR
    obtain ⟨_, g0, y0⟩ := hX 0 (by decide) (by kernel_rfl)
    obtain ⟨_, rfl, _⟩ := g0.get rfl
    replace y0 : X 0 = [] := y0
    obtain ⟨_, g0, y1⟩ := hX 1 (by decide) (by kernel_rfl)
    obtain ⟨A10, n10, c10, s10, e26, rfl, hF13, _⟩ := g0.get rfl
    have e27 : σ' 12 = .slice A10 n10 c10 := (List.cons.inj e26).1
    replace y1 : X 1 = [] := y1
    obtain ⟨_, g0, y2⟩ := hX 2 (by decide) (by kernel_rfl)
    obtain ⟨_, rfl, _⟩ := g0.get rfl
    replace y2 : X 2 = [] := y2
    obtain ⟨_, g0, y3⟩ := hX 3 (by decide) (by kernel_rfl)
    obtain ⟨_, rfl, _⟩ := g0.get rfl
    replace y3 : X 3 = [] := y3
    obtain ⟨_, g0, y4⟩ := hX 4 (by decide) (by kernel_rfl)
    obtain ⟨e28, rfl, _⟩ := g0.get rfl
    have e29 : σ' 4 = .int .i64 v14 := (List.cons.inj e28).1
    replace y4 : X 4 = [] := y4
    have hfl : flatX X 5 = [] := by
     show X 0 ++ (X 1 ++ (X 2 ++ (X 3 ++ (X 4 ++ [])))) = _
     rw [y0, y1, y2, y3, y4]; rfl
    rw [hfl] at hM
    obtain ⟨τ, rfl⟩ := slc (σ := σ') (l := [(4, .int .i64 v14)]) ⟨e29, trivial⟩
    change RA _ _ _ _ _ _ _ (sl [(4, .int .i64 v14)] τ) _ 5 _
    refine RA.done (by kernel_rfl) ?_
    refine CW.ret ?_
    refine end_tmp (.inl rfl) rfl (.int .i64 v14) rfl ?_
    exact ⟨_, _, (hM.pick [] rfl rfl), v14, hm, rfl, rfl⟩
theorem ref02_change_lift {H : Hp} (x0 : api_Bitmap) (x1 : api_Extent) (x2 : Bool) {A1 : Option Addr} {n1 c1 : Nat} {s1 : List Value} (hF1 : Fz (α := BitVec 64) H A1 n1 c1 x0.Words s1) {Φ : api_Bitmap × Int → Prop} (hm : ref02_change_W x0 x1 x2 Φ) : RetP Tryd.prog 114 #[.agg #[.int .i64 x0.Size, .slice A1 n1 c1], .agg #[.int .i64 x1.Start, .int .i64 x1.Count], .bool x2] H (fun H' v L => ∃ y, Φ y ∧ ∃ A60, ∃ n60, ∃ c60, ∃ s60, v = .tuple #[.agg #[.int .i64 (y.1.Size), .slice A60 n60 c60], .int .i64 (y.2)] ∧ DtL (α := BitVec 64) H' s60 y.1.Words ∧ n60 = y.1.Words.length ∧ L = [.row (.slice A60 n60 c60) 151 1 n60 s60]) := by
 refine RetP.of_code Tryd.func114 rfl (nb rfl) fun w0 hM => ?_
 refine CW.sr ?_
 refine RW.box hM (.agg #[.int .i64 x0.Size, .slice A1 n1 c1]) [.int .i64 x0.Size, .slice A1 n1 c1] rfl rfl rfl rfl ?_; intro b2 w hM
 refine RW.box hM (.agg #[.int .i64 x1.Start, .int .i64 x1.Count]) [.int .i64 x1.Start, .int .i64 x1.Count] rfl rfl rfl rfl ?_; intro b3 w hM
 refine RW.alloc hM tz65 [.int .i64 0, .slice none 0 0] rfl rfl rfl ?_; intro b4 w hM
 refine RW.st (Ex.assign (.int .i64 0) rfl) rfl <| RW.nil <| CW.seq <| CW.sr <| RW.st (Ex.loadA hM 2 [.int .i64 x0.Size, .slice A1 n1 c1] ta65 rfl rfl rfl rfl) rfl ?_
 refine RW.callP hM (ref02_Check_lift x0 hF1 hm) en67 rfl rfl rfl rfl ?_; rintro _ w H6 _ hle7 ⟨v5, hm, rfl, rfl⟩ hM
 refine RW.st (Ex.neq rfl rfl) rfl <| RW.nil ?_
 refine CW.cond_dec (p := v5 ≠ 0) rfl (fun hc8 => ?_) (fun hc8 => ?_)
 ·
  replace hm := And.left hm hc8
  refine CW.sr <| RW.st (Ex.build bs65 [] [.int .i64 0, .slice none 0 0] rfl rfl) rfl ?_
  refine RW.store hM 0 (.agg #[.int .i64 0, .slice none 0 0]) [.int .i64 0, .slice none 0 0] [.int .i64 0, .slice none 0 0] sz65 rfl rfl rfl (oneAll ⟨rfl, rfl, trivial⟩) rfl (nb rfl) rfl [.box b4 65 [.int .i64 0, .slice none 0 0], .box b3 103 [.int .i64 x1.Start, .int .i64 x1.Count], .box b2 65 [.int .i64 x0.Size, .slice A1 n1 c1]] rfl rfl rfl ?_; intro w hM
  refine RW.st (Ex.assign (.int .i64 3) rfl) rfl <| RW.nil <| CW.ret ?_
  refine tqr ?_
  refine ect (k := 0) (.inl rfl) rfl hM rfl (.int .i64 3) rfl ta65 [.int .i64 0, .slice none 0 0] rfl rfl ?_
  replace hM := hM.nilRow 151 1
  exact ⟨_, _, (hM.pick [0] rfl rfl), ((api_Bitmap.mk 0 ([] : List (BitVec 64))), 3), hm, none, 0, 0, [], rfl, (DtL.nil : DtL _ [] ([] : List (BitVec 64))), rfl, rfl⟩
 ·
  replace hm := And.right hm hc8
  refine CW.skip <| CW.seq <| CW.sr <| RW.st (Ex.loadA hM 1 [.int .i64 x1.Start, .int .i64 x1.Count] ta103 rfl rfl rfl rfl) rfl <| RW.st (Ex.fieldAddr fa65_0 rfl) rfl <| RW.st (Ex.load1 hM 2 to3 rfl rfl rfl) rfl ?_
  refine RW.callP hM (ref02_Fits_lift x1 x0.Size hm) en149 rfl rfl rfl rfl ?_; rintro _ w H10 _ hle11 ⟨v9, hm, rfl, rfl⟩ hM
  refine RW.st (Ex.not (p := v9 = true) (bvar _)) rfl <| RW.nil ?_
  refine CW.cond_dec (p := ¬ (v9 = true)) rfl (fun hc12 => ?_) (fun hc12 => ?_)
  ·
   replace hm := And.left hm hc12
   refine CW.sr <| RW.st (Ex.build bs65 [] [.int .i64 0, .slice none 0 0] rfl rfl) rfl ?_
   refine RW.store hM 0 (.agg #[.int .i64 0, .slice none 0 0]) [.int .i64 0, .slice none 0 0] [.int .i64 0, .slice none 0 0] sz65 rfl rfl rfl (oneAll ⟨rfl, rfl, trivial⟩) rfl (nb rfl) rfl [.box b4 65 [.int .i64 0, .slice none 0 0], .box b3 103 [.int .i64 x1.Start, .int .i64 x1.Count], .box b2 65 [.int .i64 x0.Size, .slice A1 n1 c1]] rfl rfl rfl ?_; intro w hM
   refine RW.st (Ex.assign (.int .i64 2) rfl) rfl <| RW.nil <| CW.ret ?_
   refine tqr ?_
   refine ect (k := 0) (.inl rfl) rfl hM rfl (.int .i64 2) rfl ta65 [.int .i64 0, .slice none 0 0] rfl rfl ?_
   replace hM := hM.nilRow 151 1
   exact ⟨_, _, (hM.pick [0] rfl rfl), ((api_Bitmap.mk 0 ([] : List (BitVec 64))), 2), hm, none, 0, 0, [], rfl, (DtL.nil : DtL _ [] ([] : List (BitVec 64))), rfl, rfl⟩
  ·
   replace hm := And.right hm hc12
   refine CW.skip <| CW.sr <| RW.st (Ex.loadA hM 2 [.int .i64 x0.Size, .slice A1 n1 c1] ta65 rfl rfl rfl rfl) rfl ?_
   refine RW.callP hM (ref02_Copy_lift x0 (hF1.mono (hle7.trans hle11)) hm) en129 rfl rfl rfl rfl ?_; rintro _ w H14 _ hle15 ⟨v13, hm, A16, n16, c16, s16, rfl, hd17, hn18, rfl⟩ hM
   refine RW.alloc hM tz65 [.int .i64 0, .slice none 0 0] rfl rfl rfl ?_; intro b19 w hM
   refine RW.store hM 0 (.agg #[.int .i64 v13.Size, .slice A16 n16 c16]) [.int .i64 v13.Size, .slice A16 n16 c16] [.int .i64 v13.Size, .slice A16 n16 c16] sz65 rfl rfl rfl (oneAll ⟨rfl, rfl, trivial⟩) rfl (nb rfl) rfl [.box b19 65 [.int .i64 v13.Size, .slice A16 n16 c16], .row (.slice A16 n16 c16) 151 1 n16 s16, .box b4 65 [.int .i64 0, .slice none 0 0], .box b3 103 [.int .i64 x1.Start, .int .i64 x1.Count], .box b2 65 [.int .i64 x0.Size, .slice A1 n1 c1]] rfl rfl rfl ?_; intro w hM
   refine RW.nil <| CW.seq <| CW.sr <| RW.st (Ex.fieldAddr fa103_0 rfl) rfl <| RW.st (Ex.load1 hM 3 to3 rfl rfl rfl) rfl <| RW.st (Ex.assign (.int .i64 x1.Start) rfl) rfl <| RW.nil <| CW.block ?_
   obtain ⟨m59, hm⟩ := hm
   skip
   refine CW.loop (β := Nat) (fun n σ w => ∃ (v22 : List (BitVec 64)), ∃ (A23 : Option Addr), ∃ (n24 : Nat), ∃ (c25 : Nat), ∃ (s26 : List Value), ∃ (v29 : Int), ∃ Hk20, H14.le Hk20 ∧ (∃ τ, σ = sl [(2, .bool x2), (4, .pointer (some ⟨b3, 0, none⟩)), (6, .pointer (some ⟨b4, 0, none⟩)), (8, .pointer (some ⟨b19, 0, none⟩)), (9, .int .i64 v29)] τ) ∧ Mem w0 H w Hk20 [.box b3 103 [.int .i64 x1.Start, .int .i64 x1.Count], .box b4 65 [.int .i64 0, .slice none 0 0], .box b19 65 [.int .i64 v13.Size, .slice A23 n24 c25], .row (.slice A23 n24 c25) 151 1 n24 s26] ∧ (DtL (α := BitVec 64) Hk20 s26 v22) ∧ (n24 = v22.length) ∧ LoopN (ref02_change_L1 x1 x2 v13 Φ) n (v22, v29)) (fun n => n) m59 ⟨v13.Words, A16, n16, c16, s16, x1.Start, H14, (Hp.le.refl _), slc ⟨rfl, rfl, rfl, rfl, rfl, trivial⟩, (hM.pick [3, 2, 0, 1] rfl rfl), hd17, hn18, hm⟩ ?_
   rintro k30 _ w ⟨v22, A23, n24, c25, s26, v29, Hk20, hle21, ⟨τ, rfl⟩, hM, hd27, hn28, hm⟩
   obtain _ | k30 := k30
   · exact hm.elim
   replace hm : (ref02_change_L1 x1 x2 v13 Φ) (v22, v29) (LoopN (ref02_change_L1 x1 x2 v13 Φ) k30) := hm
   generalize hrec31 : LoopN (ref02_change_L1 x1 x2 v13 Φ) k30 = rec1 at hm
   refine CW.seq <| CW.sr <| RW.st (Ex.move (.int .i64 v29) rfl) rfl <| RW.st (Ex.fieldAddr fa103_0 rfl) rfl <| RW.st (Ex.load1 hM 0 to3 rfl rfl rfl) rfl <| RW.st (Ex.fieldAddr fa103_1 rfl) rfl <| RW.st (Ex.load1 hM 0 to3 rfl rfl rfl) rfl ?_
   obtain ⟨hg32, hm⟩ := hm
   refine RW.st (Ex.add rfl rfl hg32.1 hg32.2) rfl <| RW.st (Ex.lss rfl rfl) rfl <| RW.nil ?_
   refine CW.cond_dec (p := v29 < (x1.Start + x1.Count)) rfl (fun hc33 => ?_) (fun hc33 => ?_)
   ·
    replace hm := And.left hm hc33
    refine CW.skip <| CW.seq <| CW.block <| CW.sr <| RW.st (Ex.move (.bool x2) rfl) rfl <| RW.nil ?_
    refine CW.cond_b rfl (fun hc44 => ?_) (fun hc44 => ?_)
    ·
     replace hm := And.left hm hc44
     obtain ⟨hg45, hm⟩ := hm
     obtain ⟨hg46, hm⟩ := hm
     obtain ⟨_, rfl, hx47⟩ := DtL.getI (α := BitVec 64) hd27 hg46
     obtain ⟨hg48, hm⟩ := hm
     refine CW.drawE 15 [.pointer (some ⟨b19, 1, none⟩), .slice A23 n24 c25, .int .i64 v29, .int .i64 (v29 / 64), .pointer (some ⟨b19, 1, none⟩), .slice A23 n24 c25, .int .i64 v29, .int .i64 (v29 / 64), elp A23 (((v29 / 64).toNat) * 1 + 0), u64 ((ix v22 (v29 / 64))), .int .i64 v29, .int .i64 (v29 % 64), u64 (BitVec.ofInt 64 (v29 % 64)), u64 ((1#64) <<< ((BitVec.ofInt 64 (v29 % 64)).toNat : Int).toNat), u64 ((ix v22 (v29 / 64)) ||| ((1#64) <<< ((BitVec.ofInt 64 (v29 % 64)).toNat : Int).toNat))]
      [[(8, none)], [(34, some 0)], [(9, none)], [(36, some 2)], [(8, none)], [(38, some 4)], [(9, none)], [(40, some 6)], [(39, some 5), (41, some 7)], [(42, some 8)], [(9, none)], [(44, some 10)], [(45, some 11)], [(46, some 12)], [(43, some 9), (47, some 13)]] [(2, none), (4, none), (6, none), (8, none), (9, none), (35, some 1), (37, some 3), (48, some 14)] (by kernel_rfl) hM (by kernel_rfl) ⟨?_, ?_, ?_, ?_, ?_, ?_, ?_, ?_, ?_, ?_, ?_, ?_, ?_, ?_, ?_, trivial⟩ ?_
     · exact One.ex (fun H' τ w hled hM => Ex.fieldAddr fa65_1 rfl) rfl (fun _ => rfl) rfl
     · exact One.ex (fun H' τ w hled hM => Ex.load1 hM 2 to63 rfl rfl rfl) rfl (fun _ => rfl) rfl
     · exact One.ex (fun H' τ w hled hM => Ex.move (.int .i64 v29) rfl) rfl (fun _ => rfl) rfl
     · exact One.ex (fun H' τ w hled hM => Ex.quo rfl rfl hg45.1 hg45.2.2 (by decide)) rfl (fun _ => rfl) rfl
     · exact One.ex (fun H' τ w hled hM => Ex.fieldAddr fa65_1 rfl) rfl (fun _ => rfl) rfl
     · exact One.ex (fun H' τ w hled hM => Ex.load1 hM 2 to63 rfl rfl rfl) rfl (fun _ => rfl) rfl
     · exact One.ex (fun H' τ w hled hM => Ex.move (.int .i64 v29) rfl) rfl (fun _ => rfl) rfl
     · exact One.ex (fun H' τ w hled hM => Ex.quo rfl rfl hg45.1 hg45.2.2 (by decide)) rfl (fun _ => rfl) rfl
     · exact One.ex (fun H' τ w hled hM => Ex.index st63 rfl rfl ((v29 / 64).toNat) (hM.rowNeD (α := BitVec 64) (p := 3) rfl hn28 hg46) hg46.nat (Nat.lt_of_lt_of_eq hg46.lt (hn28).symm)) rfl (fun _ => rfl) rfl
     · exact One.ex (fun H' τ w hled hM => Ex.loadR hM 3 rfl to151 (hM.rowNeD (α := BitVec 64) (p := 3) rfl hn28 hg46) rfl (hx47 0 _ rfl)) rfl (fun _ => rfl) rfl
     · exact One.ex (fun H' τ w hled hM => Ex.move (.int .i64 v29) rfl) rfl (fun _ => rfl) rfl
     · exact One.ex (fun H' τ w hled hM => Ex.rem rfl rfl hg48 (by decide)) rfl (fun _ => rfl) rfl
     · exact One.ex (fun H' τ w hled hM => Ex.convI64 Tryd.underlying3 Tryd.underlying178 rfl) rfl (fun _ => rfl) rfl
     · exact One.ex (fun H' τ w hled hM => Ex.shl64 (a := 1#64) (n := (BitVec.ofInt 64 (v29 % 64)).toNat) rfl rfl (by omega)) rfl (fun _ => rfl) rfl
     · exact One.ex (fun H' τ w hled hM => Ex.or64 (a := (ix v22 (v29 / 64))) (b := (1#64) <<< ((BitVec.ofInt 64 (v29 % 64)).toNat : Int).toNat) rfl rfl) rfl (fun _ => rfl) rfl
     intro τ w hM
     change RW _ _ _ _ _ _ _ _ (sl [(2, .bool x2), (4, .pointer (some ⟨b3, 0, none⟩)), (6, .pointer (some ⟨b4, 0, none⟩)), (8, .pointer (some ⟨b19, 0, none⟩)), (9, .int .i64 v29), (35, .slice A23 n24 c25), (37, .int .i64 (v29 / 64)), (48, u64 ((ix v22 (v29 / 64)) ||| ((1#64) <<< ((BitVec.ofInt 64 (v29 % 64)).toNat : Int).toNat)))] τ) _
     refine RW.st (Ex.index st63 rfl rfl ((v29 / 64).toNat) (hM.rowNeD (α := BitVec 64) (p := 3) rfl hn28 hg46) hg46.nat (Nat.lt_of_lt_of_eq hg46.lt (hn28).symm)) rfl ?_
     refine RW.storeD (α := BitVec 64) (off := 0) (x' := (ix v22 (v29 / 64)) ||| ((1#64) <<< ((BitVec.ofInt 64 (v29 % 64)).toNat : Int).toNat)) hM 3 hd27 (u64 ((ix v22 (v29 / 64)) ||| ((1#64) <<< ((BitVec.ofInt 64 (v29 % 64)).toNat : Int).toNat))) [u64 ((ix v22 (v29 / 64)) ||| ((1#64) <<< ((BitVec.ofInt 64 (v29 % 64)).toNat : Int).toNat))] sz151 rfl hn28 hg46 (nb rfl) rfl rfl (oneAll ⟨rfl, trivial⟩) rfl (fun ch h => rdWhole h (show Dt.rd (α := BitVec 64) _ [u64 ((ix v22 (v29 / 64)) ||| ((1#64) <<< ((BitVec.ofInt 64 (v29 % 64)).toNat : Int).toNat))] ((ix v22 (v29 / 64)) ||| ((1#64) <<< ((BitVec.ofInt 64 (v29 % 64)).toNat : Int).toNat)) from rfl)) rfl rfl ?_
     intro s49 w hd50 hM
     refine RW.nil <| CW.region <| RW.st (Ex.move (.int .i64 v29) rfl) rfl ?_
     obtain ⟨hg51, hm⟩ := hm
     refine RW.st (Ex.add rfl rfl hg51.1 hg51.2) rfl <| RW.st (Ex.assign (.int .i64 (v29 + 1)) rfl) rfl <| RW.nil ?_
     exact And.intro rfl ⟨k30, ⟨(put v22 (v29 / 64) ((ix v22 (v29 / 64)) ||| ((1#64) <<< ((BitVec.ofInt 64 (v29 % 64)).toNat : Int).toNat))), A23, n24, c25, s49, v29 + 1, Hk20, hle21.trans (Hp.le.refl _), slc ⟨rfl, rfl, rfl, rfl, rfl, trivial⟩, hM, hd50, (hn28).trans (put_len _ _ _).symm, (by rw [hrec31]; exact hm)⟩, Nat.lt_succ_self _⟩
    ·
     replace hm := And.right hm hc44
     obtain ⟨hg52, hm⟩ := hm
     obtain ⟨hg53, hm⟩ := hm
     obtain ⟨_, rfl, hx54⟩ := DtL.getI (α := BitVec 64) hd27 hg53
     obtain ⟨hg55, hm⟩ := hm
     refine CW.drawE 15 [.pointer (some ⟨b19, 1, none⟩), .slice A23 n24 c25, .int .i64 v29, .int .i64 (v29 / 64), .pointer (some ⟨b19, 1, none⟩), .slice A23 n24 c25, .int .i64 v29, .int .i64 (v29 / 64), elp A23 (((v29 / 64).toNat) * 1 + 0), u64 ((ix v22 (v29 / 64))), .int .i64 v29, .int .i64 (v29 % 64), u64 (BitVec.ofInt 64 (v29 % 64)), u64 ((1#64) <<< ((BitVec.ofInt 64 (v29 % 64)).toNat : Int).toNat), u64 ((ix v22 (v29 / 64)) &&& ~~~((1#64) <<< ((BitVec.ofInt 64 (v29 % 64)).toNat : Int).toNat))]
      [[(8, none)], [(50, some 0)], [(9, none)], [(52, some 2)], [(8, none)], [(54, some 4)], [(9, none)], [(56, some 6)], [(55, some 5), (57, some 7)], [(58, some 8)], [(9, none)], [(60, some 10)], [(61, some 11)], [(62, some 12)], [(59, some 9), (63, some 13)]] [(2, none), (4, none), (6, none), (8, none), (9, none), (51, some 1), (53, some 3), (64, some 14)] (by kernel_rfl) hM (by kernel_rfl) ⟨?_, ?_, ?_, ?_, ?_, ?_, ?_, ?_, ?_, ?_, ?_, ?_, ?_, ?_, ?_, trivial⟩ ?_
     · exact One.ex (fun H' τ w hled hM => Ex.fieldAddr fa65_1 rfl) rfl (fun _ => rfl) rfl
     · exact One.ex (fun H' τ w hled hM => Ex.load1 hM 2 to63 rfl rfl rfl) rfl (fun _ => rfl) rfl
     · exact One.ex (fun H' τ w hled hM => Ex.move (.int .i64 v29) rfl) rfl (fun _ => rfl) rfl
     · exact One.ex (fun H' τ w hled hM => Ex.quo rfl rfl hg52.1 hg52.2.2 (by decide)) rfl (fun _ => rfl) rfl
     · exact One.ex (fun H' τ w hled hM => Ex.fieldAddr fa65_1 rfl) rfl (fun _ => rfl) rfl
     · exact One.ex (fun H' τ w hled hM => Ex.load1 hM 2 to63 rfl rfl rfl) rfl (fun _ => rfl) rfl
     · exact One.ex (fun H' τ w hled hM => Ex.move (.int .i64 v29) rfl) rfl (fun _ => rfl) rfl
     · exact One.ex (fun H' τ w hled hM => Ex.quo rfl rfl hg52.1 hg52.2.2 (by decide)) rfl (fun _ => rfl) rfl
     · exact One.ex (fun H' τ w hled hM => Ex.index st63 rfl rfl ((v29 / 64).toNat) (hM.rowNeD (α := BitVec 64) (p := 3) rfl hn28 hg53) hg53.nat (Nat.lt_of_lt_of_eq hg53.lt (hn28).symm)) rfl (fun _ => rfl) rfl
     · exact One.ex (fun H' τ w hled hM => Ex.loadR hM 3 rfl to151 (hM.rowNeD (α := BitVec 64) (p := 3) rfl hn28 hg53) rfl (hx54 0 _ rfl)) rfl (fun _ => rfl) rfl
     · exact One.ex (fun H' τ w hled hM => Ex.move (.int .i64 v29) rfl) rfl (fun _ => rfl) rfl
     · exact One.ex (fun H' τ w hled hM => Ex.rem rfl rfl hg55 (by decide)) rfl (fun _ => rfl) rfl
     · exact One.ex (fun H' τ w hled hM => Ex.convI64 Tryd.underlying3 Tryd.underlying178 rfl) rfl (fun _ => rfl) rfl
     · exact One.ex (fun H' τ w hled hM => Ex.shl64 (a := 1#64) (n := (BitVec.ofInt 64 (v29 % 64)).toNat) rfl rfl (by omega)) rfl (fun _ => rfl) rfl
     · exact One.ex (fun H' τ w hled hM => Ex.andNot64 (a := (ix v22 (v29 / 64))) (b := (1#64) <<< ((BitVec.ofInt 64 (v29 % 64)).toNat : Int).toNat) rfl rfl) rfl (fun _ => rfl) rfl
     intro τ w hM
     change RW _ _ _ _ _ _ _ _ (sl [(2, .bool x2), (4, .pointer (some ⟨b3, 0, none⟩)), (6, .pointer (some ⟨b4, 0, none⟩)), (8, .pointer (some ⟨b19, 0, none⟩)), (9, .int .i64 v29), (51, .slice A23 n24 c25), (53, .int .i64 (v29 / 64)), (64, u64 ((ix v22 (v29 / 64)) &&& ~~~((1#64) <<< ((BitVec.ofInt 64 (v29 % 64)).toNat : Int).toNat)))] τ) _
     refine RW.st (Ex.index st63 rfl rfl ((v29 / 64).toNat) (hM.rowNeD (α := BitVec 64) (p := 3) rfl hn28 hg53) hg53.nat (Nat.lt_of_lt_of_eq hg53.lt (hn28).symm)) rfl ?_
     refine RW.storeD (α := BitVec 64) (off := 0) (x' := (ix v22 (v29 / 64)) &&& ~~~((1#64) <<< ((BitVec.ofInt 64 (v29 % 64)).toNat : Int).toNat)) hM 3 hd27 (u64 ((ix v22 (v29 / 64)) &&& ~~~((1#64) <<< ((BitVec.ofInt 64 (v29 % 64)).toNat : Int).toNat))) [u64 ((ix v22 (v29 / 64)) &&& ~~~((1#64) <<< ((BitVec.ofInt 64 (v29 % 64)).toNat : Int).toNat))] sz151 rfl hn28 hg53 (nb rfl) rfl rfl (oneAll ⟨rfl, trivial⟩) rfl (fun ch h => rdWhole h (show Dt.rd (α := BitVec 64) _ [u64 ((ix v22 (v29 / 64)) &&& ~~~((1#64) <<< ((BitVec.ofInt 64 (v29 % 64)).toNat : Int).toNat))] ((ix v22 (v29 / 64)) &&& ~~~((1#64) <<< ((BitVec.ofInt 64 (v29 % 64)).toNat : Int).toNat)) from rfl)) rfl rfl ?_
     intro s56 w hd57 hM
     refine RW.nil <| CW.region <| RW.st (Ex.move (.int .i64 v29) rfl) rfl ?_
     obtain ⟨hg58, hm⟩ := hm
     refine RW.st (Ex.add rfl rfl hg58.1 hg58.2) rfl <| RW.st (Ex.assign (.int .i64 (v29 + 1)) rfl) rfl <| RW.nil ?_
     exact And.intro rfl ⟨k30, ⟨(put v22 (v29 / 64) ((ix v22 (v29 / 64)) &&& ~~~((1#64) <<< ((BitVec.ofInt 64 (v29 % 64)).toNat : Int).toNat))), A23, n24, c25, s56, v29 + 1, Hk20, hle21.trans (Hp.le.refl _), slc ⟨rfl, rfl, rfl, rfl, rfl, trivial⟩, hM, hd57, (hn28).trans (put_len _ _ _).symm, (by rw [hrec31]; exact hm)⟩, Nat.lt_succ_self _⟩
   ·
    replace hm := And.right hm hc33
    refine CW.exit ?_
    refine CW.sr <| RW.st (Ex.loadA hM 2 [.int .i64 v13.Size, .slice A23 n24 c25] ta65 rfl rfl rfl rfl) rfl ?_
    refine RW.store hM 1 (.agg #[.int .i64 v13.Size, .slice A23 n24 c25]) [.int .i64 v13.Size, .slice A23 n24 c25] [.int .i64 v13.Size, .slice A23 n24 c25] sz65 rfl rfl rfl (oneAll ⟨rfl, rfl, trivial⟩) rfl (nb rfl) rfl [.box b3 103 [.int .i64 x1.Start, .int .i64 x1.Count], .box b4 65 [.int .i64 v13.Size, .slice A23 n24 c25], .box b19 65 [.int .i64 v13.Size, .slice A23 n24 c25], .row (.slice A23 n24 c25) 151 1 n24 s26] rfl rfl rfl ?_; intro w hM
    refine RW.st (Ex.assign (.int .i64 0) rfl) rfl <| RW.nil <| CW.ret ?_
    refine ect (k := 1) (.inl rfl) rfl hM rfl (.int .i64 0) rfl ta65 [.int .i64 v13.Size, .slice A23 n24 c25] rfl rfl ?_
    exact ⟨_, _, (hM.pick [3] rfl rfl), ((api_Bitmap.mk v13.Size v22), 0), hm, A23, n24, c25, s26, rfl, hd27, hn28, rfl⟩
theorem image_sizes_lift {H : Hp} (x0 : List (List Sec)) {A1 : Option Addr} {n1 c1 : Nat} {s1 : List Value} (hF1 : Fz (α := List Sec) H A1 n1 c1 x0 s1) {Φ : List Int → Prop} (hm : image_sizes_W x0 Φ) : RetP Tryd.prog 111 #[.slice A1 n1 c1] H (fun H' v L => ∃ y, Φ y ∧ ∃ A8, ∃ n8, ∃ c8, ∃ s8, v = .slice A8 n8 c8 ∧ DtL (α := Int) H' s8 y ∧ n8 = y.length ∧ L = [.row (.slice A8 n8 c8) 3 1 n8 s8]) := by
 refine RetP.of_code Tryd.func111 rfl (nb rfl) fun w0 hM => ?_
 refine CW.sr <| RW.st (Ex.assign (.slice none 0 0) rfl) rfl <| RW.nil <| CW.sr <| RW.st (Ex.move (.slice A1 n1 c1) rfl) rfl ?_
 refine RW.callP hM (image_mapped_api_Sector_int__image_sizes_1_lift x0 hF1 hm) en146 rfl rfl rfl rfl ?_; rintro _ w H3 _ hle4 ⟨v2, hm, A5, n5, c5, s5, rfl, hd6, hn7, rfl⟩ hM
 refine RW.st (Ex.assign (.slice A5 n5 c5) rfl) rfl <| RW.nil <| CW.ret ?_
 refine end_tmp (.inl rfl) rfl (.slice A5 n5 c5) rfl ?_
 exact ⟨_, _, hM, v2, hm, A5, n5, c5, s5, rfl, hd6, hn7, rfl⟩
theorem slices_ContainsFunc_int_int__image_checkSizes_1_lift {H : Hp} (x0 : List Int) {A1 : Option Addr} {n1 c1 : Nat} {s1 : List Value} (hF1 : Fz (α := Int) H A1 n1 c1 x0 s1) {Φ : Bool → Prop} (hm : slices_ContainsFunc_int_int__image_checkSizes_1_W x0 Φ) : RetP Tryd.prog 140 #[.slice A1 n1 c1, .func (.func 145) #[] #[]] H (fun _ v L => ∃ y, Φ y ∧ v = .bool y ∧ L = []) := by
 refine RetP.of_code Tryd.func140 rfl (nb rfl) fun w0 hM => ?_
 refine CW.sr <| RW.st (Ex.assign (.bool false) rfl) rfl <| RW.nil <| CW.sr <| RW.st (Ex.move (.slice A1 n1 c1) rfl) rfl <| RW.st (Ex.move (.func (.func 145) #[] #[]) rfl) rfl ?_
 refine RW.callP hM (slices_IndexFunc_int_int__image_checkSizes_1_lift x0 hF1 hm) en157 rfl rfl rfl rfl ?_; rintro _ w H3 _ hle4 ⟨v2, hm, rfl, rfl⟩ hM
 refine RW.st (Ex.geq rfl rfl) rfl <| RW.st (Ex.assign (.bool (decide (0 ≤ v2))) rfl) rfl <| RW.nil <| CW.ret ?_
 refine end_tmp (.inl rfl) rfl (.bool (decide (0 ≤ v2))) rfl ?_
 exact ⟨_, _, hM, decide (0 ≤ v2), hm, rfl, rfl⟩
theorem delta_alike_lift {H : Hp} (x0 : List (List Sec)) (x1 : List (List Sec)) {A1 : Option Addr} {n1 c1 : Nat} {s1 : List Value} (hF1 : Fz (α := List Sec) H A1 n1 c1 x0 s1) {A2 : Option Addr} {n2 c2 : Nat} {s2 : List Value} (hF2 : Fz (α := List Sec) H A2 n2 c2 x1 s2) {Φ : Bool → Prop} (hm : delta_alike_W x0 x1 Φ) : RetP Tryd.prog 98 #[.slice A1 n1 c1, .slice A2 n2 c2] H (fun _ v L => ∃ y, Φ y ∧ v = .bool y ∧ L = []) := by
 refine RetP.of_code Tryd.func98 rfl (nb rfl) fun w0 hM => ?_
 refine CW.sr <| RW.st (Ex.assign (.bool false) rfl) rfl <| RW.nil <| CW.sr <| RW.st (Ex.move (.slice A1 n1 c1) rfl) rfl <| RW.st (Ex.move (.slice A2 n2 c2) rfl) rfl ?_
 refine RW.callP hM (slEF_lift x0 x1 hF1 hF2 hm) en135 rfl rfl rfl rfl ?_; rintro _ w H4 _ hle5 ⟨v3, hm, rfl, rfl⟩ hM
 refine RW.st (Ex.assign (.bool v3) rfl) rfl <| RW.nil <| CW.ret ?_
 refine end_tmp (.inl rfl) rfl (.bool v3) rfl ?_
 exact ⟨_, _, hM, v3, hm, rfl, rfl⟩
theorem bitmap_both__bitmap_Or_1_lift {H : Hp} (x0 : api_Bitmap) (x1 : api_Bitmap) {A1 : Option Addr} {n1 c1 : Nat} {s1 : List Value} (hF1 : Fz (α := BitVec 64) H A1 n1 c1 x0.Words s1) {A2 : Option Addr} {n2 c2 : Nat} {s2 : List Value} (hF2 : Fz (α := BitVec 64) H A2 n2 c2 x1.Words s2) {Φ : api_Bitmap × Int → Prop} (hm : bitmap_both__bitmap_Or_1_W x0 x1 Φ) : RetP Tryd.prog 125 #[.agg #[.int .i64 x0.Size, .slice A1 n1 c1], .agg #[.int .i64 x1.Size, .slice A2 n2 c2], .func (.func 126) #[] #[]] H (fun H' v L => ∃ y, Φ y ∧ ∃ A47, ∃ n47, ∃ c47, ∃ s47, v = .tuple #[.agg #[.int .i64 (y.1.Size), .slice A47 n47 c47], .int .i64 (y.2)] ∧ DtL (α := BitVec 64) H' s47 y.1.Words ∧ n47 = y.1.Words.length ∧ L = [.row (.slice A47 n47 c47) 151 1 n47 s47]) := by
 refine RetP.of_code Tryd.func125 rfl (nb rfl) fun w0 hM => ?_
 refine CW.sr ?_
 refine RW.box hM (.agg #[.int .i64 x0.Size, .slice A1 n1 c1]) [.int .i64 x0.Size, .slice A1 n1 c1] rfl rfl rfl rfl ?_; intro b3 w hM
 refine RW.box hM (.agg #[.int .i64 x1.Size, .slice A2 n2 c2]) [.int .i64 x1.Size, .slice A2 n2 c2] rfl rfl rfl rfl ?_; intro b4 w hM
 refine RW.alloc hM tz65 [.int .i64 0, .slice none 0 0] rfl rfl rfl ?_; intro b5 w hM
 refine RW.st (Ex.assign (.int .i64 0) rfl) rfl <| RW.nil <| CW.seq <| CW.sr <| RW.st (Ex.loadA hM 2 [.int .i64 x0.Size, .slice A1 n1 c1] ta65 rfl rfl rfl rfl) rfl ?_
 refine RW.callP hM (bitmap_Check_lift x0 hF1 hm) en94 rfl rfl rfl rfl ?_; rintro _ w H7 _ hle8 ⟨v6, hm, rfl, rfl⟩ hM
 refine RW.st (Ex.assign (.int .i64 v6) rfl) rfl <| RW.nil <| CW.sr <| RW.st (Ex.move (.int .i64 v6) rfl) rfl <| RW.st (Ex.neq rfl rfl) rfl <| RW.nil ?_
 refine CW.cond_dec (p := v6 ≠ 0) rfl (fun hc9 => ?_) (fun hc9 => ?_)
 ·
  replace hm := And.left hm hc9
  refine CW.sr <| RW.st (Ex.build bs65 [] [.int .i64 0, .slice none 0 0] rfl rfl) rfl <| RW.st (Ex.move (.int .i64 v6) rfl) rfl ?_
  refine RW.store hM 0 (.agg #[.int .i64 0, .slice none 0 0]) [.int .i64 0, .slice none 0 0] [.int .i64 0, .slice none 0 0] sz65 rfl rfl rfl (oneAll ⟨rfl, rfl, trivial⟩) rfl (nb rfl) rfl [.box b5 65 [.int .i64 0, .slice none 0 0], .box b4 65 [.int .i64 x1.Size, .slice A2 n2 c2], .box b3 65 [.int .i64 x0.Size, .slice A1 n1 c1]] rfl rfl rfl ?_; intro w hM
  refine RW.st (Ex.assign (.int .i64 v6) rfl) rfl <| RW.nil <| CW.ret ?_
  refine tqr ?_
  refine ect (k := 0) (.inl rfl) rfl hM rfl (.int .i64 v6) rfl ta65 [.int .i64 0, .slice none 0 0] rfl rfl ?_
  replace hM := hM.nilRow 151 1
  exact ⟨_, _, (hM.pick [0] rfl rfl), ((api_Bitmap.mk 0 ([] : List (BitVec 64))), v6), hm, none, 0, 0, [], rfl, (DtL.nil : DtL _ [] ([] : List (BitVec 64))), rfl, rfl⟩
 ·
  replace hm := And.right hm hc9
  refine CW.skip <| CW.seq <| CW.sr <| RW.st (Ex.loadA hM 1 [.int .i64 x1.Size, .slice A2 n2 c2] ta65 rfl rfl rfl rfl) rfl ?_
  refine RW.callP hM (bitmap_Check_lift x1 (hF2.mono hle8) hm) en94 rfl rfl rfl rfl ?_; rintro _ w H11 _ hle12 ⟨v10, hm, rfl, rfl⟩ hM
  refine RW.st (Ex.assign (.int .i64 v10) rfl) rfl <| RW.nil <| CW.sr <| RW.st (Ex.move (.int .i64 v10) rfl) rfl <| RW.st (Ex.neq rfl rfl) rfl <| RW.nil ?_
  refine CW.cond_dec (p := v10 ≠ 0) rfl (fun hc13 => ?_) (fun hc13 => ?_)
  ·
   replace hm := And.left hm hc13
   refine CW.sr <| RW.st (Ex.build bs65 [] [.int .i64 0, .slice none 0 0] rfl rfl) rfl <| RW.st (Ex.move (.int .i64 v10) rfl) rfl ?_
   refine RW.store hM 0 (.agg #[.int .i64 0, .slice none 0 0]) [.int .i64 0, .slice none 0 0] [.int .i64 0, .slice none 0 0] sz65 rfl rfl rfl (oneAll ⟨rfl, rfl, trivial⟩) rfl (nb rfl) rfl [.box b5 65 [.int .i64 0, .slice none 0 0], .box b4 65 [.int .i64 x1.Size, .slice A2 n2 c2], .box b3 65 [.int .i64 x0.Size, .slice A1 n1 c1]] rfl rfl rfl ?_; intro w hM
   refine RW.st (Ex.assign (.int .i64 v10) rfl) rfl <| RW.nil <| CW.ret ?_
   refine tqr ?_
   refine ect (k := 0) (.inl rfl) rfl hM rfl (.int .i64 v10) rfl ta65 [.int .i64 0, .slice none 0 0] rfl rfl ?_
   replace hM := hM.nilRow 151 1
   exact ⟨_, _, (hM.pick [0] rfl rfl), ((api_Bitmap.mk 0 ([] : List (BitVec 64))), v10), hm, none, 0, 0, [], rfl, (DtL.nil : DtL _ [] ([] : List (BitVec 64))), rfl, rfl⟩
  ·
   replace hm := And.right hm hc13
   refine CW.skip <| CW.seq <| CW.sr <| RW.st (Ex.fieldAddr fa65_0 rfl) rfl <| RW.st (Ex.load1 hM 2 to3 rfl rfl rfl) rfl <| RW.st (Ex.fieldAddr fa65_0 rfl) rfl <| RW.st (Ex.load1 hM 1 to3 rfl rfl rfl) rfl <| RW.st (Ex.neq rfl rfl) rfl <| RW.nil ?_
   refine CW.cond_dec (p := x0.Size ≠ x1.Size) rfl (fun hc14 => ?_) (fun hc14 => ?_)
   ·
    replace hm := And.left hm hc14
    refine CW.sr <| RW.st (Ex.build bs65 [] [.int .i64 0, .slice none 0 0] rfl rfl) rfl ?_
    refine RW.store hM 0 (.agg #[.int .i64 0, .slice none 0 0]) [.int .i64 0, .slice none 0 0] [.int .i64 0, .slice none 0 0] sz65 rfl rfl rfl (oneAll ⟨rfl, rfl, trivial⟩) rfl (nb rfl) rfl [.box b5 65 [.int .i64 0, .slice none 0 0], .box b4 65 [.int .i64 x1.Size, .slice A2 n2 c2], .box b3 65 [.int .i64 x0.Size, .slice A1 n1 c1]] rfl rfl rfl ?_; intro w hM
    refine RW.st (Ex.assign (.int .i64 22) rfl) rfl <| RW.nil <| CW.ret ?_
    refine tqr ?_
    refine ect (k := 0) (.inl rfl) rfl hM rfl (.int .i64 22) rfl ta65 [.int .i64 0, .slice none 0 0] rfl rfl ?_
    replace hM := hM.nilRow 151 1
    exact ⟨_, _, (hM.pick [0] rfl rfl), ((api_Bitmap.mk 0 ([] : List (BitVec 64))), 22), hm, none, 0, 0, [], rfl, (DtL.nil : DtL _ [] ([] : List (BitVec 64))), rfl, rfl⟩
   ·
    replace hm := And.right hm hc14
    refine CW.skip <| CW.sr <| RW.st (Ex.fieldAddr fa65_1 rfl) rfl <| RW.st (Ex.load1 hM 2 to63 rfl rfl rfl) rfl <| RW.st (Ex.lenN st63.1 rfl hF1.hn) rfl ?_
    obtain ⟨hg21, hm⟩ := hm
    obtain ⟨hg22, hm⟩ := hm
    refine RW.makeD (α := BitVec 64) (x0 := 0#64) hM st63 tz151 [.int .u64 (0)] rfl (fun _ => rfl) rfl rfl hg21 hg22 rfl rfl ?_; intro b15 n16 s18 w hd19 hn20 hM
    refine RW.st (Ex.assign (.slice (some ⟨b15, 0, none⟩) n16 n16) rfl) rfl <| RW.nil <| CW.seq <| CW.sr <| RW.st (Ex.move (.slice (some ⟨b15, 0, none⟩) n16 n16) rfl) rfl <| RW.st (Ex.lenN st63.1 rfl hn20) rfl <| RW.st (Ex.move (.int .i64 0) rfl) rfl <| RW.nil <| CW.block ?_
    obtain ⟨m46, hm⟩ := hm
    skip
    refine CW.loop (β := Nat) (fun n σ w => ∃ (v25 : List (BitVec 64)), ∃ (A26 : Option Addr), ∃ (n27 : Nat), ∃ (c28 : Nat), ∃ (s29 : List Value), ∃ (v32 : Int), ∃ Hk23, H11.le Hk23 ∧ (∃ τ, σ = sl [(2, .func (.func 126) #[] #[]), (3, .pointer (some ⟨b3, 0, none⟩)), (4, .pointer (some ⟨b4, 0, none⟩)), (6, .pointer (some ⟨b5, 0, none⟩)), (10, .slice A26 n27 c28), (35, .int .i64 (((List.replicate (x0.Words.length : Int).toNat (0#64)).length : Int))), (36, .int .i64 v32)] τ) ∧ Mem w0 H w Hk23 [.box b3 65 [.int .i64 x0.Size, .slice A1 n1 c1], .box b4 65 [.int .i64 x1.Size, .slice A2 n2 c2], .box b5 65 [.int .i64 0, .slice none 0 0], .row (.slice A26 n27 c28) 151 1 n27 s29] ∧ (DtL (α := BitVec 64) Hk23 s29 v25) ∧ (n27 = v25.length) ∧ LoopN (bitmap_both__bitmap_Or_1_L1 x0 x1 Φ) n (v25, v32)) (fun n => n) m46 ⟨(List.replicate (x0.Words.length : Int).toNat (0#64)), (some ⟨b15, 0, none⟩), n16, n16, s18, 0, H11, (Hp.le.refl _), slc ⟨rfl, rfl, rfl, rfl, rfl, rfl, rfl, trivial⟩, (hM.pick [3, 2, 1, 0] rfl rfl), hd19, hn20, hm⟩ ?_
    rintro k33 _ w ⟨v25, A26, n27, c28, s29, v32, Hk23, hle24, ⟨τ, rfl⟩, hM, hd30, hn31, hm⟩
    obtain _ | k33 := k33
    · exact hm.elim
    replace hm : (bitmap_both__bitmap_Or_1_L1 x0 x1 Φ) (v25, v32) (LoopN (bitmap_both__bitmap_Or_1_L1 x0 x1 Φ) k33) := hm
    generalize hrec34 : LoopN (bitmap_both__bitmap_Or_1_L1 x0 x1 Φ) k33 = rec1 at hm
    refine CW.sr <| RW.st (Ex.lss rfl rfl) rfl <| RW.nil <| CW.seq ?_
    refine CW.cond_dec (p := v32 < ((List.replicate (x0.Words.length : Int).toNat (0#64)).length : Int)) rfl (fun hc35 => ?_) (fun hc35 => ?_)
    ·
     replace hm := And.left hm hc35
     refine CW.skip <| CW.seq <| CW.block <| CW.sr <| RW.st (Ex.move (.int .i64 v32) rfl) rfl <| RW.st (Ex.assign (.int .i64 v32) rfl) rfl <| RW.nil ?_
     obtain ⟨hg36, hm⟩ := hm
     obtain ⟨_, rfl, hx37⟩ := DtL.getI (α := BitVec 64) (hF1.mono ((hle8.trans hle12).trans hle24)).dat hg36
     obtain ⟨hg38, hm⟩ := hm
     obtain ⟨_, rfl, hx39⟩ := DtL.getI (α := BitVec 64) (hF2.mono ((hle8.trans hle12).trans hle24)).dat hg38
     obtain ⟨v40, hW41, hm⟩ := hm
     refine CW.drawE 14 [.slice A26 n27 c28, .int .i64 v32, .func (.func 126) #[] #[], .pointer (some ⟨b3, 1, none⟩), .slice A1 n1 c1, .int .i64 v32, elp A1 (v32.toNat * 1 + 0), u64 ((ix x0.Words v32)), .pointer (some ⟨b4, 1, none⟩), .slice A2 n2 c2, .int .i64 v32, elp A2 (v32.toNat * 1 + 0), u64 ((ix x1.Words v32)), u64 (v40)]
      [[(10, none)], [(11, none)], [(2, none)], [(3, none)], [(42, some 3)], [(11, none)], [(43, some 4), (44, some 5)], [(45, some 6)], [(4, none)], [(47, some 8)], [(11, none)], [(48, some 9), (49, some 10)], [(50, some 11)], [(41, some 2), (46, some 7), (51, some 12)]] [(2, none), (3, none), (4, none), (6, none), (10, none), (35, none), (36, none), (39, some 0), (40, some 1), (52, some 13)] (by kernel_rfl) hM (by kernel_rfl) ⟨?_, ?_, ?_, ?_, ?_, ?_, ?_, ?_, ?_, ?_, ?_, ?_, ?_, ?_, trivial⟩ ?_
     · exact One.ex (fun H' τ w hled hM => Ex.move (.slice A26 n27 c28) rfl) rfl (fun _ => rfl) rfl
     · exact One.ex (fun H' τ w hled hM => Ex.move (.int .i64 v32) rfl) rfl (fun _ => rfl) rfl
     · exact One.ex (fun H' τ w hled hM => Ex.move (.func (.func 126) #[] #[]) rfl) rfl (fun _ => rfl) rfl
     · exact One.ex (fun H' τ w hled hM => Ex.fieldAddr fa65_1 rfl) rfl (fun _ => rfl) rfl
     · exact One.ex (fun H' τ w hled hM => Ex.load1 hM 0 to63 rfl rfl rfl) rfl (fun _ => rfl) rfl
     · exact One.ex (fun H' τ w hled hM => Ex.move (.int .i64 v32) rfl) rfl (fun _ => rfl) rfl
     · exact One.ex (fun H' τ w hled hM => Ex.index st63 rfl rfl v32.toNat (hF1.ne hg36) hg36.nat (hF1.lt hg36)) rfl (fun _ => rfl) rfl
     · exact One.ex (fun H' τ w hled hM => Ex.loadE hM (((hle8.trans hle12).trans hle24).trans hled) hF1.rdc to151 rfl (hx37 0 _ rfl)) rfl (fun _ => rfl) rfl
     · exact One.ex (fun H' τ w hled hM => Ex.fieldAddr fa65_1 rfl) rfl (fun _ => rfl) rfl
     · exact One.ex (fun H' τ w hled hM => Ex.load1 hM 1 to63 rfl rfl rfl) rfl (fun _ => rfl) rfl
     · exact One.ex (fun H' τ w hled hM => Ex.move (.int .i64 v32) rfl) rfl (fun _ => rfl) rfl
     · exact One.ex (fun H' τ w hled hM => Ex.index st63 rfl rfl v32.toNat (hF2.ne hg38) hg38.nat (hF2.lt hg38)) rfl (fun _ => rfl) rfl
     · exact One.ex (fun H' τ w hled hM => Ex.loadE hM (((hle8.trans hle12).trans hle24).trans hled) hF2.rdc to151 rfl (hx39 0 _ rfl)) rfl (fun _ => rfl) rfl
     · exact One.call (bitmap_Or_1_lift (ix x0.Words v32) (ix x1.Words v32) hW41).toV en126 (fun _ => rfl) (fun _ => rfl) (fun _ => rfl) rfl
     intro τ w hM
     change RW _ _ _ _ _ _ _ _ (sl [(2, .func (.func 126) #[] #[]), (3, .pointer (some ⟨b3, 0, none⟩)), (4, .pointer (some ⟨b4, 0, none⟩)), (6, .pointer (some ⟨b5, 0, none⟩)), (10, .slice A26 n27 c28), (35, .int .i64 (((List.replicate (x0.Words.length : Int).toNat (0#64)).length : Int))), (36, .int .i64 v32), (39, .slice A26 n27 c28), (40, .int .i64 v32), (52, u64 (v40))] τ) _
     obtain ⟨hg42, hm⟩ := hm
     refine RW.st (Ex.index st63 rfl rfl v32.toNat (hM.rowNeD (α := BitVec 64) (p := 3) rfl hn31 hg42) hg42.nat (Nat.lt_of_lt_of_eq hg42.lt (hn31).symm)) rfl ?_
     refine RW.storeD (α := BitVec 64) (off := 0) (x' := v40) hM 3 hd30 (u64 (v40)) [u64 (v40)] sz151 rfl hn31 hg42 (nb rfl) rfl rfl (oneAll ⟨rfl, trivial⟩) rfl (fun ch h => rdWhole h (show Dt.rd (α := BitVec 64) _ [u64 (v40)] v40 from rfl)) rfl rfl ?_
     intro s43 w hd44 hM
     refine RW.nil <| CW.region ?_
     obtain ⟨hg45, hm⟩ := hm
     refine RW.st (Ex.add rfl rfl hg45.1 hg45.2) rfl <| RW.st (Ex.move (.int .i64 (v32 + 1)) rfl) rfl <| RW.nil ?_
     exact And.intro rfl ⟨k33, ⟨(put v25 v32 v40), A26, n27, c28, s43, v32 + 1, Hk23, hle24.trans (Hp.le.refl _), slc ⟨rfl, rfl, rfl, rfl, rfl, rfl, rfl, trivial⟩, hM, hd44, (hn31).trans (put_len _ _ _).symm, (by rw [hrec34]; exact hm)⟩, Nat.lt_succ_self _⟩
    ·
     replace hm := And.right hm hc35
     refine CW.exit ?_
     refine CW.sr <| RW.st (Ex.fieldAddr fa65_0 rfl) rfl <| RW.st (Ex.load1 hM 0 to3 rfl rfl rfl) rfl <| RW.st (Ex.move (.slice A26 n27 c28) rfl) rfl <| RW.st (Ex.build bs65 [(0, .int .i64 x0.Size), (1, .slice A26 n27 c28)] [.int .i64 x0.Size, .slice A26 n27 c28] rfl rfl) rfl ?_
     refine RW.store hM 2 (.agg #[.int .i64 x0.Size, .slice A26 n27 c28]) [.int .i64 x0.Size, .slice A26 n27 c28] [.int .i64 x0.Size, .slice A26 n27 c28] sz65 rfl rfl rfl (oneAll ⟨rfl, rfl, trivial⟩) rfl (nb rfl) rfl [.box b3 65 [.int .i64 x0.Size, .slice A1 n1 c1], .box b4 65 [.int .i64 x1.Size, .slice A2 n2 c2], .box b5 65 [.int .i64 x0.Size, .slice A26 n27 c28], .row (.slice A26 n27 c28) 151 1 n27 s29] rfl rfl rfl ?_; intro w hM
     refine RW.st (Ex.assign (.int .i64 0) rfl) rfl <| RW.nil <| CW.ret ?_
     refine ect (k := 2) (.inl rfl) rfl hM rfl (.int .i64 0) rfl ta65 [.int .i64 x0.Size, .slice A26 n27 c28] rfl rfl ?_
     exact ⟨_, _, (hM.pick [3] rfl rfl), ((api_Bitmap.mk x0.Size v25), 0), hm, A26, n27, c28, s29, rfl, hd30, hn31, rfl⟩
theorem delta_Ancestor_lift {H : Hp} (x0 : List api_Span) (x1 : List api_Span) {A1 : Option Addr} {n1 c1 : Nat} {s1 : List Value} (hF1 : Fz (α := api_Span) H A1 n1 c1 x0 s1) {A2 : Option Addr} {n2 c2 : Nat} {s2 : List Value} (hF2 : Fz (α := api_Span) H A2 n2 c2 x1 s2) {Φ : Int × Int → Prop} (hm : delta_Ancestor_W x0 x1 Φ) : RetP Tryd.prog 50 #[.slice A1 n1 c1, .slice A2 n2 c2] H (fun _ v L => ∃ y, Φ y ∧ v = .tuple #[.int .i64 (y.1), .int .i64 (y.2)] ∧ L = []) := by
 refine RetP.of_code Tryd.func50 rfl (nb rfl) fun w0 hM => ?_
 refine CW.sr <| RW.st (Ex.assign (.int .i64 0) rfl) rfl <| RW.st (Ex.assign (.int .i64 0) rfl) rfl <| RW.nil ?_
 refine CW.cut (fun D σ w => D = [] ∧ ∃ Hk3, H.le Hk3 ∧ (∃ τ, σ = sl [(0, .slice A1 n1 c1), (1, .slice A2 n2 c2)] τ) ∧ Mem w0 H w Hk3 [] ∧ delta_Ancestor_J1 x0 x1 Φ) ?_ ?_
 ·
  refine CW.sr <| RW.st (Ex.move (.slice A1 n1 c1) rfl) rfl ?_
  refine RW.callP hM (delta_correct_lift x0 hF1 hm) en93 rfl rfl rfl rfl ?_; rintro _ w H73 _ hle74 ⟨v72, hm, rfl, rfl⟩ hM
  refine RW.st (Ex.not (p := v72 = true) (bvar _)) rfl <| RW.st (Ex.move (.bool (decide (¬ (v72 = true)))) rfl) rfl ?_
  refine RW.split 12 (p := ¬ (v72 = true)) rfl (fun hc75 => ?_) (fun hc75 => ?_)
  ·
   replace hm := And.left hm hc75
   refine RW.pp <| RW.pass rfl rfl <| RW.st (Ex.pickT (.bool true) rfl rfl) rfl <| RW.nil <| CW.cond_true rfl <| CW.sr <| RW.st (Ex.assign (.int .i64 0) rfl) rfl <| RW.st (Ex.assign (.int .i64 0) rfl) rfl <| RW.nil <| CW.ret ?_
   refine tqr ?_
   refine end_tmp2 (.inl rfl) rfl (.int .i64 0) (.int .i64 0) rfl rfl ?_
   exact ⟨_, _, hM, (0, 0), hm, rfl, rfl⟩
  ·
   replace hm := And.right hm hc75
   refine RW.st (Ex.move (.slice A2 n2 c2) rfl) rfl ?_
   refine RW.callP hM (delta_correct_lift x1 (hF2.mono hle74) hm) en93 rfl rfl rfl rfl ?_; rintro _ w H77 _ hle78 ⟨v76, hm, rfl, rfl⟩ hM
   refine RW.st (Ex.not (p := v76 = true) (bvar _)) rfl <| RW.st (Ex.pickF (.bool (decide (¬ (v76 = true)))) rfl rfl) rfl <| RW.nil ?_
   refine CW.cond_dec (p := ¬ (v76 = true)) rfl (fun hc79 => ?_) (fun hc79 => ?_)
   ·
    replace hm := And.left hm hc79
    refine CW.sr <| RW.st (Ex.assign (.int .i64 0) rfl) rfl <| RW.st (Ex.assign (.int .i64 0) rfl) rfl <| RW.nil <| CW.ret ?_
    refine tqr ?_
    refine end_tmp2 (.inl rfl) rfl (.int .i64 0) (.int .i64 0) rfl rfl ?_
    exact ⟨_, _, hM, (0, 0), hm, rfl, rfl⟩
   ·
    replace hm := And.right hm hc79
    refine CW.skip ?_
    exact And.intro rfl ⟨H77, (hle74.trans hle78), slc ⟨rfl, rfl, trivial⟩, hM, hm⟩
 rintro _ _ w ⟨rfl, Hk3, hle4, ⟨τ, rfl⟩, hM, hm⟩
 refine CW.sr <| RW.st (Ex.assign (.int .i64 0) rfl) rfl <| RW.st (Ex.assign (.int .i64 0) rfl) rfl <| RW.nil <| CW.seq <| CW.sr <| RW.st (Ex.assign (.int .i64 0) rfl) rfl <| RW.nil <| CW.block ?_
 obtain ⟨m67, hm⟩ := hm
 skip
 refine CW.loop (β := Nat) (fun n σ w => ∃ (v11 : Int), ∃ (v12 : Int), ∃ (v13 : Int), ∃ Hk9, Hk3.le Hk9 ∧ (∃ τ, σ = sl [(0, .slice A1 n1 c1), (1, .slice A2 n2 c2), (6, .int .i64 v11), (7, .int .i64 v12), (8, .int .i64 v13)] τ) ∧ Mem w0 H w Hk9 [] ∧ LoopN (delta_Ancestor_L3 x0 x1 Φ) n (v11, v12, v13)) (fun n => n) m67 ⟨0, 0, 0, Hk3, (Hp.le.refl _), slc ⟨rfl, rfl, rfl, rfl, rfl, trivial⟩, hM, hm⟩ ?_
 rintro k14 _ w ⟨v11, v12, v13, Hk9, hle10, ⟨τ, rfl⟩, hM, hm⟩
 obtain _ | k14 := k14
 · exact hm.elim
 replace hm : (delta_Ancestor_L3 x0 x1 Φ) (v11, v12, v13) (LoopN (delta_Ancestor_L3 x0 x1 Φ) k14) := hm
 generalize hrec15 : LoopN (delta_Ancestor_L3 x0 x1 Φ) k14 = rec3 at hm
 refine CW.seq ?_
 obtain ⟨hG66, hm⟩ := hm
 refine CW.cut (fun D σ w => D = [] ∧ (∃ τ, σ = sl [(0, .slice A1 n1 c1), (1, .slice A2 n2 c2), (6, .int .i64 v11), (7, .int .i64 v12), (8, .int .i64 v13), (36, .bool (decide ((v13 < (if (x1.length : Int) < (x0.length : Int) then (x1.length : Int) else (x0.length : Int))) ∧ (((ix x0 v13).Epoch) = ((ix x1 v13).Epoch)))))] τ) ∧ Mem w0 H w Hk9 []) ?_ ?_
 ·
  replace hm := hG66
  by_cases hc16 : v13 < (if (x1.length : Int) < (x0.length : Int) then (x1.length : Int) else (x0.length : Int))
  ·
   replace hm := hm hc16
   obtain ⟨hg17, hm⟩ := hm
   obtain ⟨_, rfl, hx18⟩ := DtL.getI (α := api_Span) (hF1.mono (hle4.trans hle10)).dat hg17
   have hg19 := hm
   obtain ⟨_, rfl, hx20⟩ := DtL.getI (α := api_Span) (hF2.mono (hle4.trans hle10)).dat hg19
   refine CW.drawE 20 [.int .i64 v13, .slice A1 n1 c1, .int .i64 ((x0.length : Int)), .slice A2 n2 c2, .int .i64 ((x1.length : Int)), .int .i64 (if (x1.length : Int) < (x0.length : Int) then (x1.length : Int) else (x0.length : Int)), .bool true, .bool true, .slice A1 n1 c1, .int .i64 v13, elp A1 (v13.toNat * 3 + 0), elp A1 (v13.toNat * 3 + 0), .int .i64 ((ix x0 v13).Epoch), .slice A2 n2 c2, .int .i64 v13, elp A2 (v13.toNat * 3 + 0), elp A2 (v13.toNat * 3 + 0), .int .i64 ((ix x1 v13).Epoch), .bool (decide (((ix x0 v13).Epoch) = ((ix x1 v13).Epoch))), .bool (decide (((ix x0 v13).Epoch) = ((ix x1 v13).Epoch)))]
    [[(8, none)], [(0, none)], [(18, some 1)], [(1, none)], [(20, some 3)], [(19, some 2), (21, some 4)], [(17, some 0), (22, some 5)], [(23, some 6)], [(0, none), (24, some 7)], [(8, none), (24, some 7)], [(24, some 7), (25, some 8), (26, some 9)], [(24, some 7), (27, some 10)], [(24, some 7), (28, some 11)], [(1, none), (24, some 7)], [(8, none), (24, some 7)], [(24, some 7), (30, some 13), (31, some 14)], [(24, some 7), (32, some 15)], [(24, some 7), (33, some 16)], [(24, some 7), (29, some 12), (34, some 17)], [(24, some 7), (35, some 18)]] [(0, none), (1, none), (6, none), (7, none), (8, none), (36, some 19)] (by kernel_rfl) hM (by kernel_rfl) ⟨?_, ?_, ?_, ?_, ?_, ?_, ?_, ?_, ?_, ?_, ?_, ?_, ?_, ?_, ?_, ?_, ?_, ?_, ?_, ?_, trivial⟩ ?_
   · exact One.ex (fun H' τ w hled hM => Ex.move (.int .i64 v13) rfl) rfl (fun _ => rfl) rfl
   · exact One.ex (fun H' τ w hled hM => Ex.move (.slice A1 n1 c1) rfl) rfl (fun _ => rfl) rfl
   · exact One.ex (fun H' τ w hled hM => Ex.lenN st22.1 rfl hF1.hn) rfl (fun _ => rfl) rfl
   · exact One.ex (fun H' τ w hled hM => Ex.move (.slice A2 n2 c2) rfl) rfl (fun _ => rfl) rfl
   · exact One.ex (fun H' τ w hled hM => Ex.lenN st22.1 rfl hF2.hn) rfl (fun _ => rfl) rfl
   · exact One.ex (fun H' τ w hled hM => Ex.minI rfl rfl) rfl (fun _ => rfl) rfl
   · exact One.ex (fun H' τ w hled hM => Ex.yes (Ex.lss rfl rfl) hc16) rfl (fun _ => rfl) rfl
   · exact One.ex (fun H' τ w hled hM => Ex.move (.bool true) rfl) rfl (fun _ => rfl) rfl
   · exact One.ex (fun H' τ w hled hM => Ex.move (.slice A1 n1 c1) rfl) rfl (fun _ => rfl) rfl
   · exact One.ex (fun H' τ w hled hM => Ex.move (.int .i64 v13) rfl) rfl (fun _ => rfl) rfl
   · exact One.ex (fun H' τ w hled hM => Ex.index st22 rfl rfl v13.toNat (hF1.ne hg17) hg17.nat (hF1.lt hg17)) rfl (fun _ => rfl) rfl
   · exact One.ex (fun H' τ w hled hM => Ex.fieldE fa98_0 (hF1.ne hg17) rfl) rfl (fun _ => rfl) rfl
   · exact One.ex (fun H' τ w hled hM => Ex.loadE hM ((hle4.trans hle10).trans hled) hF1.rdc to3 rfl (hx18 0 _ rfl)) rfl (fun _ => rfl) rfl
   · exact One.ex (fun H' τ w hled hM => Ex.move (.slice A2 n2 c2) rfl) rfl (fun _ => rfl) rfl
   · exact One.ex (fun H' τ w hled hM => Ex.move (.int .i64 v13) rfl) rfl (fun _ => rfl) rfl
   · exact One.ex (fun H' τ w hled hM => Ex.index st22 rfl rfl v13.toNat (hF2.ne hg19) hg19.nat (hF2.lt hg19)) rfl (fun _ => rfl) rfl
   · exact One.ex (fun H' τ w hled hM => Ex.fieldE fa98_0 (hF2.ne hg19) rfl) rfl (fun _ => rfl) rfl
   · exact One.ex (fun H' τ w hled hM => Ex.loadE hM ((hle4.trans hle10).trans hled) hF2.rdc to3 rfl (hx20 0 _ rfl)) rfl (fun _ => rfl) rfl
   · exact One.ex (fun H' τ w hled hM => Ex.eql rfl rfl) rfl (fun _ => rfl) rfl
   · exact One.ex (fun H' τ w hled hM => Ex.pickT (.bool (decide (((ix x0 v13).Epoch) = ((ix x1 v13).Epoch)))) rfl rfl) rfl (fun _ => rfl) rfl
   intro τ w hM
   change RW _ _ _ _ _ _ _ _ (sl [(0, .slice A1 n1 c1), (1, .slice A2 n2 c2), (6, .int .i64 v11), (7, .int .i64 v12), (8, .int .i64 v13), (36, .bool (decide (((ix x0 v13).Epoch) = ((ix x1 v13).Epoch))))] τ) _
   refine RW.nil ?_
   exact And.intro rfl (And.intro (slc ⟨rfl, rfl, rfl, rfl, rfl, (congrArg Value.bool (decide_eq_decide.2 (imAnd hc16 Iff.rfl))), trivial⟩) hM)
  ·
   skip
   refine CW.drawE 20 [.int .i64 v13, .slice A1 n1 c1, .int .i64 ((x0.length : Int)), .slice A2 n2 c2, .int .i64 ((x1.length : Int)), .int .i64 (if (x1.length : Int) < (x0.length : Int) then (x1.length : Int) else (x0.length : Int)), .bool false, .bool false, undef, undef, undef, undef, undef, undef, undef, undef, undef, undef, undef, .bool false]
    [[(8, none)], [(0, none)], [(18, some 1)], [(1, none)], [(20, some 3)], [(19, some 2), (21, some 4)], [(17, some 0), (22, some 5)], [(23, some 6)], [(24, some 7)], [(24, some 7)], [(24, some 7)], [(24, some 7)], [(24, some 7)], [(24, some 7)], [(24, some 7)], [(24, some 7)], [(24, some 7)], [(24, some 7)], [(24, some 7)], [(24, some 7), (35, some 18)]] [(0, none), (1, none), (6, none), (7, none), (8, none), (36, some 19)] (by kernel_rfl) hM (by kernel_rfl) ⟨?_, ?_, ?_, ?_, ?_, ?_, ?_, ?_, ?_, ?_, ?_, ?_, ?_, ?_, ?_, ?_, ?_, ?_, ?_, ?_, trivial⟩ ?_
   · exact One.ex (fun H' τ w hled hM => Ex.move (.int .i64 v13) rfl) rfl (fun _ => rfl) rfl
   · exact One.ex (fun H' τ w hled hM => Ex.move (.slice A1 n1 c1) rfl) rfl (fun _ => rfl) rfl
   · exact One.ex (fun H' τ w hled hM => Ex.lenN st22.1 rfl hF1.hn) rfl (fun _ => rfl) rfl
   · exact One.ex (fun H' τ w hled hM => Ex.move (.slice A2 n2 c2) rfl) rfl (fun _ => rfl) rfl
   · exact One.ex (fun H' τ w hled hM => Ex.lenN st22.1 rfl hF2.hn) rfl (fun _ => rfl) rfl
   · exact One.ex (fun H' τ w hled hM => Ex.minI rfl rfl) rfl (fun _ => rfl) rfl
   · exact One.ex (fun H' τ w hled hM => Ex.no (Ex.lss rfl rfl) hc16) rfl (fun _ => rfl) rfl
   · exact One.ex (fun H' τ w hled hM => Ex.move (.bool false) rfl) rfl (fun _ => rfl) rfl
   · exact One.pass (fun _ => rfl) rfl
   · exact One.pass (fun _ => rfl) rfl
   · exact One.pass (fun _ => rfl) rfl
   · exact One.pass (fun _ => rfl) rfl
   · exact One.pass (fun _ => rfl) rfl
   · exact One.pass (fun _ => rfl) rfl
   · exact One.pass (fun _ => rfl) rfl
   · exact One.pass (fun _ => rfl) rfl
   · exact One.pass (fun _ => rfl) rfl
   · exact One.pass (fun _ => rfl) rfl
   · exact One.pass (fun _ => rfl) rfl
   · exact One.ex (fun H' τ w hled hM => Ex.pickF (.bool false) rfl rfl) rfl (fun _ => rfl) rfl
   intro τ w hM
   change RW _ _ _ _ _ _ _ _ (sl [(0, .slice A1 n1 c1), (1, .slice A2 n2 c2), (6, .int .i64 v11), (7, .int .i64 v12), (8, .int .i64 v13), (36, .bool false)] τ) _
   refine RW.nil ?_
   exact And.intro rfl (And.intro (slc ⟨rfl, rfl, rfl, rfl, rfl, (congrArg Value.bool (decide_eq_false (fun q => hc16 q.1)).symm), trivial⟩) hM)
 rintro _ _ w ⟨rfl, ⟨τ, rfl⟩, hM⟩
 refine CW.cond_dec (p := (v13 < (if (x1.length : Int) < (x0.length : Int) then (x1.length : Int) else (x0.length : Int))) ∧ (((ix x0 v13).Epoch) = ((ix x1 v13).Epoch))) rfl (fun hc21 => ?_) (fun hc21 => ?_)
 ·
  replace hm := And.left hm hc21
  refine CW.skip <| CW.seq <| CW.block <| CW.seq ?_
  obtain ⟨hg22, hm⟩ := hm
  obtain ⟨_, rfl, hx23⟩ := DtL.getI (α := api_Span) (hF1.mono (hle4.trans hle10)).dat hg22
  obtain ⟨hg24, hm⟩ := hm
  obtain ⟨_, rfl, hx25⟩ := DtL.getI (α := api_Span) (hF2.mono (hle4.trans hle10)).dat hg24
  refine CW.drawL 18 [] [(fun Hq us E => us = [.slice A1 n1 c1] ∧ E = [] ∧ True), (fun Hq us E => us = [.int .i64 v13] ∧ E = [] ∧ True), (fun Hq us E => us = [elp A1 (v13.toNat * 3 + 0)] ∧ E = [] ∧ True), (fun Hq us E => us = [elp A1 (v13.toNat * 3 + 2)] ∧ E = [] ∧ True), (fun Hq us E => us = [.int .i64 ((ix x0 v13).To)] ∧ E = [] ∧ True), (fun Hq us E => us = [.slice A2 n2 c2] ∧ E = [] ∧ True), (fun Hq us E => us = [.int .i64 v13] ∧ E = [] ∧ True), (fun Hq us E => us = [elp A2 (v13.toNat * 3 + 0)] ∧ E = [] ∧ True), (fun Hq us E => us = [elp A2 (v13.toNat * 3 + 2)] ∧ E = [] ∧ True), (fun Hq us E => us = [.int .i64 ((ix x1 v13).To)] ∧ E = [] ∧ True), (fun Hq us E => us = [.int .i64 (if ((ix x1 v13).To) < ((ix x0 v13).To) then ((ix x1 v13).To) else ((ix x0 v13).To))] ∧ E = [] ∧ True), (fun Hq us E => us = [.slice A1 n1 c1] ∧ E = [] ∧ True), (fun Hq us E => us = [.int .i64 v13] ∧ E = [] ∧ True), (fun Hq us E => us = [elp A1 (v13.toNat * 3 + 0)] ∧ E = [] ∧ True), (fun Hq us E => us = [elp A1 (v13.toNat * 3 + 0)] ∧ E = [] ∧ True), (fun Hq us E => us = [.int .i64 ((ix x0 v13).Epoch)] ∧ E = [] ∧ True), (fun Hq us E => us = [.int .i64 (if ((ix x1 v13).To) < ((ix x0 v13).To) then ((ix x1 v13).To) else ((ix x0 v13).To))] ∧ E = [] ∧ True), (fun Hq us E => us = [.int .i64 ((ix x0 v13).Epoch)] ∧ E = [] ∧ True)]
   (fun k => [[0], [1], [2], [3], [4], [5], [6], [7], [8], [9], [10], [11], [12], [13], [14], [15], [16], [17]].getD k []) (fun _ => none) (by kernel_rfl) hM (by kernel_rfl) (by kernel_rfl) (by kernel_rfl) rfl (by simp only [List.forall_mem_cons]; exact ⟨fun _ _ _ _ hle ⟨e1, e2, _⟩ => ⟨e1, e2, trivial⟩, fun _ _ _ _ hle ⟨e1, e2, _⟩ => ⟨e1, e2, trivial⟩, fun _ _ _ _ hle ⟨e1, e2, _⟩ => ⟨e1, e2, trivial⟩, fun _ _ _ _ hle ⟨e1, e2, _⟩ => ⟨e1, e2, trivial⟩, fun _ _ _ _ hle ⟨e1, e2, _⟩ => ⟨e1, e2, trivial⟩, fun _ _ _ _ hle ⟨e1, e2, _⟩ => ⟨e1, e2, trivial⟩, fun _ _ _ _ hle ⟨e1, e2, _⟩ => ⟨e1, e2, trivial⟩, fun _ _ _ _ hle ⟨e1, e2, _⟩ => ⟨e1, e2, trivial⟩, fun _ _ _ _ hle ⟨e1, e2, _⟩ => ⟨e1, e2, trivial⟩, fun _ _ _ _ hle ⟨e1, e2, _⟩ => ⟨e1, e2, trivial⟩, fun _ _ _ _ hle ⟨e1, e2, _⟩ => ⟨e1, e2, trivial⟩, fun _ _ _ _ hle ⟨e1, e2, _⟩ => ⟨e1, e2, trivial⟩, fun _ _ _ _ hle ⟨e1, e2, _⟩ => ⟨e1, e2, trivial⟩, fun _ _ _ _ hle ⟨e1, e2, _⟩ => ⟨e1, e2, trivial⟩, fun _ _ _ _ hle ⟨e1, e2, _⟩ => ⟨e1, e2, trivial⟩, fun _ _ _ _ hle ⟨e1, e2, _⟩ => ⟨e1, e2, trivial⟩, fun _ _ _ _ hle ⟨e1, e2, _⟩ => ⟨e1, e2, trivial⟩, fun _ _ _ _ hle ⟨e1, e2, _⟩ => ⟨e1, e2, trivial⟩, by simp⟩) ⟨?_, ?_, ?_, ?_, ?_, ?_, ?_, ?_, ?_, ?_, ?_, ?_, ?_, ?_, ?_, ?_, ?_, ?_, trivial⟩ ?_
  ·
   intro H' σ' w R E hle hMR hE0 hE hp hf
   obtain rfl := hE0 rfl
   obtain ⟨τ, rfl⟩ := slc (σ := σ') (l := [(0, .slice A1 n1 c1)]) ⟨(hf 0 (by kernel_rfl)).trans rfl, trivial⟩
   have hM := Mem.subR (R := R) hMR
   exact RW.step (Ex.move (.slice A1 n1 c1) rfl) rfl rfl rfl (RW.nil ⟨rfl, rfl, _, rfl, H', [], Hp.le.refl _, hMR, rfl, rfl, trivial⟩)
  ·
   intro H' σ' w R E hle hMR hE0 hE hp hf
   obtain rfl := hE0 rfl
   obtain ⟨τ, rfl⟩ := slc (σ := σ') (l := [(8, .int .i64 v13)]) ⟨(hf 8 (by kernel_rfl)).trans rfl, trivial⟩
   have hM := Mem.subR (R := R) hMR
   exact RW.step (Ex.move (.int .i64 v13) rfl) rfl rfl rfl (RW.nil ⟨rfl, rfl, _, rfl, H', [], Hp.le.refl _, hMR, rfl, rfl, trivial⟩)
  ·
   intro H' σ' w R E hle hMR hE0 hE hp hf
   obtain rfl := hE0 rfl
   obtain ⟨_, hg⟩ := hp 0 (by decide) (by kernel_rfl)
   obtain ⟨e26, _, _⟩ := hg.get rfl
   have e27 : σ' 39 = .slice A1 n1 c1 := (List.cons.inj e26).1
   obtain ⟨_, hg⟩ := hp 1 (by decide) (by kernel_rfl)
   obtain ⟨e28, _, _⟩ := hg.get rfl
   have e29 : σ' 40 = .int .i64 v13 := (List.cons.inj e28).1
   obtain ⟨τ, rfl⟩ := slc (σ := σ') (l := [(39, .slice A1 n1 c1), (40, .int .i64 v13)]) ⟨e27, e29, trivial⟩
   have hM := Mem.subR (R := R) hMR
   exact RW.step (Ex.index st22 rfl rfl v13.toNat (hF1.ne hg22) hg22.nat (hF1.lt hg22)) rfl rfl rfl (RW.nil ⟨rfl, rfl, _, rfl, H', [], Hp.le.refl _, hMR, rfl, rfl, trivial⟩)
  ·
   intro H' σ' w R E hle hMR hE0 hE hp hf
   obtain rfl := hE0 rfl
   obtain ⟨_, hg⟩ := hp 2 (by decide) (by kernel_rfl)
   obtain ⟨e30, _, _⟩ := hg.get rfl
   have e31 : σ' 41 = elp A1 (v13.toNat * 3 + 0) := (List.cons.inj e30).1
   obtain ⟨τ, rfl⟩ := slc (σ := σ') (l := [(41, elp A1 (v13.toNat * 3 + 0))]) ⟨e31, trivial⟩
   have hM := Mem.subR (R := R) hMR
   exact RW.step (Ex.fieldE fa98_2 (hF1.ne hg22) rfl) rfl rfl rfl (RW.nil ⟨rfl, rfl, _, rfl, H', [], Hp.le.refl _, hMR, rfl, rfl, trivial⟩)
  ·
   intro H' σ' w R E hle hMR hE0 hE hp hf
   obtain rfl := hE0 rfl
   obtain ⟨_, hg⟩ := hp 3 (by decide) (by kernel_rfl)
   obtain ⟨e32, _, _⟩ := hg.get rfl
   have e33 : σ' 42 = elp A1 (v13.toNat * 3 + 2) := (List.cons.inj e32).1
   obtain ⟨τ, rfl⟩ := slc (σ := σ') (l := [(42, elp A1 (v13.toNat * 3 + 2))]) ⟨e33, trivial⟩
   have hM := Mem.subR (R := R) hMR
   exact RW.step (Ex.loadE hM ((hle4.trans hle10).trans hle) hF1.rdc to3 rfl (hx23 2 _ rfl)) rfl rfl rfl (RW.nil ⟨rfl, rfl, _, rfl, H', [], Hp.le.refl _, hMR, rfl, rfl, trivial⟩)
  ·
   intro H' σ' w R E hle hMR hE0 hE hp hf
   obtain rfl := hE0 rfl
   obtain ⟨τ, rfl⟩ := slc (σ := σ') (l := [(1, .slice A2 n2 c2)]) ⟨(hf 1 (by kernel_rfl)).trans rfl, trivial⟩
   have hM := Mem.subR (R := R) hMR
   exact RW.step (Ex.move (.slice A2 n2 c2) rfl) rfl rfl rfl (RW.nil ⟨rfl, rfl, _, rfl, H', [], Hp.le.refl _, hMR, rfl, rfl, trivial⟩)
  ·
   intro H' σ' w R E hle hMR hE0 hE hp hf
   obtain rfl := hE0 rfl
   obtain ⟨τ, rfl⟩ := slc (σ := σ') (l := [(8, .int .i64 v13)]) ⟨(hf 8 (by kernel_rfl)).trans rfl, trivial⟩
   have hM := Mem.subR (R := R) hMR
   exact RW.step (Ex.move (.int .i64 v13) rfl) rfl rfl rfl (RW.nil ⟨rfl, rfl, _, rfl, H', [], Hp.le.refl _, hMR, rfl, rfl, trivial⟩)
  ·
   intro H' σ' w R E hle hMR hE0 hE hp hf
   obtain rfl := hE0 rfl
   obtain ⟨_, hg⟩ := hp 5 (by decide) (by kernel_rfl)
   obtain ⟨e34, _, _⟩ := hg.get rfl
   have e35 : σ' 44 = .slice A2 n2 c2 := (List.cons.inj e34).1
   obtain ⟨_, hg⟩ := hp 6 (by decide) (by kernel_rfl)
   obtain ⟨e36, _, _⟩ := hg.get rfl
   have e37 : σ' 45 = .int .i64 v13 := (List.cons.inj e36).1
   obtain ⟨τ, rfl⟩ := slc (σ := σ') (l := [(44, .slice A2 n2 c2), (45, .int .i64 v13)]) ⟨e35, e37, trivial⟩
   have hM := Mem.subR (R := R) hMR
   exact RW.step (Ex.index st22 rfl rfl v13.toNat (hF2.ne hg24) hg24.nat (hF2.lt hg24)) rfl rfl rfl (RW.nil ⟨rfl, rfl, _, rfl, H', [], Hp.le.refl _, hMR, rfl, rfl, trivial⟩)
  ·
   intro H' σ' w R E hle hMR hE0 hE hp hf
   obtain rfl := hE0 rfl
   obtain ⟨_, hg⟩ := hp 7 (by decide) (by kernel_rfl)
   obtain ⟨e38, _, _⟩ := hg.get rfl
   have e39 : σ' 46 = elp A2 (v13.toNat * 3 + 0) := (List.cons.inj e38).1
   obtain ⟨τ, rfl⟩ := slc (σ := σ') (l := [(46, elp A2 (v13.toNat * 3 + 0))]) ⟨e39, trivial⟩
   have hM := Mem.subR (R := R) hMR
   exact RW.step (Ex.fieldE fa98_2 (hF2.ne hg24) rfl) rfl rfl rfl (RW.nil ⟨rfl, rfl, _, rfl, H', [], Hp.le.refl _, hMR, rfl, rfl, trivial⟩)
  ·
   intro H' σ' w R E hle hMR hE0 hE hp hf
   obtain rfl := hE0 rfl
   obtain ⟨_, hg⟩ := hp 8 (by decide) (by kernel_rfl)
   obtain ⟨e40, _, _⟩ := hg.get rfl
   have e41 : σ' 47 = elp A2 (v13.toNat * 3 + 2) := (List.cons.inj e40).1
   obtain ⟨τ, rfl⟩ := slc (σ := σ') (l := [(47, elp A2 (v13.toNat * 3 + 2))]) ⟨e41, trivial⟩
   have hM := Mem.subR (R := R) hMR
   exact RW.step (Ex.loadE hM ((hle4.trans hle10).trans hle) hF2.rdc to3 rfl (hx25 2 _ rfl)) rfl rfl rfl (RW.nil ⟨rfl, rfl, _, rfl, H', [], Hp.le.refl _, hMR, rfl, rfl, trivial⟩)
  ·
   intro H' σ' w R E hle hMR hE0 hE hp hf
   obtain rfl := hE0 rfl
   obtain ⟨_, hg⟩ := hp 4 (by decide) (by kernel_rfl)
   obtain ⟨e42, _, _⟩ := hg.get rfl
   have e43 : σ' 43 = .int .i64 ((ix x0 v13).To) := (List.cons.inj e42).1
   obtain ⟨_, hg⟩ := hp 9 (by decide) (by kernel_rfl)
   obtain ⟨e44, _, _⟩ := hg.get rfl
   have e45 : σ' 48 = .int .i64 ((ix x1 v13).To) := (List.cons.inj e44).1
   obtain ⟨τ, rfl⟩ := slc (σ := σ') (l := [(43, .int .i64 ((ix x0 v13).To)), (48, .int .i64 ((ix x1 v13).To))]) ⟨e43, e45, trivial⟩
   have hM := Mem.subR (R := R) hMR
   exact RW.step (Ex.minI rfl rfl) rfl rfl rfl (RW.nil ⟨rfl, rfl, _, rfl, H', [], Hp.le.refl _, hMR, rfl, rfl, trivial⟩)
  ·
   intro H' σ' w R E hle hMR hE0 hE hp hf
   obtain rfl := hE0 rfl
   obtain ⟨τ, rfl⟩ := slc (σ := σ') (l := [(0, .slice A1 n1 c1)]) ⟨(hf 0 (by kernel_rfl)).trans rfl, trivial⟩
   have hM := Mem.subR (R := R) hMR
   exact RW.step (Ex.move (.slice A1 n1 c1) rfl) rfl rfl rfl (RW.nil ⟨rfl, rfl, _, rfl, H', [], Hp.le.refl _, hMR, rfl, rfl, trivial⟩)
  ·
   intro H' σ' w R E hle hMR hE0 hE hp hf
   obtain rfl := hE0 rfl
   obtain ⟨τ, rfl⟩ := slc (σ := σ') (l := [(8, .int .i64 v13)]) ⟨(hf 8 (by kernel_rfl)).trans rfl, trivial⟩
   have hM := Mem.subR (R := R) hMR
   exact RW.step (Ex.move (.int .i64 v13) rfl) rfl rfl rfl (RW.nil ⟨rfl, rfl, _, rfl, H', [], Hp.le.refl _, hMR, rfl, rfl, trivial⟩)
  ·
   intro H' σ' w R E hle hMR hE0 hE hp hf
   obtain rfl := hE0 rfl
   obtain ⟨_, hg⟩ := hp 11 (by decide) (by kernel_rfl)
   obtain ⟨e46, _, _⟩ := hg.get rfl
   have e47 : σ' 50 = .slice A1 n1 c1 := (List.cons.inj e46).1
   obtain ⟨_, hg⟩ := hp 12 (by decide) (by kernel_rfl)
   obtain ⟨e48, _, _⟩ := hg.get rfl
   have e49 : σ' 51 = .int .i64 v13 := (List.cons.inj e48).1
   obtain ⟨τ, rfl⟩ := slc (σ := σ') (l := [(50, .slice A1 n1 c1), (51, .int .i64 v13)]) ⟨e47, e49, trivial⟩
   have hM := Mem.subR (R := R) hMR
   exact RW.step (Ex.index st22 rfl rfl v13.toNat (hF1.ne hg22) hg22.nat (hF1.lt hg22)) rfl rfl rfl (RW.nil ⟨rfl, rfl, _, rfl, H', [], Hp.le.refl _, hMR, rfl, rfl, trivial⟩)
  ·
   intro H' σ' w R E hle hMR hE0 hE hp hf
   obtain rfl := hE0 rfl
   obtain ⟨_, hg⟩ := hp 13 (by decide) (by kernel_rfl)
   obtain ⟨e50, _, _⟩ := hg.get rfl
   have e51 : σ' 52 = elp A1 (v13.toNat * 3 + 0) := (List.cons.inj e50).1
   obtain ⟨τ, rfl⟩ := slc (σ := σ') (l := [(52, elp A1 (v13.toNat * 3 + 0))]) ⟨e51, trivial⟩
   have hM := Mem.subR (R := R) hMR
   exact RW.step (Ex.fieldE fa98_0 (hF1.ne hg22) rfl) rfl rfl rfl (RW.nil ⟨rfl, rfl, _, rfl, H', [], Hp.le.refl _, hMR, rfl, rfl, trivial⟩)
  ·
   intro H' σ' w R E hle hMR hE0 hE hp hf
   obtain rfl := hE0 rfl
   obtain ⟨_, hg⟩ := hp 14 (by decide) (by kernel_rfl)
   obtain ⟨e52, _, _⟩ := hg.get rfl
   have e53 : σ' 53 = elp A1 (v13.toNat * 3 + 0) := (List.cons.inj e52).1
   obtain ⟨τ, rfl⟩ := slc (σ := σ') (l := [(53, elp A1 (v13.toNat * 3 + 0))]) ⟨e53, trivial⟩
   have hM := Mem.subR (R := R) hMR
   exact RW.step (Ex.loadE hM ((hle4.trans hle10).trans hle) hF1.rdc to3 rfl (hx23 0 _ rfl)) rfl rfl rfl (RW.nil ⟨rfl, rfl, _, rfl, H', [], Hp.le.refl _, hMR, rfl, rfl, trivial⟩)
  ·
   intro H' σ' w R E hle hMR hE0 hE hp hf
   obtain rfl := hE0 rfl
   obtain ⟨_, hg⟩ := hp 10 (by decide) (by kernel_rfl)
   obtain ⟨e54, _, _⟩ := hg.get rfl
   have e55 : σ' 49 = .int .i64 (if ((ix x1 v13).To) < ((ix x0 v13).To) then ((ix x1 v13).To) else ((ix x0 v13).To)) := (List.cons.inj e54).1
   obtain ⟨τ, rfl⟩ := slc (σ := σ') (l := [(49, .int .i64 (if ((ix x1 v13).To) < ((ix x0 v13).To) then ((ix x1 v13).To) else ((ix x0 v13).To)))]) ⟨e55, trivial⟩
   have hM := Mem.subR (R := R) hMR
   exact RW.step (Ex.assign (.int .i64 (if ((ix x1 v13).To) < ((ix x0 v13).To) then ((ix x1 v13).To) else ((ix x0 v13).To))) rfl) rfl rfl rfl (RW.nil ⟨rfl, rfl, _, rfl, H', [], Hp.le.refl _, hMR, rfl, rfl, trivial⟩)
  ·
   intro H' σ' w R E hle hMR hE0 hE hp hf
   obtain rfl := hE0 rfl
   obtain ⟨_, hg⟩ := hp 15 (by decide) (by kernel_rfl)
   obtain ⟨e56, _, _⟩ := hg.get rfl
   have e57 : σ' 54 = .int .i64 ((ix x0 v13).Epoch) := (List.cons.inj e56).1
   obtain ⟨τ, rfl⟩ := slc (σ := σ') (l := [(54, .int .i64 ((ix x0 v13).Epoch))]) ⟨e57, trivial⟩
   have hM := Mem.subR (R := R) hMR
   exact RW.step (Ex.assign (.int .i64 ((ix x0 v13).Epoch)) rfl) rfl rfl rfl (RW.nil ⟨rfl, rfl, _, rfl, H', [], Hp.le.refl _, hMR, rfl, rfl, trivial⟩)
  ·
   intro HR8 σ' w X miss hms hleR hM hX hX0 hf
   simp [subs] at hms
   rcases hms with rfl
   ·
    obtain ⟨H58, hH8⟩ : ∃ x, x = HR8 := ⟨_, rfl⟩
    subst hH8
    have hle59 := hleR
    obtain ⟨_, g0, y0⟩ := hX 0 (by decide) (by kernel_rfl)
    obtain ⟨_, rfl, _⟩ := g0.get rfl
    replace y0 : X 0 = [] := y0
    obtain ⟨_, g0, y1⟩ := hX 1 (by decide) (by kernel_rfl)
    obtain ⟨_, rfl, _⟩ := g0.get rfl
    replace y1 : X 1 = [] := y1
    obtain ⟨_, g0, y2⟩ := hX 2 (by decide) (by kernel_rfl)
    obtain ⟨_, rfl, _⟩ := g0.get rfl
    replace y2 : X 2 = [] := y2
    obtain ⟨_, g0, y3⟩ := hX 3 (by decide) (by kernel_rfl)
    obtain ⟨_, rfl, _⟩ := g0.get rfl
    replace y3 : X 3 = [] := y3
    obtain ⟨_, g0, y4⟩ := hX 4 (by decide) (by kernel_rfl)
    obtain ⟨_, rfl, _⟩ := g0.get rfl
    replace y4 : X 4 = [] := y4
    obtain ⟨_, g0, y5⟩ := hX 5 (by decide) (by kernel_rfl)
    obtain ⟨_, rfl, _⟩ := g0.get rfl
    replace y5 : X 5 = [] := y5
    obtain ⟨_, g0, y6⟩ := hX 6 (by decide) (by kernel_rfl)
    obtain ⟨_, rfl, _⟩ := g0.get rfl
    replace y6 : X 6 = [] := y6
    obtain ⟨_, g0, y7⟩ := hX 7 (by decide) (by kernel_rfl)
    obtain ⟨_, rfl, _⟩ := g0.get rfl
    replace y7 : X 7 = [] := y7
    obtain ⟨_, g0, y8⟩ := hX 8 (by decide) (by kernel_rfl)
    obtain ⟨_, rfl, _⟩ := g0.get rfl
    replace y8 : X 8 = [] := y8
    obtain ⟨_, g0, y9⟩ := hX 9 (by decide) (by kernel_rfl)
    obtain ⟨_, rfl, _⟩ := g0.get rfl
    replace y9 : X 9 = [] := y9
    obtain ⟨_, g0, y10⟩ := hX 10 (by decide) (by kernel_rfl)
    obtain ⟨_, rfl, _⟩ := g0.get rfl
    replace y10 : X 10 = [] := y10
    obtain ⟨_, g0, y11⟩ := hX 11 (by decide) (by kernel_rfl)
    obtain ⟨_, rfl, _⟩ := g0.get rfl
    replace y11 : X 11 = [] := y11
    obtain ⟨_, g0, y12⟩ := hX 12 (by decide) (by kernel_rfl)
    obtain ⟨_, rfl, _⟩ := g0.get rfl
    replace y12 : X 12 = [] := y12
    obtain ⟨_, g0, y13⟩ := hX 13 (by decide) (by kernel_rfl)
    obtain ⟨_, rfl, _⟩ := g0.get rfl
    replace y13 : X 13 = [] := y13
    obtain ⟨_, g0, y14⟩ := hX 14 (by decide) (by kernel_rfl)
    obtain ⟨_, rfl, _⟩ := g0.get rfl
    replace y14 : X 14 = [] := y14
    obtain ⟨_, g0, y15⟩ := hX 15 (by decide) (by kernel_rfl)
    obtain ⟨_, rfl, _⟩ := g0.get rfl
    replace y15 : X 15 = [] := y15
    obtain ⟨_, g0, y16⟩ := hX 16 (by decide) (by kernel_rfl)
    obtain ⟨e60, rfl, _⟩ := g0.get rfl
    have e61 : σ' 6 = .int .i64 (if ((ix x1 v13).To) < ((ix x0 v13).To) then ((ix x1 v13).To) else ((ix x0 v13).To)) := (List.cons.inj e60).1
    replace y16 : X 16 = [] := y16
    obtain ⟨_, g0, y17⟩ := hX 17 (by decide) (by kernel_rfl)
    obtain ⟨e62, rfl, _⟩ := g0.get rfl
    have e63 : σ' 7 = .int .i64 ((ix x0 v13).Epoch) := (List.cons.inj e62).1
    replace y17 : X 17 = [] := y17
    have hfl : flatX X 18 = [] := by
     show X 0 ++ (X 1 ++ (X 2 ++ (X 3 ++ (X 4 ++ (X 5 ++ (X 6 ++ (X 7 ++ (X 8 ++ (X 9 ++ (X 10 ++ (X 11 ++ (X 12 ++ (X 13 ++ (X 14 ++ (X 15 ++ (X 16 ++ (X 17 ++ []))))))))))))))))) = _
     rw [y0, y1, y2, y3, y4, y5, y6, y7, y8, y9, y10, y11, y12, y13, y14, y15, y16, y17]; rfl
    rw [hfl] at hM
    obtain ⟨τ, rfl⟩ := slc (σ := σ') (l := [(0, .slice A1 n1 c1), (1, .slice A2 n2 c2), (6, .int .i64 (if ((ix x1 v13).To) < ((ix x0 v13).To) then ((ix x1 v13).To) else ((ix x0 v13).To))), (7, .int .i64 ((ix x0 v13).Epoch)), (8, .int .i64 v13)]) ⟨(hf 0 (by kernel_rfl)).trans rfl, (hf 1 (by kernel_rfl)).trans rfl, e61, e63, (hf 8 (by kernel_rfl)).trans rfl, trivial⟩
    change RA _ _ _ _ _ _ _ (sl [(0, .slice A1 n1 c1), (1, .slice A2 n2 c2), (6, .int .i64 (if ((ix x1 v13).To) < ((ix x0 v13).To) then ((ix x1 v13).To) else ((ix x0 v13).To))), (7, .int .i64 ((ix x0 v13).Epoch)), (8, .int .i64 v13)] τ) _ 18 _
    refine RA.done (by kernel_rfl) ?_
    refine CW.seq ?_
    refine CW.drawE 11 [.slice A1 n1 c1, .int .i64 v13, elp A1 (v13.toNat * 3 + 0), elp A1 (v13.toNat * 3 + 2), .int .i64 ((ix x0 v13).To), .slice A2 n2 c2, .int .i64 v13, elp A2 (v13.toNat * 3 + 0), elp A2 (v13.toNat * 3 + 2), .int .i64 ((ix x1 v13).To), .bool (decide (((ix x0 v13).To) ≠ ((ix x1 v13).To)))]
     [[(0, none)], [(8, none)], [(55, some 0), (56, some 1)], [(57, some 2)], [(58, some 3)], [(1, none)], [(8, none)], [(60, some 5), (61, some 6)], [(62, some 7)], [(63, some 8)], [(59, some 4), (64, some 9)]] [(0, none), (1, none), (6, none), (7, none), (8, none), (65, some 10)] (by kernel_rfl) hM (by kernel_rfl) ⟨?_, ?_, ?_, ?_, ?_, ?_, ?_, ?_, ?_, ?_, ?_, trivial⟩ ?_
    · exact One.ex (fun H' τ w hled hM => Ex.move (.slice A1 n1 c1) rfl) rfl (fun _ => rfl) rfl
    · exact One.ex (fun H' τ w hled hM => Ex.move (.int .i64 v13) rfl) rfl (fun _ => rfl) rfl
    · exact One.ex (fun H' τ w hled hM => Ex.index st22 rfl rfl v13.toNat (hF1.ne hg22) hg22.nat (hF1.lt hg22)) rfl (fun _ => rfl) rfl
    · exact One.ex (fun H' τ w hled hM => Ex.fieldE fa98_2 (hF1.ne hg22) rfl) rfl (fun _ => rfl) rfl
    · exact One.ex (fun H' τ w hled hM => Ex.loadE hM (((hle4.trans hle10).trans hle59).trans hled) hF1.rdc to3 rfl (hx23 2 _ rfl)) rfl (fun _ => rfl) rfl
    · exact One.ex (fun H' τ w hled hM => Ex.move (.slice A2 n2 c2) rfl) rfl (fun _ => rfl) rfl
    · exact One.ex (fun H' τ w hled hM => Ex.move (.int .i64 v13) rfl) rfl (fun _ => rfl) rfl
    · exact One.ex (fun H' τ w hled hM => Ex.index st22 rfl rfl v13.toNat (hF2.ne hg24) hg24.nat (hF2.lt hg24)) rfl (fun _ => rfl) rfl
    · exact One.ex (fun H' τ w hled hM => Ex.fieldE fa98_2 (hF2.ne hg24) rfl) rfl (fun _ => rfl) rfl
    · exact One.ex (fun H' τ w hled hM => Ex.loadE hM (((hle4.trans hle10).trans hle59).trans hled) hF2.rdc to3 rfl (hx25 2 _ rfl)) rfl (fun _ => rfl) rfl
    · exact One.ex (fun H' τ w hled hM => Ex.neq rfl rfl) rfl (fun _ => rfl) rfl
    intro τ w hM
    change RW _ _ _ _ _ _ _ _ (sl [(0, .slice A1 n1 c1), (1, .slice A2 n2 c2), (6, .int .i64 (if ((ix x1 v13).To) < ((ix x0 v13).To) then ((ix x1 v13).To) else ((ix x0 v13).To))), (7, .int .i64 ((ix x0 v13).Epoch)), (8, .int .i64 v13), (65, .bool (decide (((ix x0 v13).To) ≠ ((ix x1 v13).To))))] τ) _
    refine RW.nil ?_
    refine CW.cond_dec (p := ((ix x0 v13).To) ≠ ((ix x1 v13).To)) rfl (fun hc64 => ?_) (fun hc64 => ?_)
    ·
     replace hm := And.left hm hc64
     refine CW.exit ?_
     refine CW.sr <| RW.st (Ex.move (.int .i64 (if ((ix x1 v13).To) < ((ix x0 v13).To) then ((ix x1 v13).To) else ((ix x0 v13).To))) rfl) rfl <| RW.st (Ex.move (.int .i64 ((ix x0 v13).Epoch)) rfl) rfl <| RW.st (Ex.assign (.int .i64 (if ((ix x1 v13).To) < ((ix x0 v13).To) then ((ix x1 v13).To) else ((ix x0 v13).To))) rfl) rfl <| RW.st (Ex.assign (.int .i64 ((ix x0 v13).Epoch)) rfl) rfl <| RW.nil <| CW.ret ?_
     refine end_tmp2 (.inl rfl) rfl (.int .i64 (if ((ix x1 v13).To) < ((ix x0 v13).To) then ((ix x1 v13).To) else ((ix x0 v13).To))) (.int .i64 ((ix x0 v13).Epoch)) rfl rfl ?_
     exact ⟨_, _, hM, (if ((ix x1 v13).To) < ((ix x0 v13).To) then ((ix x1 v13).To) else ((ix x0 v13).To), (ix x0 v13).Epoch), hm, rfl, rfl⟩
    ·
     replace hm := And.right hm hc64
     refine CW.skip <| CW.region <| RW.st (Ex.move (.int .i64 v13) rfl) rfl ?_
     obtain ⟨hg65, hm⟩ := hm
     refine RW.st (Ex.add rfl rfl hg65.1 hg65.2) rfl <| RW.st (Ex.assign (.int .i64 (v13 + 1)) rfl) rfl <| RW.nil ?_
     exact And.intro rfl ⟨k14, ⟨if ((ix x1 v13).To) < ((ix x0 v13).To) then ((ix x1 v13).To) else ((ix x0 v13).To), (ix x0 v13).Epoch, v13 + 1, H58, hle10.trans hle59, slc ⟨rfl, rfl, rfl, rfl, rfl, trivial⟩, hM, (by rw [hrec15]; exact hm)⟩, Nat.lt_succ_self _⟩
 ·
  replace hm := And.right hm hc21
  refine CW.exit ?_
  refine CW.sr <| RW.st (Ex.move (.int .i64 v11) rfl) rfl <| RW.st (Ex.move (.int .i64 v12) rfl) rfl <| RW.st (Ex.assign (.int .i64 v11) rfl) rfl <| RW.st (Ex.assign (.int .i64 v12) rfl) rfl <| RW.nil <| CW.ret ?_
  refine end_tmp2 (.inl rfl) rfl (.int .i64 v11) (.int .i64 v12) rfl rfl ?_
  exact ⟨_, _, hM, (v11, v12), hm, rfl, rfl⟩
end Go.Proofs.YtahlanamngfkcaaDoor
