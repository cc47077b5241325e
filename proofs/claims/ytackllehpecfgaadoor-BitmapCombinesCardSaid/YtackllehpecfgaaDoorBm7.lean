/- package bitmap and its reference: Extents -/
import Derived.Test.YtackllehpecfgaaDoorBm6
namespace Go.Proofs.YtackllehpecfgaaDoor
open Go.RowKit

theorem rexts_ret (H : Hp) (A1 : Option Addr) (n : Int) (c1 : Nat) (ws : List (BitVec 64)) (hr1 : RdC H A1 ws.length c1 1 (ws.map u64)) : Ret Tryd.prog 32 #[.agg #[.int .i64 n, .slice A1 ws.length c1]] H (ERv (extR n ws)) := by
  have hL := hr1.2.2.1
  have hL1 := hr1.2.1
  unfold maxLen at hL
  refine Ret.of_code Tryd.func32 rfl (Nat.le_of_ble_eq_true rfl) fun w0 hM => ?_
  refine CW.seq ?_
  refine CW.region ?_
  refine RW.box hM (.agg #[.int .i64 (n), .slice A1 ws.length c1]) [.int .i64 (n), .slice A1 ws.length c1] rfl rfl rfl rfl ?_; intro b1 w hM
  refine RW.step (Ex.assign (.slice none 0 0) rfl) rfl rfl rfl ?_
  refine RW.nil ?_
  refine CW.seq ?_
  refine CW.region ?_
  refine RW.step (Ex.assign (.slice none 0 0) rfl) rfl rfl rfl ?_
  refine RW.nil ?_
  refine CW.seq ?_
  refine CW.seq ?_
  refine CW.region ?_
  refine RW.step (Ex.loadA hM 0 [.int .i64 (n), .slice A1 ws.length c1] ta24 rfl rfl rfl rfl) rfl rfl rfl ?_
  refine RW.callV hM (rcheck_ret _ _ n _ ws hr1) en21 rfl rfl rfl rfl ?_; intro w hM
  refine RW.step (Ex.neq rfl rfl) rfl rfl rfl ?_
  refine RW.nil ?_
  refine CW.cond_dec rfl (fun hc2 => ?_) (fun hc2 => ?_)
  · -- yes: (chk n ws) ≠ 0
    refine CW.seq ?_
    refine CW.region ?_
    refine RW.step (Ex.assign (.slice none 0 0) rfl) rfl rfl rfl ?_
    refine RW.nil ?_
    refine CW.ret ?_
    refine thenQ_ret ?_
    refine end_tmp (.inl rfl) rfl (.slice none 0 0) rfl ?_
    exact ⟨_, _, hM, ERv.nil (extR_form hc2)⟩
  · -- no: (chk n ws) ≠ 0
    have hwl := wf_len (Classical.not_not.1 hc2)
    refine CW.skip ?_
    refine CW.seq ?_
    refine CW.seq ?_
    refine CW.region ?_
    refine RW.step (Ex.assign (.int .i64 (0)) rfl) rfl rfl rfl ?_
    refine RW.nil ?_
    refine CW.block ?_
    refine CW.loop (β := Nat) (fun (k : Nat) σ w => ∃ (Ax : Option Addr), ∃ (cx : Nat), (∃ τ, σ = sl [(1, .pointer (some ⟨b1, 0, none⟩)), (2, .slice none 0 0), (3, .slice Ax ((extsK ws k).length) cx), (4, .int .i64 ((k : Int)))] τ) ∧ Mem w0 H w H [.row (.slice Ax ((extsK ws k).length) cx) 26 2 ((extsK ws k).length) ((extsK ws k).flatMap eC), .box b1 24 [.int .i64 (n), .slice A1 ws.length c1]] ∧ ((k : Int) ≤ n) ∧ True) (fun k => n.toNat - k) (0) ⟨none, 0, sl_canon ⟨rfl, rfl, rfl, (show Value.int _ _ = Value.int _ _ from congrArg (Value.int _) (by omega)), trivial⟩, (hM.nilRow 26 2), (by omega), trivial⟩ ?_
    rintro k _ w ⟨Ax, cx, ⟨τ, rfl⟩, hM, hk, -⟩
    have hx := extsK_facts ws k
    have hxl := hx.2
    refine CW.seq ?_
    refine CW.seq ?_
    refine CW.region ?_
    refine RW.step (Ex.move (.int .i64 ((k : Int))) rfl) rfl rfl rfl ?_
    refine RW.step (Ex.fieldAddr fa24_0 rfl) rfl rfl rfl ?_
    refine RW.step (Ex.load1 hM 1 to3 rfl rfl rfl) rfl rfl rfl ?_
    refine RW.step (Ex.lss rfl rfl) rfl rfl rfl ?_
    refine RW.nil ?_
    refine CW.cond_dec rfl (fun hc3 => ?_) (fun hc3 => ?_)
    · -- yes: (k : Int) < n
      refine CW.skip ?_
      refine CW.seq ?_
      refine CW.block ?_
      refine CW.seq ?_
      refine CW.seq ?_
      refine CW.region ?_
      refine RW.step (Ex.loadA hM 1 [.int .i64 (n), .slice A1 ws.length c1] ta24 rfl rfl rfl rfl) rfl rfl rfl ?_
      refine RW.step (Ex.move (.int .i64 ((k : Int))) rfl) rfl rfl rfl ?_
      refine RW.callV hM (bit_ret _ _ n _ ws hr1 (k : Int) k (by omega) (by omega) (by omega)) en44 rfl rfl rfl rfl ?_; intro w hM
      refine RW.step (Ex.not rfl) rfl rfl rfl ?_
      refine RW.nil ?_
      refine CW.cond_dec rfl (fun hc4 => ?_) (fun hc4 => ?_)
      · -- yes: ¬ (bitN ws k = true)
        refine CW.exit ?_
        refine CW.region ?_
        refine RW.step (Ex.move (.int .i64 ((k : Int))) rfl) rfl rfl rfl ?_
        refine RW.step (Ex.add rfl rfl (by omega) (by omega)) rfl rfl rfl ?_
        refine RW.step (Ex.assign (.int .i64 ((k : Int) + 1)) rfl) rfl rfl rfl ?_
        refine RW.nil ?_
        refine And.intro rfl (Exists.intro (k + 1) (And.intro ⟨Ax, cx, sl_canon ⟨rfl, rfl, (show Value.slice Ax ((extsK ws k).length) cx = .slice Ax (extsK ws (k + 1)).length cx from by rw [(extsK_no hc4)]), (show Value.int _ _ = Value.int _ _ from congrArg (Value.int _) (by omega)), trivial⟩, (by rw [(extsK_no hc4)]; exact hM), (by omega), trivial⟩ (by omega)))
      · -- no: ¬ (bitN ws k = true)
        refine CW.skip ?_
        refine CW.seq ?_
        refine CW.region ?_
        refine RW.step (Ex.move (.slice Ax ((extsK ws k).length) cx) rfl) rfl rfl rfl ?_
        refine RW.step (Ex.len st44.1 rfl) rfl rfl rfl ?_
        refine RW.step (Ex.assign (.int .i64 (((extsK ws k).length : Int))) rfl) rfl rfl rfl ?_
        refine RW.nil ?_
        refine CW.seq ?_
        by_cases hd5 : 0 < ((extsK ws k).length : Int)
        ·
          have hxg := exB_get hx.1 (show (((extsK ws k).length : Int) - 1).toNat < (extsK ws k).length by omega)
          refine CW.drawE 19 [.int .i64 (((extsK ws k).length : Int)), .bool true, .bool true, .slice Ax ((extsK ws k).length) cx, .int .i64 (((extsK ws k).length : Int)), .int .i64 (((extsK ws k).length : Int) - 1), elp Ax (((((extsK ws k).length : Int) - 1).toNat) * 2 + 0), elp Ax (((((extsK ws k).length : Int) - 1).toNat) * 2 + 0), .int .i64 (((extsK ws k).getD ((((extsK ws k).length : Int) - 1).toNat) (0, 0)).1), .slice Ax ((extsK ws k).length) cx, .int .i64 (((extsK ws k).length : Int)), .int .i64 (((extsK ws k).length : Int) - 1), elp Ax (((((extsK ws k).length : Int) - 1).toNat) * 2 + 0), elp Ax (((((extsK ws k).length : Int) - 1).toNat) * 2 + 1), .int .i64 (((extsK ws k).getD ((((extsK ws k).length : Int) - 1).toNat) (0, 0)).2), .int .i64 ((((extsK ws k).getD ((((extsK ws k).length : Int) - 1).toNat) (0, 0)).1) + (((extsK ws k).getD ((((extsK ws k).length : Int) - 1).toNat) (0, 0)).2)), .int .i64 ((k : Int)), .bool (decide (((((extsK ws k).getD ((((extsK ws k).length : Int) - 1).toNat) (0, 0)).1) + (((extsK ws k).getD ((((extsK ws k).length : Int) - 1).toNat) (0, 0)).2)) = (k : Int))), .bool (decide (((((extsK ws k).getD ((((extsK ws k).length : Int) - 1).toNat) (0, 0)).1) + (((extsK ws k).getD ((((extsK ws k).length : Int) - 1).toNat) (0, 0)).2)) = (k : Int)))]
            [[(5, none)], [(21, some 0)], [(22, some 1)], [(3, none), (23, some 2)], [(5, none), (23, some 2)], [(23, some 2), (25, some 4)], [(23, some 2), (24, some 3), (26, some 5)], [(23, some 2), (27, some 6)], [(23, some 2), (28, some 7)], [(3, none), (23, some 2)], [(5, none), (23, some 2)], [(23, some 2), (31, some 10)], [(23, some 2), (30, some 9), (32, some 11)], [(23, some 2), (33, some 12)], [(23, some 2), (34, some 13)], [(23, some 2), (29, some 8), (35, some 14)], [(4, none), (23, some 2)], [(23, some 2), (36, some 15), (37, some 16)], [(23, some 2), (38, some 17)]] [(1, none), (2, none), (3, none), (4, none), (5, none), (9, none), (10, none), (11, none), (12, none), (15, none), (16, none), (17, none), (18, none), (19, none), (20, none), (21, some 0), (22, some 1), (23, some 2), (24, some 3), (25, some 4), (26, some 5), (27, some 6), (28, some 7), (29, some 8), (30, some 9), (31, some 10), (32, some 11), (33, some 12), (34, some 13), (35, some 14), (36, some 15), (37, some 16), (38, some 17), (39, some 18)] (by kernel_rfl) hM (by kernel_rfl) ⟨?_, ?_, ?_, ?_, ?_, ?_, ?_, ?_, ?_, ?_, ?_, ?_, ?_, ?_, ?_, ?_, ?_, ?_, ?_, trivial⟩ ?_
          · exact One.ex (fun H' τ w hled hM => Ex.move (.int .i64 (((extsK ws k).length : Int))) rfl) rfl (fun _ => rfl) rfl
          · exact One.ex (fun H' τ w hled hM => Ex.yes (Ex.gtr rfl rfl) hd5) rfl (fun _ => rfl) rfl
          · exact One.ex (fun H' τ w hled hM => Ex.move (.bool true) rfl) rfl (fun _ => rfl) rfl
          · exact One.ex (fun H' τ w hled hM => Ex.move (.slice Ax ((extsK ws k).length) cx) rfl) rfl (fun _ => rfl) rfl
          · exact One.ex (fun H' τ w hled hM => Ex.move (.int .i64 (((extsK ws k).length : Int))) rfl) rfl (fun _ => rfl) rfl
          · exact One.ex (fun H' τ w hled hM => Ex.sub rfl rfl (by omega) (by omega)) rfl (fun _ => rfl) rfl
          · exact One.ex (fun H' τ w hled hM => Ex.index st44 rfl rfl ((((extsK ws k).length : Int) - 1).toNat) (hM.rowNe (k := 0) rfl (by omega)) (by omega) (by omega)) rfl (fun _ => rfl) rfl
          · exact One.ex (fun H' τ w hled hM => Ex.fieldE fa26_0 (hM.rowNe (k := 0) rfl (by omega)) rfl) rfl (fun _ => rfl) rfl
          · exact One.ex (fun H' τ w hled hM => Ex.loadR hM 0 rfl to3 (hM.rowNe (k := 0) rfl (by omega)) rfl (getE0 (by omega))) rfl (fun _ => rfl) rfl
          · exact One.ex (fun H' τ w hled hM => Ex.move (.slice Ax ((extsK ws k).length) cx) rfl) rfl (fun _ => rfl) rfl
          · exact One.ex (fun H' τ w hled hM => Ex.move (.int .i64 (((extsK ws k).length : Int))) rfl) rfl (fun _ => rfl) rfl
          · exact One.ex (fun H' τ w hled hM => Ex.sub rfl rfl (by omega) (by omega)) rfl (fun _ => rfl) rfl
          · exact One.ex (fun H' τ w hled hM => Ex.index st44 rfl rfl ((((extsK ws k).length : Int) - 1).toNat) (hM.rowNe (k := 0) rfl (by omega)) (by omega) (by omega)) rfl (fun _ => rfl) rfl
          · exact One.ex (fun H' τ w hled hM => Ex.fieldE fa26_1 (hM.rowNe (k := 0) rfl (by omega)) rfl) rfl (fun _ => rfl) rfl
          · exact One.ex (fun H' τ w hled hM => Ex.loadR hM 0 rfl to3 (hM.rowNe (k := 0) rfl (by omega)) rfl (getE1 (by omega))) rfl (fun _ => rfl) rfl
          · exact One.ex (fun H' τ w hled hM => Ex.add rfl rfl (by omega) (by omega)) rfl (fun _ => rfl) rfl
          · exact One.ex (fun H' τ w hled hM => Ex.move (.int .i64 ((k : Int))) rfl) rfl (fun _ => rfl) rfl
          · exact One.ex (fun H' τ w hled hM => Ex.eql rfl rfl) rfl (fun _ => rfl) rfl
          · exact One.ex (fun H' τ w hled hM => Ex.pickT (.bool (decide (((((extsK ws k).getD ((((extsK ws k).length : Int) - 1).toNat) (0, 0)).1) + (((extsK ws k).getD ((((extsK ws k).length : Int) - 1).toNat) (0, 0)).2)) = (k : Int)))) rfl rfl) rfl (fun _ => rfl) rfl
          intro τ w hM
          change RW _ _ _ _ _ _ _ _ (sl [(1, .pointer (some ⟨b1, 0, none⟩)), (2, .slice none 0 0), (3, .slice Ax ((extsK ws k).length) cx), (4, .int .i64 ((k : Int))), (5, .int .i64 (((extsK ws k).length : Int))), (9, .int .i64 ((k : Int))), (10, .pointer (some ⟨b1, 0, none⟩)), (11, .int .i64 (n)), (12, .bool (decide ((k : Int) < n))), (15, .agg #[.int .i64 (n), .slice A1 ws.length c1]), (16, .int .i64 ((k : Int))), (17, .bool (decide (bitN ws k = true))), (18, .bool (decide (¬ (bitN ws k = true)))), (19, .slice Ax ((extsK ws k).length) cx), (20, .int .i64 (((extsK ws k).length : Int))), (21, .int .i64 (((extsK ws k).length : Int))), (22, .bool true), (23, .bool true), (24, .slice Ax ((extsK ws k).length) cx), (25, .int .i64 (((extsK ws k).length : Int))), (26, .int .i64 (((extsK ws k).length : Int) - 1)), (27, elp Ax (((((extsK ws k).length : Int) - 1).toNat) * 2 + 0)), (28, elp Ax (((((extsK ws k).length : Int) - 1).toNat) * 2 + 0)), (29, .int .i64 (((extsK ws k).getD ((((extsK ws k).length : Int) - 1).toNat) (0, 0)).1)), (30, .slice Ax ((extsK ws k).length) cx), (31, .int .i64 (((extsK ws k).length : Int))), (32, .int .i64 (((extsK ws k).length : Int) - 1)), (33, elp Ax (((((extsK ws k).length : Int) - 1).toNat) * 2 + 0)), (34, elp Ax (((((extsK ws k).length : Int) - 1).toNat) * 2 + 1)), (35, .int .i64 (((extsK ws k).getD ((((extsK ws k).length : Int) - 1).toNat) (0, 0)).2)), (36, .int .i64 ((((extsK ws k).getD ((((extsK ws k).length : Int) - 1).toNat) (0, 0)).1) + (((extsK ws k).getD ((((extsK ws k).length : Int) - 1).toNat) (0, 0)).2))), (37, .int .i64 ((k : Int))), (38, .bool (decide (((((extsK ws k).getD ((((extsK ws k).length : Int) - 1).toNat) (0, 0)).1) + (((extsK ws k).getD ((((extsK ws k).length : Int) - 1).toNat) (0, 0)).2)) = (k : Int)))), (39, .bool (decide (((((extsK ws k).getD ((((extsK ws k).length : Int) - 1).toNat) (0, 0)).1) + (((extsK ws k).getD ((((extsK ws k).length : Int) - 1).toNat) (0, 0)).2)) = (k : Int))))] τ) _
          refine RW.nil ?_
          refine CW.cond_dec rfl (fun hc6 => ?_) (fun hc6 => ?_)
          · -- yes: ((((extsK ws k).getD ((((extsK ws k).length : Int) - 1).toNat) (0, 0)).1) + (((extsK ws k).getD ((((extsK ws k).length :
            have hxj := hc6
            refine CW.region ?_
            refine RW.step (Ex.move (.slice Ax ((extsK ws k).length) cx) rfl) rfl rfl rfl ?_
            refine RW.step (Ex.move (.int .i64 (((extsK ws k).length : Int))) rfl) rfl rfl rfl ?_
            refine RW.step (Ex.sub rfl rfl (by omega) (by omega)) rfl rfl rfl ?_
            refine RW.step (Ex.index st44 rfl rfl ((((extsK ws k).length : Int) - 1).toNat) (hM.rowNe (k := 0) rfl (by omega)) (by omega) (by omega)) rfl rfl rfl ?_
            refine RW.step (Ex.fieldE fa26_1 (hM.rowNe (k := 0) rfl (by omega)) rfl) rfl rfl rfl ?_
            refine RW.step (Ex.loadR hM 0 rfl to3 (hM.rowNe (k := 0) rfl (by omega)) rfl (getE1 (by omega))) rfl rfl rfl ?_
            refine RW.step (Ex.add rfl rfl (by omega) (by omega)) rfl rfl rfl ?_
            refine RW.step (Ex.index st44 rfl rfl ((((extsK ws k).length : Int) - 1).toNat) (hM.rowNe (k := 0) rfl (by omega)) (by omega) (by omega)) rfl rfl rfl ?_
            refine RW.step (Ex.fieldE fa26_1 (hM.rowNe (k := 0) rfl (by omega)) rfl) rfl rfl rfl ?_
            refine RW.storeR hM 0 (((((extsK ws k).length : Int) - 1).toNat) * 2 + 1) (.int .i64 ((((extsK ws k).getD ((((extsK ws k).length : Int) - 1).toNat) (0, 0)).2) + 1)) [.int .i64 ((((extsK ws k).getD ((((extsK ws k).length : Int) - 1).toNat) (0, 0)).2) + 1)] ((bumpE (extsK ws k) ((((extsK ws k).length : Int) - 1).toNat) ((((extsK ws k).getD ((((extsK ws k).length : Int) - 1).toNat) (0, 0)).2) + 1)).flatMap eC) sz3 rfl (hM.rowNe (k := 0) rfl (by omega)) rfl rfl (oneAll ⟨rfl, trivial⟩) rfl (by rw [eC_len]; simp only [List.length_cons, List.length_nil]; omega) (setE (by omega)) [.row (.slice Ax ((extsK ws k).length) cx) 26 2 ((extsK ws k).length) ((bumpE (extsK ws k) ((((extsK ws k).length : Int) - 1).toNat) ((((extsK ws k).getD ((((extsK ws k).length : Int) - 1).toNat) (0, 0)).2) + 1)).flatMap eC), .box b1 24 [.int .i64 (n), .slice A1 ws.length c1]] rfl rfl rfl ?_; intro w hM
            refine RW.nil ?_
            refine CW.region ?_
            refine RW.step (Ex.move (.int .i64 ((k : Int))) rfl) rfl rfl rfl ?_
            refine RW.step (Ex.add rfl rfl (by omega) (by omega)) rfl rfl rfl ?_
            refine RW.step (Ex.assign (.int .i64 ((k : Int) + 1)) rfl) rfl rfl rfl ?_
            refine RW.nil ?_
            refine And.intro rfl (Exists.intro (k + 1) (And.intro ⟨Ax, cx, sl_canon ⟨rfl, rfl, (show Value.slice Ax ((extsK ws k).length) cx = .slice Ax (extsK ws (k + 1)).length cx from by rw [((extsK_yes (Classical.not_not.1 hc4)).trans (addX_join ⟨by omega, by rw [(show (((extsK ws k).length : Int) - 1).toNat = (extsK ws k).length - 1 by omega)] at hxj; exact hxj⟩)), bumpE_length]), (show Value.int _ _ = Value.int _ _ from congrArg (Value.int _) (by omega)), trivial⟩, (by rw [((extsK_yes (Classical.not_not.1 hc4)).trans (addX_join ⟨by omega, by rw [(show (((extsK ws k).length : Int) - 1).toNat = (extsK ws k).length - 1 by omega)] at hxj; exact hxj⟩)), bumpE_length]; rw [show (((extsK ws k).length : Int) - 1).toNat = (extsK ws k).length - 1 by omega] at hM; exact hM), (by omega), trivial⟩ (by omega)))
          · -- no: ((((extsK ws k).getD ((((extsK ws k).length : Int) - 1).toNat) (0, 0)).1) + (((extsK ws k).getD ((((extsK ws k).length :
            refine CW.region ?_
            refine RW.step (Ex.move (.slice Ax ((extsK ws k).length) cx) rfl) rfl rfl rfl ?_
            refine RW.step (Ex.move (.int .i64 ((k : Int))) rfl) rfl rfl rfl ?_
            refine RW.step (Ex.build bs26 [(0, .int .i64 ((k : Int))), (1, .int .i64 (1))] [.int .i64 ((k : Int)), .int .i64 (1)] rfl rfl) rfl rfl rfl ?_
            refine RW.buildSlice hM st44 tz26 [(0, .agg #[.int .i64 ((k : Int)), .int .i64 (1)])] [.int .i64 ((k : Int)), .int .i64 (1)] (by decide) rfl rfl rfl (by decide) rfl rfl ?_; intro b7 w hM
            refine RW.append hM 1 st44 rfl rfl rfl ([.int .i64 ((k : Int)), .int .i64 (1)]) rfl (fun j u hj => hM.rowCell (k := 0) rfl rfl hj) (oneAll ⟨rfl, rfl, trivial⟩) (by omega) (by unfold maxLen; omega) rfl rfl ?_; intro A8 c9 w hM
            replace hM : Mem w0 H w H [.row (.slice (some ⟨b7, 0, none⟩) 1 1) 26 2 1 ([.int .i64 ((k : Int)), .int .i64 (1)]), .row (.slice A8 ((extsK ws k).length + 1) c9) 26 2 ((extsK ws k).length + 1) (((extsK ws k) ++ [((k : Int), 1)]).flatMap eC), .box b1 24 [.int .i64 (n), .slice A1 ws.length c1]] := (by simpa [List.flatMap_append, eC] using hM)
            refine RW.step (Ex.assign (.slice A8 ((extsK ws k).length + 1) c9) rfl) rfl rfl rfl ?_
            refine RW.nil ?_
            refine CW.region ?_
            refine RW.step (Ex.move (.int .i64 ((k : Int))) rfl) rfl rfl rfl ?_
            refine RW.step (Ex.add rfl rfl (by omega) (by omega)) rfl rfl rfl ?_
            refine RW.step (Ex.assign (.int .i64 ((k : Int) + 1)) rfl) rfl rfl rfl ?_
            refine RW.nil ?_
            replace hM := hM.sub (List.Sublist.cons _ (List.Sublist.refl _))
            refine And.intro rfl (Exists.intro (k + 1) (And.intro ⟨A8, c9, sl_canon ⟨rfl, rfl, (show Value.slice A8 ((extsK ws k).length + 1) c9 = .slice A8 (extsK ws (k + 1)).length c9 from by rw [((extsK_yes (Classical.not_not.1 hc4)).trans (addX_new (fun hj => hc6 (by rw [(show (((extsK ws k).length : Int) - 1).toNat = (extsK ws k).length - 1 by omega)]; exact hj.2)))), List.length_append]; rfl), (show Value.int _ _ = Value.int _ _ from congrArg (Value.int _) (by omega)), trivial⟩, (by rw [((extsK_yes (Classical.not_not.1 hc4)).trans (addX_new (fun hj => hc6 (by rw [(show (((extsK ws k).length : Int) - 1).toNat = (extsK ws k).length - 1 by omega)]; exact hj.2)))), List.length_append]; exact hM), (by omega), trivial⟩ (by omega)))
        ·
          refine CW.drawE 19 [.int .i64 (((extsK ws k).length : Int)), .bool false, .bool false, undef, undef, undef, undef, undef, undef, undef, undef, undef, undef, undef, undef, undef, undef, undef, .bool false]
            [[(5, none)], [(21, some 0)], [(22, some 1)], [(23, some 2)], [(23, some 2)], [(23, some 2)], [(23, some 2)], [(23, some 2)], [(23, some 2)], [(23, some 2)], [(23, some 2)], [(23, some 2)], [(23, some 2)], [(23, some 2)], [(23, some 2)], [(23, some 2)], [(23, some 2)], [(23, some 2)], [(23, some 2), (38, some 17)]] [(1, none), (2, none), (3, none), (4, none), (5, none), (9, none), (10, none), (11, none), (12, none), (15, none), (16, none), (17, none), (18, none), (19, none), (20, none), (21, some 0), (22, some 1), (23, some 2), (24, some 3), (25, some 4), (26, some 5), (27, some 6), (28, some 7), (29, some 8), (30, some 9), (31, some 10), (32, some 11), (33, some 12), (34, some 13), (35, some 14), (36, some 15), (37, some 16), (38, some 17), (39, some 18)] (by kernel_rfl) hM (by kernel_rfl) ⟨?_, ?_, ?_, ?_, ?_, ?_, ?_, ?_, ?_, ?_, ?_, ?_, ?_, ?_, ?_, ?_, ?_, ?_, ?_, trivial⟩ ?_
          · exact One.ex (fun H' τ w hled hM => Ex.move (.int .i64 (((extsK ws k).length : Int))) rfl) rfl (fun _ => rfl) rfl
          · exact One.ex (fun H' τ w hled hM => Ex.no (Ex.gtr rfl rfl) hd5) rfl (fun _ => rfl) rfl
          · exact One.ex (fun H' τ w hled hM => Ex.move (.bool false) rfl) rfl (fun _ => rfl) rfl
          · exact One.pass (fun _ => rfl) rfl
          · exact One.pass (fun _ => rfl) rfl
          · exact One.pass (fun _ => rfl) rfl
          · exact One.pass (fun _ => rfl) rfl
          · exact One.pass (fun _ => rfl) rfl
          · exact One.pass (fun _ => rfl) rfl
          · exact One.pass (fun _ => rfl) rfl
          · exact One.pass (fun _ => rfl) rfl
          · exact One.pass (fun _ => rfl) rfl
          · exact One.pass (fun _ => rfl) rfl
          · exact One.pass (fun _ => rfl) rfl
          · exact One.pass (fun _ => rfl) rfl
          · exact One.pass (fun _ => rfl) rfl
          · exact One.pass (fun _ => rfl) rfl
          · exact One.pass (fun _ => rfl) rfl
          · exact One.ex (fun H' τ w hled hM => Ex.pickF (.bool false) rfl rfl) rfl (fun _ => rfl) rfl
          intro τ w hM
          change RW _ _ _ _ _ _ _ _ (sl [(1, .pointer (some ⟨b1, 0, none⟩)), (2, .slice none 0 0), (3, .slice Ax ((extsK ws k).length) cx), (4, .int .i64 ((k : Int))), (5, .int .i64 (((extsK ws k).length : Int))), (9, .int .i64 ((k : Int))), (10, .pointer (some ⟨b1, 0, none⟩)), (11, .int .i64 (n)), (12, .bool (decide ((k : Int) < n))), (15, .agg #[.int .i64 (n), .slice A1 ws.length c1]), (16, .int .i64 ((k : Int))), (17, .bool (decide (bitN ws k = true))), (18, .bool (decide (¬ (bitN ws k = true)))), (19, .slice Ax ((extsK ws k).length) cx), (20, .int .i64 (((extsK ws k).length : Int))), (21, .int .i64 (((extsK ws k).length : Int))), (22, .bool false), (23, .bool false), (24, undef), (25, undef), (26, undef), (27, undef), (28, undef), (29, undef), (30, undef), (31, undef), (32, undef), (33, undef), (34, undef), (35, undef), (36, undef), (37, undef), (38, undef), (39, .bool false)] τ) _
          refine RW.nil ?_
          refine CW.cond_false rfl ?_
          refine CW.region ?_
          refine RW.step (Ex.move (.slice Ax ((extsK ws k).length) cx) rfl) rfl rfl rfl ?_
          refine RW.step (Ex.move (.int .i64 ((k : Int))) rfl) rfl rfl rfl ?_
          refine RW.step (Ex.build bs26 [(0, .int .i64 ((k : Int))), (1, .int .i64 (1))] [.int .i64 ((k : Int)), .int .i64 (1)] rfl rfl) rfl rfl rfl ?_
          refine RW.buildSlice hM st44 tz26 [(0, .agg #[.int .i64 ((k : Int)), .int .i64 (1)])] [.int .i64 ((k : Int)), .int .i64 (1)] (by decide) rfl rfl rfl (by decide) rfl rfl ?_; intro b10 w hM
          refine RW.append hM 1 st44 rfl rfl rfl ([.int .i64 ((k : Int)), .int .i64 (1)]) rfl (fun j u hj => hM.rowCell (k := 0) rfl rfl hj) (oneAll ⟨rfl, rfl, trivial⟩) (by omega) (by unfold maxLen; omega) rfl rfl ?_; intro A11 c12 w hM
          replace hM : Mem w0 H w H [.row (.slice (some ⟨b10, 0, none⟩) 1 1) 26 2 1 ([.int .i64 ((k : Int)), .int .i64 (1)]), .row (.slice A11 ((extsK ws k).length + 1) c12) 26 2 ((extsK ws k).length + 1) (((extsK ws k) ++ [((k : Int), 1)]).flatMap eC), .box b1 24 [.int .i64 (n), .slice A1 ws.length c1]] := (by simpa [List.flatMap_append, eC] using hM)
          refine RW.step (Ex.assign (.slice A11 ((extsK ws k).length + 1) c12) rfl) rfl rfl rfl ?_
          refine RW.nil ?_
          refine CW.region ?_
          refine RW.step (Ex.move (.int .i64 ((k : Int))) rfl) rfl rfl rfl ?_
          refine RW.step (Ex.add rfl rfl (by omega) (by omega)) rfl rfl rfl ?_
          refine RW.step (Ex.assign (.int .i64 ((k : Int) + 1)) rfl) rfl rfl rfl ?_
          refine RW.nil ?_
          replace hM := hM.sub (List.Sublist.cons _ (List.Sublist.refl _))
          refine And.intro rfl (Exists.intro (k + 1) (And.intro ⟨A11, c12, sl_canon ⟨rfl, rfl, (show Value.slice A11 ((extsK ws k).length + 1) c12 = .slice A11 (extsK ws (k + 1)).length c12 from by rw [((extsK_yes (Classical.not_not.1 hc4)).trans (addX_new (fun hj => by have := hj.1; omega))), List.length_append]; rfl), (show Value.int _ _ = Value.int _ _ from congrArg (Value.int _) (by omega)), trivial⟩, (by rw [((extsK_yes (Classical.not_not.1 hc4)).trans (addX_new (fun hj => by have := hj.1; omega))), List.length_append]; exact hM), (by omega), trivial⟩ (by omega)))
    · -- no: (k : Int) < n
      refine CW.exit ?_
      refine CW.seq ?_
      refine CW.region ?_
      refine RW.step (Ex.move (.slice Ax ((extsK ws k).length) cx) rfl) rfl rfl rfl ?_
      refine RW.step (Ex.assign (.slice Ax ((extsK ws k).length) cx) rfl) rfl rfl rfl ?_
      refine RW.nil ?_
      refine CW.ret ?_
      refine end_tmp (.inl rfl) rfl (.slice Ax ((extsK ws k).length) cx) rfl ?_
      obtain ⟨H9, hM9, hle9, hr9⟩ := hM.giveRow (k := 0) rfl
      exact ⟨_, _, hM9, ERv.ok (extR_ok hc2 (by omega)) rfl hr9⟩

end Go.Proofs.YtackllehpecfgaaDoor
