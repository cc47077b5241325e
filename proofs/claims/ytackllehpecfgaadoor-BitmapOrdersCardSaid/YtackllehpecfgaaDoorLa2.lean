/- the statements on bitmaps that hold them against themselves -/
import Derived.Test.YtackllehpecfgaaDoorLa1
import Derived.Test.YtackllehpecfgaaDoorLawm
namespace Go.Proofs.YtackllehpecfgaaDoor
open Go.RowKit

theorem bitmapVisits_ret (H : Hp) (A1 : Option Addr) (n : Int) (c1 : Nat) (ws : List (BitVec 64)) (hr1 : RdC H A1 ws.length c1 1 (ws.map u64)) (hT : TabH H 0) : RetV Tryd.prog 5 #[.agg #[.int .i64 n, .slice A1 ws.length c1]] H (.bool true) := by
  have hL := hr1.2.2.1
  have hL1 := hr1.2.1
  unfold maxLen at hL
  refine Ret.of_code Tryd.func5 rfl (Nat.le_of_ble_eq_true rfl) fun w0 hM => ?_
  refine CW.seq ?_
  refine CW.region ?_
  refine RW.box hM (.agg #[.int .i64 (n), .slice A1 ws.length c1]) [.int .i64 (n), .slice A1 ws.length c1] rfl rfl rfl rfl ?_; intro b1 w hM
  refine RW.step (Ex.assign (.bool false) rfl) rfl rfl rfl ?_
  refine RW.nil ?_
  refine CW.seq ?_
  refine CW.seq ?_
  refine CW.region ?_
  refine RW.step (Ex.loadA hM 0 [.int .i64 (n), .slice A1 ws.length c1] ta24 rfl rfl rfl rfl) rfl rfl rfl ?_
  refine RW.buildSlice hM st54 tz24 [(0, .agg #[.int .i64 (n), .slice A1 ws.length c1])] [.int .i64 (n), .slice A1 ws.length c1] (by decide) rfl rfl rfl (by decide) rfl rfl ?_; intro b2 w hM
  obtain ⟨H3, hM, hle4, hr5⟩ := hM.giveRow (k := 0) rfl
  replace hr5 : RdC H3 (some ⟨b2, 0, none⟩) (List.length (α := BV) ([⟨n, A1, ws.length, c1⟩])) 1 2 (List.flatMap bvC ([⟨n, A1, ws.length, c1⟩])) := hr5
  replace hM : Mem w0 H w H3 [.box b1 24 [.int .i64 (n), .slice A1 ws.length c1]] := hM
  refine RW.callV hM (few_ret _ _ _ [⟨n, A1, ws.length, c1⟩] hr5) en11 rfl rfl rfl rfl ?_; intro w hM
  refine RW.step (Ex.not rfl) rfl rfl rfl ?_
  refine RW.step (Ex.move (.bool (decide (¬ (fewB [⟨n, A1, ws.length, c1⟩] = true)))) rfl) rfl rfl rfl ?_
  refine RW.split 10 rfl (fun hc6 => ?_) (fun hc6 => ?_)
  · -- yes
    refine RW.pass rfl rfl ?_
    refine RW.pass rfl rfl ?_
    refine RW.pass rfl rfl ?_
    refine RW.step (Ex.pickT (.bool true) rfl rfl) rfl rfl rfl ?_
    refine RW.nil ?_
    refine CW.cond_true rfl ?_
    refine CW.seq ?_
    refine CW.region ?_
    refine RW.callV hM (awake_ret _ (hT.mono hle4)) en12 rfl rfl rfl rfl ?_; intro w hM
    refine RW.step (Ex.assign (.bool true) rfl) rfl rfl rfl ?_
    refine RW.nil ?_
    refine CW.ret ?_
    refine thenQ_ret ?_
    refine end_tmp (.inl rfl) rfl (.bool true) rfl ?_
    exact ⟨_, _, hM, rfl⟩
  · -- no
    refine RW.step (Ex.loadA hM 0 [.int .i64 (n), .slice A1 ws.length c1] ta24 rfl rfl rfl rfl) rfl rfl rfl ?_
    refine RW.callV hM (rcheck_ret _ _ n _ ws (hr1.mono hle4)) en21 rfl rfl rfl rfl ?_; intro w hM
    refine RW.step (Ex.neq rfl rfl) rfl rfl rfl ?_
    refine RW.step (Ex.pickF (.bool (decide ((chk n ws) ≠ 0))) rfl rfl) rfl rfl rfl ?_
    refine RW.nil ?_
    refine CW.cond_dec rfl (fun hc7 => ?_) (fun hc7 => ?_)
    · -- yes: (chk n ws) ≠ 0
      refine CW.seq ?_
      refine CW.region ?_
      refine RW.callV hM (awake_ret _ (hT.mono hle4)) en12 rfl rfl rfl rfl ?_; intro w hM
      refine RW.step (Ex.assign (.bool true) rfl) rfl rfl rfl ?_
      refine RW.nil ?_
      refine CW.ret ?_
      refine thenQ_ret ?_
      refine end_tmp (.inl rfl) rfl (.bool true) rfl ?_
      exact ⟨_, _, hM, rfl⟩
    · -- no: (chk n ws) ≠ 0
      have hck := Classical.not_not.1 hc7
      have hwl := wf_len hck
      refine CW.skip ?_
      refine CW.seq ?_
      refine CW.region ?_
      refine RW.step (Ex.loadA hM 0 [.int .i64 (n), .slice A1 ws.length c1] ta24 rfl rfl rfl rfl) rfl rfl rfl ?_
      refine RW.callV hM (next_ret _ _ n _ ws (hr1.mono hle4) (-5) (by omega) (hT.mono hle4)) en26 rfl rfl rfl rfl ?_; intro w hM
      refine RW.step (Ex.assign (.int .i64 (0)) rfl) rfl rfl rfl ?_
      refine RW.step (Ex.assign (.int .i64 (nextR n ws (-5))) rfl) rfl rfl rfl ?_
      refine RW.nil ?_
      refine CW.seq ?_
      refine CW.seq ?_
      refine CW.region ?_
      refine RW.step (Ex.assign (.int .i64 (0)) rfl) rfl rfl rfl ?_
      refine RW.nil ?_
      refine CW.block ?_
      refine CW.loop (β := Nat) (fun (k : Nat) σ w => (∃ τ, σ = sl [(1, .pointer (some ⟨b1, 0, none⟩)), (3, .int .i64 ((cntK ws k : Int))), (4, .int .i64 (nextR n ws (k : Int))), (5, .int .i64 ((k : Int)))] τ) ∧ Mem w0 H w H3 [.box b1 24 [.int .i64 (n), .slice A1 ws.length c1]] ∧ ((k : Int) ≤ n) ∧ (cntK ws k ≤ k) ∧ True) (fun k => n.toNat - k) (0) ⟨sl_canon ⟨rfl, rfl, (congrArg (Value.int .i64) (next_neg (by omega))), (show Value.int _ _ = Value.int _ _ from congrArg (Value.int _) (by omega)), trivial⟩, hM, (by omega), (cntK_le ws _), trivial⟩ ?_
      rintro k _ w ⟨⟨τ, rfl⟩, hM, hk, hc, -⟩
      refine CW.seq ?_
      refine CW.seq ?_
      refine CW.region ?_
      refine RW.step (Ex.move (.int .i64 ((k : Int))) rfl) rfl rfl rfl ?_
      refine RW.step (Ex.fieldAddr fa24_0 rfl) rfl rfl rfl ?_
      refine RW.step (Ex.load1 hM 0 to3 rfl rfl rfl) rfl rfl rfl ?_
      refine RW.step (Ex.lss rfl rfl) rfl rfl rfl ?_
      refine RW.nil ?_
      refine CW.cond_dec rfl (fun hc8 => ?_) (fun hc8 => ?_)
      · -- yes: (k : Int) < n
        refine CW.skip ?_
        refine CW.seq ?_
        refine CW.block ?_
        refine CW.seq ?_
        refine CW.seq ?_
        refine CW.region ?_
        refine RW.step (Ex.loadA hM 0 [.int .i64 (n), .slice A1 ws.length c1] ta24 rfl rfl rfl rfl) rfl rfl rfl ?_
        refine RW.step (Ex.move (.int .i64 ((k : Int))) rfl) rfl rfl rfl ?_
        refine RW.callV hM (get_ret _ _ n _ ws (hr1.mono hle4) (k : Int)) en22 rfl rfl rfl rfl ?_; intro w hM
        refine RW.step (Ex.move (.int .i64 ((k : Int))) rfl) rfl rfl rfl ?_
        refine RW.step (Ex.move (.int .i64 (nextR n ws (k : Int))) rfl) rfl rfl rfl ?_
        refine RW.step (Ex.eql rfl rfl) rfl rfl rfl ?_
        refine RW.step (Ex.no (Ex.neqB Tryd.underlying4 rfl rfl) (fun h => h (decide_eq_decide.2 (next_bit hck (by omega))))) rfl rfl rfl ?_
        refine RW.nil ?_
        refine CW.cond_false rfl ?_
        refine CW.skip ?_
        refine CW.seq ?_
        refine CW.region ?_
        refine RW.step (Ex.move (.int .i64 ((k : Int))) rfl) rfl rfl rfl ?_
        refine RW.step (Ex.move (.int .i64 (nextR n ws (k : Int))) rfl) rfl rfl rfl ?_
        refine RW.step (Ex.eql rfl rfl) rfl rfl rfl ?_
        refine RW.nil ?_
        refine CW.cond_dec rfl (fun hc9 => ?_) (fun hc9 => ?_)
        · -- yes: (k : Int) = (nextR n ws (k : Int))
          have htk := next_take hck (by omega) hc9
          refine CW.seq ?_
          refine CW.region ?_
          refine RW.step (Ex.move (.int .i64 ((cntK ws k : Int))) rfl) rfl rfl rfl ?_
          refine RW.step (Ex.add rfl rfl (by omega) (by omega)) rfl rfl rfl ?_
          refine RW.step (Ex.assign (.int .i64 ((cntK ws k : Int) + 1)) rfl) rfl rfl rfl ?_
          refine RW.nil ?_
          refine CW.region ?_
          refine RW.step (Ex.loadA hM 0 [.int .i64 (n), .slice A1 ws.length c1] ta24 rfl rfl rfl rfl) rfl rfl rfl ?_
          refine RW.step (Ex.move (.int .i64 ((k : Int))) rfl) rfl rfl rfl ?_
          refine RW.step (Ex.add rfl rfl (by omega) (by omega)) rfl rfl rfl ?_
          refine RW.callV hM (next_ret _ _ n _ ws (hr1.mono hle4) ((k : Int) + 1) (by omega) (hT.mono hle4)) en26 rfl rfl rfl rfl ?_; intro w hM
          refine RW.step (Ex.assign (.int .i64 (nextR n ws ((k : Int) + 1))) rfl) rfl rfl rfl ?_
          refine RW.nil ?_
          refine CW.region ?_
          refine RW.step (Ex.move (.int .i64 ((k : Int))) rfl) rfl rfl rfl ?_
          refine RW.step (Ex.add rfl rfl (by omega) (by omega)) rfl rfl rfl ?_
          refine RW.step (Ex.assign (.int .i64 ((k : Int) + 1)) rfl) rfl rfl rfl ?_
          refine RW.nil ?_
          refine And.intro rfl (Exists.intro (k + 1) (And.intro ⟨sl_canon ⟨rfl, (congrArg (Value.int .i64) htk), (congrArg (Value.int .i64) (congrArg (nextR n ws) (by omega))), (show Value.int _ _ = Value.int _ _ from congrArg (Value.int _) (by omega)), trivial⟩, hM, (by omega), (cntK_le ws _), trivial⟩ (by omega)))
        · -- no: (k : Int) = (nextR n ws (k : Int))
          have hkp := next_keep hck (by omega) hc9
          refine CW.skip ?_
          refine CW.region ?_
          refine RW.step (Ex.move (.int .i64 ((k : Int))) rfl) rfl rfl rfl ?_
          refine RW.step (Ex.add rfl rfl (by omega) (by omega)) rfl rfl rfl ?_
          refine RW.step (Ex.assign (.int .i64 ((k : Int) + 1)) rfl) rfl rfl rfl ?_
          refine RW.nil ?_
          refine And.intro rfl (Exists.intro (k + 1) (And.intro ⟨sl_canon ⟨rfl, (congrArg (Value.int .i64) hkp.2), (congrArg (Value.int .i64) hkp.1), (show Value.int _ _ = Value.int _ _ from congrArg (Value.int _) (by omega)), trivial⟩, hM, (by omega), (cntK_le ws _), trivial⟩ (by omega)))
      · -- no: (k : Int) < n
        refine CW.exit ?_
        refine CW.seq ?_
        refine CW.region ?_
        refine RW.callV hM (awake_ret _ (hT.mono hle4)) en12 rfl rfl rfl rfl ?_; intro w hM
        refine RW.step (Ex.move (.bool true) rfl) rfl rfl rfl ?_
        refine RW.step (Ex.move (.int .i64 (nextR n ws (k : Int))) rfl) rfl rfl rfl ?_
        refine RW.step (Ex.yes (Ex.eql rfl rfl) (next_end (by omega))) rfl rfl rfl ?_
        refine RW.step (Ex.pickT (.bool true) rfl rfl) rfl rfl rfl ?_
        refine RW.step (Ex.move (.bool true) rfl) rfl rfl rfl ?_
        refine RW.step (Ex.move (.int .i64 ((cntK ws k : Int))) rfl) rfl rfl rfl ?_
        refine RW.step (Ex.loadA hM 0 [.int .i64 (n), .slice A1 ws.length c1] ta24 rfl rfl rfl rfl) rfl rfl rfl ?_
        refine RW.callV hM (count_ret _ _ n _ ws (hr1.mono hle4)) en24 rfl rfl rfl rfl ?_; intro w hM
        refine RW.step (Ex.yes (Ex.eql rfl rfl) ((cntR_ok (fun h => h hck) (by omega)).symm)) rfl rfl rfl ?_
        refine RW.step (Ex.pickT (.bool true) rfl rfl) rfl rfl rfl ?_
        refine RW.step (Ex.move (.bool true) rfl) rfl rfl rfl ?_
        refine RW.step (Ex.loadA hM 0 [.int .i64 (n), .slice A1 ws.length c1] ta24 rfl rfl rfl rfl) rfl rfl rfl ?_
        refine RW.step (Ex.fieldAddr fa24_0 rfl) rfl rfl rfl ?_
        refine RW.step (Ex.load1 hM 0 to3 rfl rfl rfl) rfl rfl rfl ?_
        refine RW.callV hM (RetV.no (get_ret _ _ n _ ws (hr1.mono hle4) n) (fun h => by have := (getB_iff.1 h).2.2.1; omega)) en22 rfl rfl rfl rfl ?_; intro w hM
        refine RW.step (Ex.notB (b := false) rfl) rfl rfl rfl ?_
        refine RW.step (Ex.pickT (.bool true) rfl rfl) rfl rfl rfl ?_
        refine RW.step (Ex.assign (.bool true) rfl) rfl rfl rfl ?_
        refine RW.nil ?_
        refine CW.ret ?_
        refine end_tmp (.inl rfl) rfl (.bool true) rfl ?_
        exact ⟨_, _, hM, rfl⟩

theorem bitmapCounts_ret (H : Hp) (A1 : Option Addr) (n : Int) (c1 : Nat) (ws : List (BitVec 64)) (hr1 : RdC H A1 ws.length c1 1 (ws.map u64)) (A2 : Option Addr) (m : Int) (c2 : Nat) (vs : List (BitVec 64)) (hr2 : RdC H A2 vs.length c2 1 (vs.map u64)) (hT : TabH H 0) : RetV Tryd.prog 10 #[.agg #[.int .i64 n, .slice A1 ws.length c1], .agg #[.int .i64 m, .slice A2 vs.length c2]] H (.bool true) := by
  have hL := hr1.2.2.1
  have hL1 := hr1.2.1
  unfold maxLen at hL
  have hK := hr2.2.2.1
  have hK1 := hr2.2.1
  unfold maxLen at hK
  refine Ret.of_code Tryd.func10 rfl (Nat.le_of_ble_eq_true rfl) fun w0 hM => ?_
  refine CW.seq ?_
  refine CW.region ?_
  refine RW.box hM (.agg #[.int .i64 (n), .slice A1 ws.length c1]) [.int .i64 (n), .slice A1 ws.length c1] rfl rfl rfl rfl ?_; intro b1 w hM
  refine RW.box hM (.agg #[.int .i64 (m), .slice A2 vs.length c2]) [.int .i64 (m), .slice A2 vs.length c2] rfl rfl rfl rfl ?_; intro b2 w hM
  refine RW.step (Ex.assign (.bool false) rfl) rfl rfl rfl ?_
  refine RW.nil ?_
  refine CW.seq ?_
  refine CW.seq ?_
  refine CW.region ?_
  refine RW.step (Ex.loadA hM 1 [.int .i64 (n), .slice A1 ws.length c1] ta24 rfl rfl rfl rfl) rfl rfl rfl ?_
  refine RW.step (Ex.loadA hM 0 [.int .i64 (m), .slice A2 vs.length c2] ta24 rfl rfl rfl rfl) rfl rfl rfl ?_
  refine RW.buildSlice hM st54 tz24 [(0, .agg #[.int .i64 (n), .slice A1 ws.length c1]), (1, .agg #[.int .i64 (m), .slice A2 vs.length c2])] [.int .i64 (n), .slice A1 ws.length c1, .int .i64 (m), .slice A2 vs.length c2] (by decide) rfl rfl rfl (by decide) rfl rfl ?_; intro b3 w hM
  obtain ⟨H4, hM, hle5, hr6⟩ := hM.giveRow (k := 0) rfl
  replace hr6 : RdC H4 (some ⟨b3, 0, none⟩) (List.length (α := BV) ([⟨n, A1, ws.length, c1⟩, ⟨m, A2, vs.length, c2⟩])) 2 2 (List.flatMap bvC ([⟨n, A1, ws.length, c1⟩, ⟨m, A2, vs.length, c2⟩])) := hr6
  replace hM : Mem w0 H w H4 [.box b2 24 [.int .i64 (m), .slice A2 vs.length c2], .box b1 24 [.int .i64 (n), .slice A1 ws.length c1]] := hM
  refine RW.callV hM (few_ret _ _ _ [⟨n, A1, ws.length, c1⟩, ⟨m, A2, vs.length, c2⟩] hr6) en11 rfl rfl rfl rfl ?_; intro w hM
  refine RW.step (Ex.not rfl) rfl rfl rfl ?_
  refine RW.step (Ex.move (.bool (decide (¬ (fewB [⟨n, A1, ws.length, c1⟩, ⟨m, A2, vs.length, c2⟩] = true)))) rfl) rfl rfl rfl ?_
  refine RW.split 18 rfl (fun hc7 => ?_) (fun hc7 => ?_)
  · -- yes
    refine RW.pass rfl rfl ?_
    refine RW.pass rfl rfl ?_
    refine RW.pass rfl rfl ?_
    refine RW.step (Ex.pickT (.bool true) rfl rfl) rfl rfl rfl ?_
    refine RW.step (Ex.move (.bool true) rfl) rfl rfl rfl ?_
    refine RW.pass rfl rfl ?_
    refine RW.pass rfl rfl ?_
    refine RW.pass rfl rfl ?_
    refine RW.step (Ex.pickT (.bool true) rfl rfl) rfl rfl rfl ?_
    refine RW.step (Ex.move (.bool true) rfl) rfl rfl rfl ?_
    refine RW.pass rfl rfl ?_
    refine RW.pass rfl rfl ?_
    refine RW.pass rfl rfl ?_
    refine RW.pass rfl rfl ?_
    refine RW.pass rfl rfl ?_
    refine RW.step (Ex.pickT (.bool true) rfl rfl) rfl rfl rfl ?_
    refine RW.nil ?_
    refine CW.cond_true rfl ?_
    refine CW.seq ?_
    refine CW.region ?_
    refine RW.callV hM (awake_ret _ (hT.mono hle5)) en12 rfl rfl rfl rfl ?_; intro w hM
    refine RW.step (Ex.assign (.bool true) rfl) rfl rfl rfl ?_
    refine RW.nil ?_
    refine CW.ret ?_
    refine thenQ_ret ?_
    refine end_tmp (.inl rfl) rfl (.bool true) rfl ?_
    exact ⟨_, _, hM, rfl⟩
  · -- no
    refine RW.step (Ex.loadA hM 1 [.int .i64 (n), .slice A1 ws.length c1] ta24 rfl rfl rfl rfl) rfl rfl rfl ?_
    refine RW.callV hM (rcheck_ret _ _ n _ ws (hr1.mono hle5)) en21 rfl rfl rfl rfl ?_; intro w hM
    refine RW.step (Ex.neq rfl rfl) rfl rfl rfl ?_
    refine RW.step (Ex.pickF (.bool (decide ((chk n ws) ≠ 0))) rfl rfl) rfl rfl rfl ?_
    refine RW.step (Ex.move (.bool (decide ((chk n ws) ≠ 0))) rfl) rfl rfl rfl ?_
    refine RW.split 23 rfl (fun hc8 => ?_) (fun hc8 => ?_)
    · -- yes
      refine RW.pass rfl rfl ?_
      refine RW.pass rfl rfl ?_
      refine RW.pass rfl rfl ?_
      refine RW.step (Ex.pickT (.bool true) rfl rfl) rfl rfl rfl ?_
      refine RW.step (Ex.move (.bool true) rfl) rfl rfl rfl ?_
      refine RW.pass rfl rfl ?_
      refine RW.pass rfl rfl ?_
      refine RW.pass rfl rfl ?_
      refine RW.pass rfl rfl ?_
      refine RW.pass rfl rfl ?_
      refine RW.step (Ex.pickT (.bool true) rfl rfl) rfl rfl rfl ?_
      refine RW.nil ?_
      refine CW.cond_true rfl ?_
      refine CW.seq ?_
      refine CW.region ?_
      refine RW.callV hM (awake_ret _ (hT.mono hle5)) en12 rfl rfl rfl rfl ?_; intro w hM
      refine RW.step (Ex.assign (.bool true) rfl) rfl rfl rfl ?_
      refine RW.nil ?_
      refine CW.ret ?_
      refine thenQ_ret ?_
      refine end_tmp (.inl rfl) rfl (.bool true) rfl ?_
      exact ⟨_, _, hM, rfl⟩
    · -- no
      refine RW.step (Ex.loadA hM 0 [.int .i64 (m), .slice A2 vs.length c2] ta24 rfl rfl rfl rfl) rfl rfl rfl ?_
      refine RW.callV hM (rcheck_ret _ _ m _ vs (hr2.mono hle5)) en21 rfl rfl rfl rfl ?_; intro w hM
      refine RW.step (Ex.neq rfl rfl) rfl rfl rfl ?_
      refine RW.step (Ex.pickF (.bool (decide ((chk m vs) ≠ 0))) rfl rfl) rfl rfl rfl ?_
      refine RW.step (Ex.move (.bool (decide ((chk m vs) ≠ 0))) rfl) rfl rfl rfl ?_
      refine RW.split 28 rfl (fun hc9 => ?_) (fun hc9 => ?_)
      · -- yes
        refine RW.pass rfl rfl ?_
        refine RW.pass rfl rfl ?_
        refine RW.pass rfl rfl ?_
        refine RW.pass rfl rfl ?_
        refine RW.pass rfl rfl ?_
        refine RW.step (Ex.pickT (.bool true) rfl rfl) rfl rfl rfl ?_
        refine RW.nil ?_
        refine CW.cond_true rfl ?_
        refine CW.seq ?_
        refine CW.region ?_
        refine RW.callV hM (awake_ret _ (hT.mono hle5)) en12 rfl rfl rfl rfl ?_; intro w hM
        refine RW.step (Ex.assign (.bool true) rfl) rfl rfl rfl ?_
        refine RW.nil ?_
        refine CW.ret ?_
        refine thenQ_ret ?_
        refine end_tmp (.inl rfl) rfl (.bool true) rfl ?_
        exact ⟨_, _, hM, rfl⟩
      · -- no
        refine RW.step (Ex.fieldAddr fa24_0 rfl) rfl rfl rfl ?_
        refine RW.step (Ex.load1 hM 1 to3 rfl rfl rfl) rfl rfl rfl ?_
        refine RW.step (Ex.fieldAddr fa24_0 rfl) rfl rfl rfl ?_
        refine RW.step (Ex.load1 hM 0 to3 rfl rfl rfl) rfl rfl rfl ?_
        refine RW.step (Ex.neq rfl rfl) rfl rfl rfl ?_
        refine RW.step (Ex.pickF (.bool (decide (n ≠ m))) rfl rfl) rfl rfl rfl ?_
        refine RW.nil ?_
        refine CW.cond_dec rfl (fun hc10 => ?_) (fun hc10 => ?_)
        · -- yes: n ≠ m
          refine CW.seq ?_
          refine CW.region ?_
          refine RW.callV hM (awake_ret _ (hT.mono hle5)) en12 rfl rfl rfl rfl ?_; intro w hM
          refine RW.step (Ex.assign (.bool true) rfl) rfl rfl rfl ?_
          refine RW.nil ?_
          refine CW.ret ?_
          refine thenQ_ret ?_
          refine end_tmp (.inl rfl) rfl (.bool true) rfl ?_
          exact ⟨_, _, hM, rfl⟩
        · -- no: n ≠ m
          have hco := counts_ok (Classical.not_not.1 hc8) (Classical.not_not.1 hc9) (Classical.not_not.1 hc10)
          have hb1 := cntR_le n ws
          have hb2 := cntR_le m vs
          have hb3 := cntR_le (bothR (fun a b => a ||| b) n ws m vs).n (bothR (fun a b => a ||| b) n ws m vs).ws
          have hb4 := cntR_le (bothR (fun a b => a &&& b) n ws m vs).n (bothR (fun a b => a &&& b) n ws m vs).ws
          have hb5 := cntR_le (bothR (fun a b => a &&& ~~~b) n ws m vs).n (bothR (fun a b => a &&& ~~~b) n ws m vs).ws
          refine CW.skip ?_
          refine CW.seq ?_
          refine CW.region ?_
          refine RW.step (Ex.loadA hM 1 [.int .i64 (n), .slice A1 ws.length c1] ta24 rfl rfl rfl rfl) rfl rfl rfl ?_
          refine RW.step (Ex.loadA hM 0 [.int .i64 (m), .slice A2 vs.length c2] ta24 rfl rfl rfl rfl) rfl rfl rfl ?_
          refine RW.call hM (bOr_ret _ _ n _ ws (hr1.mono hle5) _ m _ vs (hr2.mono hle5)) en33 rfl rfl rfl rfl ?_; rintro _ w H11 hle12 ⟨A13, c14, rfl, hr15⟩ hM
          refine RW.step (Ex.move (.tuple #[.agg #[.int .i64 ((bothR (fun a b => a ||| b) n ws m vs).n), .slice A13 ((bothR (fun a b => a ||| b) n ws m vs).ws.length) c14], .int .i64 ((bothR (fun a b => a ||| b) n ws m vs).e)]) rfl) rfl rfl rfl ?_
          refine RW.step (Ex.extract rfl rfl) rfl rfl rfl ?_
          refine RW.step (Ex.extract rfl rfl) rfl rfl rfl ?_
          refine RW.alloc hM tz24 [.int .i64 (0), .slice none 0 0] rfl rfl rfl ?_; intro b16 w hM
          refine RW.store hM 0 (.agg #[.int .i64 ((bothR (fun a b => a ||| b) n ws m vs).n), .slice A13 ((bothR (fun a b => a ||| b) n ws m vs).ws.length) c14]) [.int .i64 ((bothR (fun a b => a ||| b) n ws m vs).n), .slice A13 ((bothR (fun a b => a ||| b) n ws m vs).ws.length) c14] [.int .i64 ((bothR (fun a b => a ||| b) n ws m vs).n), .slice A13 ((bothR (fun a b => a ||| b) n ws m vs).ws.length) c14] sz24 rfl rfl rfl (oneAll ⟨rfl, rfl, trivial⟩) rfl (Nat.le_of_ble_eq_true rfl) rfl [.box b16 24 [.int .i64 ((bothR (fun a b => a ||| b) n ws m vs).n), .slice A13 ((bothR (fun a b => a ||| b) n ws m vs).ws.length) c14], .box b2 24 [.int .i64 (m), .slice A2 vs.length c2], .box b1 24 [.int .i64 (n), .slice A1 ws.length c1]] rfl rfl rfl ?_; intro w hM
          refine RW.step (Ex.assign (.int .i64 ((bothR (fun a b => a ||| b) n ws m vs).e)) rfl) rfl rfl rfl ?_
          refine RW.nil ?_
          refine CW.seq ?_
          refine CW.region ?_
          refine RW.step (Ex.loadA hM 2 [.int .i64 (n), .slice A1 ws.length c1] ta24 rfl rfl rfl rfl) rfl rfl rfl ?_
          refine RW.step (Ex.loadA hM 1 [.int .i64 (m), .slice A2 vs.length c2] ta24 rfl rfl rfl rfl) rfl rfl rfl ?_
          refine RW.call hM (bAnd_ret _ _ n _ ws (hr1.mono (hle5.trans hle12)) _ m _ vs (hr2.mono (hle5.trans hle12))) en35 rfl rfl rfl rfl ?_; rintro _ w H17 hle18 ⟨A19, c20, rfl, hr21⟩ hM
          refine RW.step (Ex.move (.tuple #[.agg #[.int .i64 ((bothR (fun a b => a &&& b) n ws m vs).n), .slice A19 ((bothR (fun a b => a &&& b) n ws m vs).ws.length) c20], .int .i64 ((bothR (fun a b => a &&& b) n ws m vs).e)]) rfl) rfl rfl rfl ?_
          refine RW.step (Ex.extract rfl rfl) rfl rfl rfl ?_
          refine RW.step (Ex.extract rfl rfl) rfl rfl rfl ?_
          refine RW.alloc hM tz24 [.int .i64 (0), .slice none 0 0] rfl rfl rfl ?_; intro b22 w hM
          refine RW.store hM 0 (.agg #[.int .i64 ((bothR (fun a b => a &&& b) n ws m vs).n), .slice A19 ((bothR (fun a b => a &&& b) n ws m vs).ws.length) c20]) [.int .i64 ((bothR (fun a b => a &&& b) n ws m vs).n), .slice A19 ((bothR (fun a b => a &&& b) n ws m vs).ws.length) c20] [.int .i64 ((bothR (fun a b => a &&& b) n ws m vs).n), .slice A19 ((bothR (fun a b => a &&& b) n ws m vs).ws.length) c20] sz24 rfl rfl rfl (oneAll ⟨rfl, rfl, trivial⟩) rfl (Nat.le_of_ble_eq_true rfl) rfl [.box b22 24 [.int .i64 ((bothR (fun a b => a &&& b) n ws m vs).n), .slice A19 ((bothR (fun a b => a &&& b) n ws m vs).ws.length) c20], .box b16 24 [.int .i64 ((bothR (fun a b => a ||| b) n ws m vs).n), .slice A13 ((bothR (fun a b => a ||| b) n ws m vs).ws.length) c14], .box b2 24 [.int .i64 (m), .slice A2 vs.length c2], .box b1 24 [.int .i64 (n), .slice A1 ws.length c1]] rfl rfl rfl ?_; intro w hM
          refine RW.step (Ex.assign (.int .i64 ((bothR (fun a b => a &&& b) n ws m vs).e)) rfl) rfl rfl rfl ?_
          refine RW.nil ?_
          refine CW.seq ?_
          refine CW.region ?_
          refine RW.step (Ex.loadA hM 3 [.int .i64 (n), .slice A1 ws.length c1] ta24 rfl rfl rfl rfl) rfl rfl rfl ?_
          refine RW.step (Ex.loadA hM 2 [.int .i64 (m), .slice A2 vs.length c2] ta24 rfl rfl rfl rfl) rfl rfl rfl ?_
          refine RW.call hM (bAndNot_ret _ _ n _ ws (hr1.mono ((hle5.trans hle12).trans hle18)) _ m _ vs (hr2.mono ((hle5.trans hle12).trans hle18))) en37 rfl rfl rfl rfl ?_; rintro _ w H23 hle24 ⟨A25, c26, rfl, hr27⟩ hM
          refine RW.step (Ex.move (.tuple #[.agg #[.int .i64 ((bothR (fun a b => a &&& ~~~b) n ws m vs).n), .slice A25 ((bothR (fun a b => a &&& ~~~b) n ws m vs).ws.length) c26], .int .i64 ((bothR (fun a b => a &&& ~~~b) n ws m vs).e)]) rfl) rfl rfl rfl ?_
          refine RW.step (Ex.extract rfl rfl) rfl rfl rfl ?_
          refine RW.step (Ex.extract rfl rfl) rfl rfl rfl ?_
          refine RW.alloc hM tz24 [.int .i64 (0), .slice none 0 0] rfl rfl rfl ?_; intro b28 w hM
          refine RW.store hM 0 (.agg #[.int .i64 ((bothR (fun a b => a &&& ~~~b) n ws m vs).n), .slice A25 ((bothR (fun a b => a &&& ~~~b) n ws m vs).ws.length) c26]) [.int .i64 ((bothR (fun a b => a &&& ~~~b) n ws m vs).n), .slice A25 ((bothR (fun a b => a &&& ~~~b) n ws m vs).ws.length) c26] [.int .i64 ((bothR (fun a b => a &&& ~~~b) n ws m vs).n), .slice A25 ((bothR (fun a b => a &&& ~~~b) n ws m vs).ws.length) c26] sz24 rfl rfl rfl (oneAll ⟨rfl, rfl, trivial⟩) rfl (Nat.le_of_ble_eq_true rfl) rfl [.box b28 24 [.int .i64 ((bothR (fun a b => a &&& ~~~b) n ws m vs).n), .slice A25 ((bothR (fun a b => a &&& ~~~b) n ws m vs).ws.length) c26], .box b22 24 [.int .i64 ((bothR (fun a b => a &&& b) n ws m vs).n), .slice A19 ((bothR (fun a b => a &&& b) n ws m vs).ws.length) c20], .box b16 24 [.int .i64 ((bothR (fun a b => a ||| b) n ws m vs).n), .slice A13 ((bothR (fun a b => a ||| b) n ws m vs).ws.length) c14], .box b2 24 [.int .i64 (m), .slice A2 vs.length c2], .box b1 24 [.int .i64 (n), .slice A1 ws.length c1]] rfl rfl rfl ?_; intro w hM
          refine RW.step (Ex.assign (.int .i64 ((bothR (fun a b => a &&& ~~~b) n ws m vs).e)) rfl) rfl rfl rfl ?_
          refine RW.nil ?_
          refine CW.seq ?_
          refine CW.region ?_
          refine RW.step (Ex.loadA hM 0 [.int .i64 ((bothR (fun a b => a &&& ~~~b) n ws m vs).n), .slice A25 ((bothR (fun a b => a &&& ~~~b) n ws m vs).ws.length) c26] ta24 rfl rfl rfl rfl) rfl rfl rfl ?_
          refine RW.step (Ex.loadA hM 1 [.int .i64 ((bothR (fun a b => a &&& b) n ws m vs).n), .slice A19 ((bothR (fun a b => a &&& b) n ws m vs).ws.length) c20] ta24 rfl rfl rfl rfl) rfl rfl rfl ?_
          refine RW.call hM (bOr_ret _ _ ((bothR (fun a b => a &&& ~~~b) n ws m vs).n) _ ((bothR (fun a b => a &&& ~~~b) n ws m vs).ws) hr27 _ ((bothR (fun a b => a &&& b) n ws m vs).n) _ ((bothR (fun a b => a &&& b) n ws m vs).ws) (hr21.mono hle24)) en33 rfl rfl rfl rfl ?_; rintro _ w H29 hle30 ⟨A31, c32, rfl, hr33⟩ hM
          refine RW.step (Ex.move (.tuple #[.agg #[.int .i64 ((bothR (fun a b => a ||| b) ((bothR (fun a b => a &&& ~~~b) n ws m vs).n) ((bothR (fun a b => a &&& ~~~b) n ws m vs).ws) ((bothR (fun a b => a &&& b) n ws m vs).n) ((bothR (fun a b => a &&& b) n ws m vs).ws)).n), .slice A31 ((bothR (fun a b => a ||| b) ((bothR (fun a b => a &&& ~~~b) n ws m vs).n) ((bothR (fun a b => a &&& ~~~b) n ws m vs).ws) ((bothR (fun a b => a &&& b) n ws m vs).n) ((bothR (fun a b => a &&& b) n ws m vs).ws)).ws.length) c32], .int .i64 ((bothR (fun a b => a ||| b) ((bothR (fun a b => a &&& ~~~b) n ws m vs).n) ((bothR (fun a b => a &&& ~~~b) n ws m vs).ws) ((bothR (fun a b => a &&& b) n ws m vs).n) ((bothR (fun a b => a &&& b) n ws m vs).ws)).e)]) rfl) rfl rfl rfl ?_
          refine RW.step (Ex.extract rfl rfl) rfl rfl rfl ?_
          refine RW.step (Ex.extract rfl rfl) rfl rfl rfl ?_
          refine RW.alloc hM tz24 [.int .i64 (0), .slice none 0 0] rfl rfl rfl ?_; intro b34 w hM
          refine RW.store hM 0 (.agg #[.int .i64 ((bothR (fun a b => a ||| b) ((bothR (fun a b => a &&& ~~~b) n ws m vs).n) ((bothR (fun a b => a &&& ~~~b) n ws m vs).ws) ((bothR (fun a b => a &&& b) n ws m vs).n) ((bothR (fun a b => a &&& b) n ws m vs).ws)).n), .slice A31 ((bothR (fun a b => a ||| b) ((bothR (fun a b => a &&& ~~~b) n ws m vs).n) ((bothR (fun a b => a &&& ~~~b) n ws m vs).ws) ((bothR (fun a b => a &&& b) n ws m vs).n) ((bothR (fun a b => a &&& b) n ws m vs).ws)).ws.length) c32]) [.int .i64 ((bothR (fun a b => a ||| b) ((bothR (fun a b => a &&& ~~~b) n ws m vs).n) ((bothR (fun a b => a &&& ~~~b) n ws m vs).ws) ((bothR (fun a b => a &&& b) n ws m vs).n) ((bothR (fun a b => a &&& b) n ws m vs).ws)).n), .slice A31 ((bothR (fun a b => a ||| b) ((bothR (fun a b => a &&& ~~~b) n ws m vs).n) ((bothR (fun a b => a &&& ~~~b) n ws m vs).ws) ((bothR (fun a b => a &&& b) n ws m vs).n) ((bothR (fun a b => a &&& b) n ws m vs).ws)).ws.length) c32] [.int .i64 ((bothR (fun a b => a ||| b) ((bothR (fun a b => a &&& ~~~b) n ws m vs).n) ((bothR (fun a b => a &&& ~~~b) n ws m vs).ws) ((bothR (fun a b => a &&& b) n ws m vs).n) ((bothR (fun a b => a &&& b) n ws m vs).ws)).n), .slice A31 ((bothR (fun a b => a ||| b) ((bothR (fun a b => a &&& ~~~b) n ws m vs).n) ((bothR (fun a b => a &&& ~~~b) n ws m vs).ws) ((bothR (fun a b => a &&& b) n ws m vs).n) ((bothR (fun a b => a &&& b) n ws m vs).ws)).ws.length) c32] sz24 rfl rfl rfl (oneAll ⟨rfl, rfl, trivial⟩) rfl (Nat.le_of_ble_eq_true rfl) rfl [.box b34 24 [.int .i64 ((bothR (fun a b => a ||| b) ((bothR (fun a b => a &&& ~~~b) n ws m vs).n) ((bothR (fun a b => a &&& ~~~b) n ws m vs).ws) ((bothR (fun a b => a &&& b) n ws m vs).n) ((bothR (fun a b => a &&& b) n ws m vs).ws)).n), .slice A31 ((bothR (fun a b => a ||| b) ((bothR (fun a b => a &&& ~~~b) n ws m vs).n) ((bothR (fun a b => a &&& ~~~b) n ws m vs).ws) ((bothR (fun a b => a &&& b) n ws m vs).n) ((bothR (fun a b => a &&& b) n ws m vs).ws)).ws.length) c32], .box b28 24 [.int .i64 ((bothR (fun a b => a &&& ~~~b) n ws m vs).n), .slice A25 ((bothR (fun a b => a &&& ~~~b) n ws m vs).ws.length) c26], .box b22 24 [.int .i64 ((bothR (fun a b => a &&& b) n ws m vs).n), .slice A19 ((bothR (fun a b => a &&& b) n ws m vs).ws.length) c20], .box b16 24 [.int .i64 ((bothR (fun a b => a ||| b) n ws m vs).n), .slice A13 ((bothR (fun a b => a ||| b) n ws m vs).ws.length) c14], .box b2 24 [.int .i64 (m), .slice A2 vs.length c2], .box b1 24 [.int .i64 (n), .slice A1 ws.length c1]] rfl rfl rfl ?_; intro w hM
          refine RW.step (Ex.assign (.int .i64 ((bothR (fun a b => a ||| b) ((bothR (fun a b => a &&& ~~~b) n ws m vs).n) ((bothR (fun a b => a &&& ~~~b) n ws m vs).ws) ((bothR (fun a b => a &&& b) n ws m vs).n) ((bothR (fun a b => a &&& b) n ws m vs).ws)).e)) rfl) rfl rfl rfl ?_
          refine RW.nil ?_
          refine CW.seq ?_
          refine CW.seq ?_
          refine CW.region ?_
          refine RW.step (Ex.move (.int .i64 ((bothR (fun a b => a ||| b) n ws m vs).e)) rfl) rfl rfl rfl ?_
          refine RW.step (Ex.no (Ex.neq rfl rfl) (fun h => h hco.orE)) rfl rfl rfl ?_
          refine RW.step (Ex.move (.bool false) rfl) rfl rfl rfl ?_
          refine RW.step (Ex.move (.int .i64 ((bothR (fun a b => a &&& b) n ws m vs).e)) rfl) rfl rfl rfl ?_
          refine RW.step (Ex.no (Ex.neq rfl rfl) (fun h => h hco.andE)) rfl rfl rfl ?_
          refine RW.step (Ex.pickF (.bool false) rfl rfl) rfl rfl rfl ?_
          refine RW.step (Ex.move (.bool false) rfl) rfl rfl rfl ?_
          refine RW.step (Ex.move (.int .i64 ((bothR (fun a b => a &&& ~~~b) n ws m vs).e)) rfl) rfl rfl rfl ?_
          refine RW.step (Ex.no (Ex.neq rfl rfl) (fun h => h hco.notE)) rfl rfl rfl ?_
          refine RW.step (Ex.pickF (.bool false) rfl rfl) rfl rfl rfl ?_
          refine RW.step (Ex.move (.bool false) rfl) rfl rfl rfl ?_
          refine RW.step (Ex.move (.int .i64 ((bothR (fun a b => a ||| b) ((bothR (fun a b => a &&& ~~~b) n ws m vs).n) ((bothR (fun a b => a &&& ~~~b) n ws m vs).ws) ((bothR (fun a b => a &&& b) n ws m vs).n) ((bothR (fun a b => a &&& b) n ws m vs).ws)).e)) rfl) rfl rfl rfl ?_
          refine RW.step (Ex.no (Ex.neq rfl rfl) (fun h => h hco.backE)) rfl rfl rfl ?_
          refine RW.step (Ex.pickF (.bool false) rfl rfl) rfl rfl rfl ?_
          refine RW.nil ?_
          refine CW.cond_false rfl ?_
          refine CW.skip ?_
          refine CW.seq ?_
          refine CW.drawE 29 [.bool true, .bool true, .agg #[.int .i64 ((bothR (fun a b => a ||| b) n ws m vs).n), .slice A13 ((bothR (fun a b => a ||| b) n ws m vs).ws.length) c14], .int .i64 (cntR ((bothR (fun a b => a ||| b) n ws m vs).n) ((bothR (fun a b => a ||| b) n ws m vs).ws)), .agg #[.int .i64 ((bothR (fun a b => a &&& b) n ws m vs).n), .slice A19 ((bothR (fun a b => a &&& b) n ws m vs).ws.length) c20], .int .i64 (cntR ((bothR (fun a b => a &&& b) n ws m vs).n) ((bothR (fun a b => a &&& b) n ws m vs).ws)), .int .i64 ((cntR ((bothR (fun a b => a ||| b) n ws m vs).n) ((bothR (fun a b => a ||| b) n ws m vs).ws)) + (cntR ((bothR (fun a b => a &&& b) n ws m vs).n) ((bothR (fun a b => a &&& b) n ws m vs).ws))), .agg #[.int .i64 (n), .slice A1 ws.length c1], .int .i64 (cntR n ws), .agg #[.int .i64 (m), .slice A2 vs.length c2], .int .i64 (cntR m vs), .int .i64 ((cntR n ws) + (cntR m vs)), .bool true, .bool true, .bool true, .agg #[.int .i64 ((bothR (fun a b => a ||| b) ((bothR (fun a b => a &&& ~~~b) n ws m vs).n) ((bothR (fun a b => a &&& ~~~b) n ws m vs).ws) ((bothR (fun a b => a &&& b) n ws m vs).n) ((bothR (fun a b => a &&& b) n ws m vs).ws)).n), .slice A31 ((bothR (fun a b => a ||| b) ((bothR (fun a b => a &&& ~~~b) n ws m vs).n) ((bothR (fun a b => a &&& ~~~b) n ws m vs).ws) ((bothR (fun a b => a &&& b) n ws m vs).n) ((bothR (fun a b => a &&& b) n ws m vs).ws)).ws.length) c32], .agg #[.int .i64 (n), .slice A1 ws.length c1], .bool true, .bool true, .bool true, .agg #[.int .i64 ((bothR (fun a b => a &&& ~~~b) n ws m vs).n), .slice A25 ((bothR (fun a b => a &&& ~~~b) n ws m vs).ws.length) c26], .int .i64 (cntR ((bothR (fun a b => a &&& ~~~b) n ws m vs).n) ((bothR (fun a b => a &&& ~~~b) n ws m vs).ws)), .agg #[.int .i64 (n), .slice A1 ws.length c1], .int .i64 (cntR n ws), .agg #[.int .i64 ((bothR (fun a b => a &&& b) n ws m vs).n), .slice A19 ((bothR (fun a b => a &&& b) n ws m vs).ws.length) c20], .int .i64 (cntR ((bothR (fun a b => a &&& b) n ws m vs).n) ((bothR (fun a b => a &&& b) n ws m vs).ws)), .int .i64 ((cntR n ws) - (cntR ((bothR (fun a b => a &&& b) n ws m vs).n) ((bothR (fun a b => a &&& b) n ws m vs).ws))), .bool true, .bool true]
            [[], [(74, some 0)], [(5, none), (75, some 1)], [(75, some 1), (76, some 2)], [(7, none), (75, some 1)], [(75, some 1), (78, some 4)], [(75, some 1), (77, some 3), (79, some 5)], [(2, none), (75, some 1)], [(75, some 1), (81, some 7)], [(3, none), (75, some 1)], [(75, some 1), (83, some 9)], [(75, some 1), (82, some 8), (84, some 10)], [(75, some 1), (80, some 6), (85, some 11)], [(75, some 1), (86, some 12)], [(87, some 13)], [(11, none), (88, some 14)], [(2, none), (88, some 14)], [(88, some 14), (89, some 15), (90, some 16)], [(88, some 14), (91, some 17)], [(92, some 18)], [(9, none), (93, some 19)], [(93, some 19), (94, some 20)], [(2, none), (93, some 19)], [(93, some 19), (96, some 22)], [(7, none), (93, some 19)], [(93, some 19), (98, some 24)], [(93, some 19), (97, some 23), (99, some 25)], [(93, some 19), (95, some 21), (100, some 26)], [(93, some 19), (101, some 27)]] [(4, none), (102, some 28)] (by kernel_rfl) hM (by kernel_rfl) ⟨?_, ?_, ?_, ?_, ?_, ?_, ?_, ?_, ?_, ?_, ?_, ?_, ?_, ?_, ?_, ?_, ?_, ?_, ?_, ?_, ?_, ?_, ?_, ?_, ?_, ?_, ?_, ?_, ?_, trivial⟩ ?_
          · exact One.call (awake_ret _ (hT.mono ((((hle5.trans hle12).trans hle18).trans hle24).trans hle30))) en12 (fun _ => rfl) (fun _ => rfl) (fun _ => rfl) rfl
          · exact One.ex (fun H' τ w hled hM => Ex.move (.bool true) rfl) rfl (fun _ => rfl) rfl
          · exact One.ex (fun H' τ w hled hM => Ex.loadA hM 3 [.int .i64 ((bothR (fun a b => a ||| b) n ws m vs).n), .slice A13 ((bothR (fun a b => a ||| b) n ws m vs).ws.length) c14] ta24 rfl rfl rfl rfl) rfl (fun _ => rfl) rfl
          · exact One.call (count_ret _ _ ((bothR (fun a b => a ||| b) n ws m vs).n) _ ((bothR (fun a b => a ||| b) n ws m vs).ws) (hr15.mono ((hle18.trans hle24).trans hle30))) en24 (fun _ => rfl) (fun _ => rfl) (fun _ => rfl) rfl
          · exact One.ex (fun H' τ w hled hM => Ex.loadA hM 2 [.int .i64 ((bothR (fun a b => a &&& b) n ws m vs).n), .slice A19 ((bothR (fun a b => a &&& b) n ws m vs).ws.length) c20] ta24 rfl rfl rfl rfl) rfl (fun _ => rfl) rfl
          · exact One.call (count_ret _ _ ((bothR (fun a b => a &&& b) n ws m vs).n) _ ((bothR (fun a b => a &&& b) n ws m vs).ws) (hr21.mono (hle24.trans hle30))) en24 (fun _ => rfl) (fun _ => rfl) (fun _ => rfl) rfl
          · exact One.ex (fun H' τ w hled hM => Ex.add rfl rfl (by omega) (by omega)) rfl (fun _ => rfl) rfl
          · exact One.ex (fun H' τ w hled hM => Ex.loadA hM 5 [.int .i64 (n), .slice A1 ws.length c1] ta24 rfl rfl rfl rfl) rfl (fun _ => rfl) rfl
          · exact One.call (count_ret _ _ n _ ws (hr1.mono ((((hle5.trans hle12).trans hle18).trans hle24).trans hle30))) en24 (fun _ => rfl) (fun _ => rfl) (fun _ => rfl) rfl
          · exact One.ex (fun H' τ w hled hM => Ex.loadA hM 4 [.int .i64 (m), .slice A2 vs.length c2] ta24 rfl rfl rfl rfl) rfl (fun _ => rfl) rfl
          · exact One.call (count_ret _ _ m _ vs (hr2.mono ((((hle5.trans hle12).trans hle18).trans hle24).trans hle30))) en24 (fun _ => rfl) (fun _ => rfl) (fun _ => rfl) rfl
          · exact One.ex (fun H' τ w hled hM => Ex.add rfl rfl (by omega) (by omega)) rfl (fun _ => rfl) rfl
          · exact One.ex (fun H' τ w hled hM => Ex.yes (Ex.eql rfl rfl) hco.sum) rfl (fun _ => rfl) rfl
          · exact One.ex (fun H' τ w hled hM => Ex.pickT (.bool true) rfl rfl) rfl (fun _ => rfl) rfl
          · exact One.ex (fun H' τ w hled hM => Ex.move (.bool true) rfl) rfl (fun _ => rfl) rfl
          · exact One.ex (fun H' τ w hled hM => Ex.loadA hM 0 [.int .i64 ((bothR (fun a b => a ||| b) ((bothR (fun a b => a &&& ~~~b) n ws m vs).n) ((bothR (fun a b => a &&& ~~~b) n ws m vs).ws) ((bothR (fun a b => a &&& b) n ws m vs).n) ((bothR (fun a b => a &&& b) n ws m vs).ws)).n), .slice A31 ((bothR (fun a b => a ||| b) ((bothR (fun a b => a &&& ~~~b) n ws m vs).n) ((bothR (fun a b => a &&& ~~~b) n ws m vs).ws) ((bothR (fun a b => a &&& b) n ws m vs).n) ((bothR (fun a b => a &&& b) n ws m vs).ws)).ws.length) c32] ta24 rfl rfl rfl rfl) rfl (fun _ => rfl) rfl
          · exact One.ex (fun H' τ w hled hM => Ex.loadA hM 5 [.int .i64 (n), .slice A1 ws.length c1] ta24 rfl rfl rfl rfl) rfl (fun _ => rfl) rfl
          · exact One.call (RetV.yes (same_ret _ _ ((bothR (fun a b => a ||| b) ((bothR (fun a b => a &&& ~~~b) n ws m vs).n) ((bothR (fun a b => a &&& ~~~b) n ws m vs).ws) ((bothR (fun a b => a &&& b) n ws m vs).n) ((bothR (fun a b => a &&& b) n ws m vs).ws)).n) _ ((bothR (fun a b => a ||| b) ((bothR (fun a b => a &&& ~~~b) n ws m vs).n) ((bothR (fun a b => a &&& ~~~b) n ws m vs).ws) ((bothR (fun a b => a &&& b) n ws m vs).n) ((bothR (fun a b => a &&& b) n ws m vs).ws)).ws) hr33 _ n _ ws (hr1.mono ((((hle5.trans hle12).trans hle18).trans hle24).trans hle30))) ⟨hco.backN, hco.backW⟩) en17 (fun _ => rfl) (fun _ => rfl) (fun _ => rfl) rfl
          · exact One.ex (fun H' τ w hled hM => Ex.pickT (.bool true) rfl rfl) rfl (fun _ => rfl) rfl
          · exact One.ex (fun H' τ w hled hM => Ex.move (.bool true) rfl) rfl (fun _ => rfl) rfl
          · exact One.ex (fun H' τ w hled hM => Ex.loadA hM 1 [.int .i64 ((bothR (fun a b => a &&& ~~~b) n ws m vs).n), .slice A25 ((bothR (fun a b => a &&& ~~~b) n ws m vs).ws.length) c26] ta24 rfl rfl rfl rfl) rfl (fun _ => rfl) rfl
          · exact One.call (count_ret _ _ ((bothR (fun a b => a &&& ~~~b) n ws m vs).n) _ ((bothR (fun a b => a &&& ~~~b) n ws m vs).ws) (hr27.mono hle30)) en24 (fun _ => rfl) (fun _ => rfl) (fun _ => rfl) rfl
          · exact One.ex (fun H' τ w hled hM => Ex.loadA hM 5 [.int .i64 (n), .slice A1 ws.length c1] ta24 rfl rfl rfl rfl) rfl (fun _ => rfl) rfl
          · exact One.call (count_ret _ _ n _ ws (hr1.mono ((((hle5.trans hle12).trans hle18).trans hle24).trans hle30))) en24 (fun _ => rfl) (fun _ => rfl) (fun _ => rfl) rfl
          · exact One.ex (fun H' τ w hled hM => Ex.loadA hM 2 [.int .i64 ((bothR (fun a b => a &&& b) n ws m vs).n), .slice A19 ((bothR (fun a b => a &&& b) n ws m vs).ws.length) c20] ta24 rfl rfl rfl rfl) rfl (fun _ => rfl) rfl
          · exact One.call (count_ret _ _ ((bothR (fun a b => a &&& b) n ws m vs).n) _ ((bothR (fun a b => a &&& b) n ws m vs).ws) (hr21.mono (hle24.trans hle30))) en24 (fun _ => rfl) (fun _ => rfl) (fun _ => rfl) rfl
          · exact One.ex (fun H' τ w hled hM => Ex.sub rfl rfl (by omega) (by omega)) rfl (fun _ => rfl) rfl
          · exact One.ex (fun H' τ w hled hM => Ex.yes (Ex.eql rfl rfl) hco.diff) rfl (fun _ => rfl) rfl
          · exact One.ex (fun H' τ w hled hM => Ex.pickT (.bool true) rfl rfl) rfl (fun _ => rfl) rfl
          intro τ w hM
          change RW _ _ _ _ _ _ _ _ (sl [(4, .bool false), (102, .bool true)] τ) _
          refine RW.step (Ex.assign (.bool true) rfl) rfl rfl rfl ?_
          refine RW.nil ?_
          refine CW.ret ?_
          refine end_tmp (.inl rfl) rfl (.bool true) rfl ?_
          exact ⟨_, _, hM, rfl⟩

theorem bitmapReturns_ret (H : Hp) (A1 : Option Addr) (n : Int) (c1 : Nat) (ws : List (BitVec 64)) (hr1 : RdC H A1 ws.length c1 1 (ws.map u64)) (hT : TabH H 0) : RetV Tryd.prog 7 #[.agg #[.int .i64 n, .slice A1 ws.length c1]] H (.bool true) := by
  have hL := hr1.2.2.1
  have hL1 := hr1.2.1
  unfold maxLen at hL
  refine Ret.of_code Tryd.func7 rfl (Nat.le_of_ble_eq_true rfl) fun w0 hM => ?_
  refine CW.seq ?_
  refine CW.region ?_
  refine RW.box hM (.agg #[.int .i64 (n), .slice A1 ws.length c1]) [.int .i64 (n), .slice A1 ws.length c1] rfl rfl rfl rfl ?_; intro b1 w hM
  refine RW.step (Ex.assign (.bool false) rfl) rfl rfl rfl ?_
  refine RW.nil ?_
  refine CW.seq ?_
  refine CW.seq ?_
  refine CW.region ?_
  refine RW.step (Ex.loadA hM 0 [.int .i64 (n), .slice A1 ws.length c1] ta24 rfl rfl rfl rfl) rfl rfl rfl ?_
  refine RW.buildSlice hM st54 tz24 [(0, .agg #[.int .i64 (n), .slice A1 ws.length c1])] [.int .i64 (n), .slice A1 ws.length c1] (by decide) rfl rfl rfl (by decide) rfl rfl ?_; intro b2 w hM
  obtain ⟨H3, hM, hle4, hr5⟩ := hM.giveRow (k := 0) rfl
  replace hr5 : RdC H3 (some ⟨b2, 0, none⟩) (List.length (α := BV) ([⟨n, A1, ws.length, c1⟩])) 1 2 (List.flatMap bvC ([⟨n, A1, ws.length, c1⟩])) := hr5
  replace hM : Mem w0 H w H3 [.box b1 24 [.int .i64 (n), .slice A1 ws.length c1]] := hM
  refine RW.callV hM (few_ret _ _ _ [⟨n, A1, ws.length, c1⟩] hr5) en11 rfl rfl rfl rfl ?_; intro w hM
  refine RW.step (Ex.not rfl) rfl rfl rfl ?_
  refine RW.step (Ex.move (.bool (decide (¬ (fewB [⟨n, A1, ws.length, c1⟩] = true)))) rfl) rfl rfl rfl ?_
  refine RW.split 12 rfl (fun hc6 => ?_) (fun hc6 => ?_)
  · -- yes
    refine RW.pass rfl rfl ?_
    refine RW.pass rfl rfl ?_
    refine RW.pass rfl rfl ?_
    refine RW.step (Ex.pickT (.bool true) rfl rfl) rfl rfl rfl ?_
    refine RW.nil ?_
    refine CW.cond_true rfl ?_
    refine CW.seq ?_
    refine CW.region ?_
    refine RW.callV hM (awake_ret _ (hT.mono hle4)) en12 rfl rfl rfl rfl ?_; intro w hM
    refine RW.step (Ex.assign (.bool true) rfl) rfl rfl rfl ?_
    refine RW.nil ?_
    refine CW.ret ?_
    refine thenQ_ret ?_
    refine end_tmp (.inl rfl) rfl (.bool true) rfl ?_
    exact ⟨_, _, hM, rfl⟩
  · -- no
    refine RW.step (Ex.loadA hM 0 [.int .i64 (n), .slice A1 ws.length c1] ta24 rfl rfl rfl rfl) rfl rfl rfl ?_
    refine RW.callV hM (rcheck_ret _ _ n _ ws (hr1.mono hle4)) en21 rfl rfl rfl rfl ?_; intro w hM
    refine RW.step (Ex.neq rfl rfl) rfl rfl rfl ?_
    refine RW.step (Ex.pickF (.bool (decide ((chk n ws) ≠ 0))) rfl rfl) rfl rfl rfl ?_
    refine RW.nil ?_
    refine CW.cond_dec rfl (fun hc7 => ?_) (fun hc7 => ?_)
    · -- yes: (chk n ws) ≠ 0
      refine CW.seq ?_
      refine CW.region ?_
      refine RW.callV hM (awake_ret _ (hT.mono hle4)) en12 rfl rfl rfl rfl ?_; intro w hM
      refine RW.step (Ex.assign (.bool true) rfl) rfl rfl rfl ?_
      refine RW.nil ?_
      refine CW.ret ?_
      refine thenQ_ret ?_
      refine end_tmp (.inl rfl) rfl (.bool true) rfl ?_
      exact ⟨_, _, hM, rfl⟩
    · -- no: (chk n ws) ≠ 0
      have hck := Classical.not_not.1 hc7
      have hwl := wf_len hck
      refine CW.skip ?_
      refine CW.seq ?_
      refine CW.region ?_
      refine RW.step (Ex.loadA hM 0 [.int .i64 (n), .slice A1 ws.length c1] ta24 rfl rfl rfl rfl) rfl rfl rfl ?_
      refine RW.call hM (exts_ret _ _ n _ ws (hr1.mono hle4) (hT.mono hle4)) en31 rfl rfl rfl rfl ?_; rintro _ w H8 hle9 ⟨A10, c11, rfl, hr12⟩ hM
      refine RW.step (Ex.assign (.slice A10 ((extR n ws).length) c11) rfl) rfl rfl rfl ?_
      refine RW.nil ?_
      refine CW.seq ?_
      refine CW.region ?_
      refine RW.step (Ex.assign (.int .i64 ((-1))) rfl) rfl rfl rfl ?_
      refine RW.nil ?_
      refine CW.seq ?_
      refine CW.seq ?_
      refine CW.region ?_
      refine RW.step (Ex.assign (.int .i64 (0)) rfl) rfl rfl rfl ?_
      refine RW.nil ?_
      refine CW.block ?_
      refine CW.loop (β := Nat) (fun (k : Nat) σ w => (∃ τ, σ = sl [(1, .pointer (some ⟨b1, 0, none⟩)), (3, .slice A10 ((extR n ws).length) c11), (4, .int .i64 (atE (extR n ws) k)), (5, .int .i64 ((k : Int)))] τ) ∧ Mem w0 H w H8 [.box b1 24 [.int .i64 (n), .slice A1 ws.length c1]] ∧ (k ≤ (extR n ws).length) ∧ True) (fun k => (extR n ws).length - k) (0) ⟨sl_canon ⟨rfl, rfl, rfl, (show Value.int _ _ = Value.int _ _ from congrArg (Value.int _) (by omega)), trivial⟩, hM, (by omega), trivial⟩ ?_
      rintro k _ w ⟨⟨τ, rfl⟩, hM, hk, -⟩
      refine CW.seq ?_
      refine CW.seq ?_
      refine CW.region ?_
      refine RW.step (Ex.move (.int .i64 ((k : Int))) rfl) rfl rfl rfl ?_
      refine RW.step (Ex.move (.slice A10 ((extR n ws).length) c11) rfl) rfl rfl rfl ?_
      refine RW.step (Ex.len st44.1 rfl) rfl rfl rfl ?_
      refine RW.step (Ex.lss rfl rfl) rfl rfl rfl ?_
      refine RW.nil ?_
      refine CW.cond_dec rfl (fun hc13 => ?_) (fun hc13 => ?_)
      · -- yes: (k : Int) < ((extR n ws).length : Int)
        have hxr := exts_rise hck (show k < (extR n ws).length by omega)
        refine CW.skip ?_
        refine CW.seq ?_
        refine CW.block ?_
        refine CW.seq ?_
        refine CW.seq ?_
        refine CW.region ?_
        refine RW.step (Ex.move (.slice A10 ((extR n ws).length) c11) rfl) rfl rfl rfl ?_
        refine RW.step (Ex.move (.int .i64 ((k : Int))) rfl) rfl rfl rfl ?_
        refine RW.step (Ex.index st44 rfl rfl k (hr12.ne (by omega)) (by omega) (by omega)) rfl rfl rfl ?_
        refine RW.step (Ex.fieldE fa26_0 (hr12.ne (by omega)) rfl) rfl rfl rfl ?_
        refine RW.step (Ex.loadE hM (Hp.le.refl _) hr12 to3 rfl (getE0 (by omega))) rfl rfl rfl ?_
        refine RW.step (Ex.move (.int .i64 (atE (extR n ws) k)) rfl) rfl rfl rfl ?_
        refine RW.step (Ex.no (Ex.leq rfl rfl) (by omega)) rfl rfl rfl ?_
        refine RW.step (Ex.move (.bool false) rfl) rfl rfl rfl ?_
        refine RW.step (Ex.move (.slice A10 ((extR n ws).length) c11) rfl) rfl rfl rfl ?_
        refine RW.step (Ex.move (.int .i64 ((k : Int))) rfl) rfl rfl rfl ?_
        refine RW.step (Ex.index st44 rfl rfl k (hr12.ne (by omega)) (by omega) (by omega)) rfl rfl rfl ?_
        refine RW.step (Ex.fieldE fa26_1 (hr12.ne (by omega)) rfl) rfl rfl rfl ?_
        refine RW.step (Ex.loadE hM (Hp.le.refl _) hr12 to3 rfl (getE1 (by omega))) rfl rfl rfl ?_
        refine RW.step (Ex.no (Ex.lss rfl rfl) (by omega)) rfl rfl rfl ?_
        refine RW.step (Ex.pickF (.bool false) rfl rfl) rfl rfl rfl ?_
        refine RW.nil ?_
        refine CW.cond_false rfl ?_
        refine CW.skip ?_
        refine CW.drawE 11 [.slice A10 ((extR n ws).length) c11, .int .i64 ((k : Int)), elp A10 (k * 2 + 0), elp A10 (k * 2 + 0), .int .i64 (((extR n ws).getD k (0, 0)).1), .slice A10 ((extR n ws).length) c11, .int .i64 ((k : Int)), elp A10 (k * 2 + 0), elp A10 (k * 2 + 1), .int .i64 (((extR n ws).getD k (0, 0)).2), .int .i64 ((((extR n ws).getD k (0, 0)).1) + (((extR n ws).getD k (0, 0)).2))]
          [[(3, none)], [(5, none)], [(41, some 0), (42, some 1)], [(43, some 2)], [(44, some 3)], [(3, none)], [(5, none)], [(46, some 5), (47, some 6)], [(48, some 7)], [(49, some 8)], [(45, some 4), (50, some 9)]] [(1, none), (3, none), (4, none), (5, none), (20, none), (21, none), (22, none), (23, none), (26, none), (27, none), (28, none), (29, none), (30, none), (31, none), (32, none), (33, none), (34, none), (35, none), (36, none), (37, none), (38, none), (39, none), (40, none), (41, some 0), (42, some 1), (43, some 2), (44, some 3), (45, some 4), (46, some 5), (47, some 6), (48, some 7), (49, some 8), (50, some 9), (51, some 10)] (by kernel_rfl) hM (by kernel_rfl) ⟨?_, ?_, ?_, ?_, ?_, ?_, ?_, ?_, ?_, ?_, ?_, trivial⟩ ?_
        · exact One.ex (fun H' τ w hled hM => Ex.move (.slice A10 ((extR n ws).length) c11) rfl) rfl (fun _ => rfl) rfl
        · exact One.ex (fun H' τ w hled hM => Ex.move (.int .i64 ((k : Int))) rfl) rfl (fun _ => rfl) rfl
        · exact One.ex (fun H' τ w hled hM => Ex.index st44 rfl rfl k (hr12.ne (by omega)) (by omega) (by omega)) rfl (fun _ => rfl) rfl
        · exact One.ex (fun H' τ w hled hM => Ex.fieldE fa26_0 (hr12.ne (by omega)) rfl) rfl (fun _ => rfl) rfl
        · exact One.ex (fun H' τ w hled hM => Ex.loadE hM hled hr12 to3 rfl (getE0 (by omega))) rfl (fun _ => rfl) rfl
        · exact One.ex (fun H' τ w hled hM => Ex.move (.slice A10 ((extR n ws).length) c11) rfl) rfl (fun _ => rfl) rfl
        · exact One.ex (fun H' τ w hled hM => Ex.move (.int .i64 ((k : Int))) rfl) rfl (fun _ => rfl) rfl
        · exact One.ex (fun H' τ w hled hM => Ex.index st44 rfl rfl k (hr12.ne (by omega)) (by omega) (by omega)) rfl (fun _ => rfl) rfl
        · exact One.ex (fun H' τ w hled hM => Ex.fieldE fa26_1 (hr12.ne (by omega)) rfl) rfl (fun _ => rfl) rfl
        · exact One.ex (fun H' τ w hled hM => Ex.loadE hM hled hr12 to3 rfl (getE1 (by omega))) rfl (fun _ => rfl) rfl
        · exact One.ex (fun H' τ w hled hM => Ex.add rfl rfl (by omega) (by omega)) rfl (fun _ => rfl) rfl
        intro τ w hM
        change RW _ _ _ _ _ _ _ _ (sl [(1, .pointer (some ⟨b1, 0, none⟩)), (3, .slice A10 ((extR n ws).length) c11), (4, .int .i64 (atE (extR n ws) k)), (5, .int .i64 ((k : Int))), (20, .int .i64 ((k : Int))), (21, .slice A10 ((extR n ws).length) c11), (22, .int .i64 (((extR n ws).length : Int))), (23, .bool (decide ((k : Int) < ((extR n ws).length : Int)))), (26, .slice A10 ((extR n ws).length) c11), (27, .int .i64 ((k : Int))), (28, elp A10 (k * 2 + 0)), (29, elp A10 (k * 2 + 0)), (30, .int .i64 (((extR n ws).getD k (0, 0)).1)), (31, .int .i64 (atE (extR n ws) k)), (32, .bool false), (33, .bool false), (34, .slice A10 ((extR n ws).length) c11), (35, .int .i64 ((k : Int))), (36, elp A10 (k * 2 + 0)), (37, elp A10 (k * 2 + 1)), (38, .int .i64 (((extR n ws).getD k (0, 0)).2)), (39, .bool false), (40, .bool false), (41, .slice A10 ((extR n ws).length) c11), (42, .int .i64 ((k : Int))), (43, elp A10 (k * 2 + 0)), (44, elp A10 (k * 2 + 0)), (45, .int .i64 (((extR n ws).getD k (0, 0)).1)), (46, .slice A10 ((extR n ws).length) c11), (47, .int .i64 ((k : Int))), (48, elp A10 (k * 2 + 0)), (49, elp A10 (k * 2 + 1)), (50, .int .i64 (((extR n ws).getD k (0, 0)).2)), (51, .int .i64 ((((extR n ws).getD k (0, 0)).1) + (((extR n ws).getD k (0, 0)).2)))] τ) _
        refine RW.step (Ex.assign (.int .i64 ((((extR n ws).getD k (0, 0)).1) + (((extR n ws).getD k (0, 0)).2))) rfl) rfl rfl rfl ?_
        refine RW.nil ?_
        refine CW.region ?_
        refine RW.step (Ex.move (.int .i64 ((k : Int))) rfl) rfl rfl rfl ?_
        refine RW.step (Ex.add rfl rfl (by omega) (by omega)) rfl rfl rfl ?_
        refine RW.step (Ex.assign (.int .i64 ((k : Int) + 1)) rfl) rfl rfl rfl ?_
        refine RW.nil ?_
        refine And.intro rfl (Exists.intro (k + 1) (And.intro ⟨sl_canon ⟨rfl, rfl, rfl, (show Value.int _ _ = Value.int _ _ from congrArg (Value.int _) (by omega)), trivial⟩, hM, (by omega), trivial⟩ (by omega)))
      · -- no: (k : Int) < ((extR n ws).length : Int)
        refine CW.exit ?_
        refine CW.seq ?_
        refine CW.region ?_
        refine RW.step (Ex.fieldAddr fa24_0 rfl) rfl rfl rfl ?_
        refine RW.step (Ex.load1 hM 0 to3 rfl rfl rfl) rfl rfl rfl ?_
        refine RW.step (Ex.move (.slice A10 ((extR n ws).length) c11) rfl) rfl rfl rfl ?_
        refine RW.call hM (fromExt_ret _ n _ _ (extR n ws) hr12) en28 rfl rfl rfl rfl ?_; rintro _ w H14 hle15 ⟨A16, c17, rfl, hr18⟩ hM
        refine RW.step (Ex.move (.tuple #[.agg #[.int .i64 ((fromR (newR n) (extR n ws)).n), .slice A16 ((fromR (newR n) (extR n ws)).ws.length) c17], .int .i64 ((fromR (newR n) (extR n ws)).e)]) rfl) rfl rfl rfl ?_
        refine RW.step (Ex.extract rfl rfl) rfl rfl rfl ?_
        refine RW.step (Ex.extract rfl rfl) rfl rfl rfl ?_
        refine RW.alloc hM tz24 [.int .i64 (0), .slice none 0 0] rfl rfl rfl ?_; intro b19 w hM
        refine RW.store hM 0 (.agg #[.int .i64 ((fromR (newR n) (extR n ws)).n), .slice A16 ((fromR (newR n) (extR n ws)).ws.length) c17]) [.int .i64 ((fromR (newR n) (extR n ws)).n), .slice A16 ((fromR (newR n) (extR n ws)).ws.length) c17] [.int .i64 ((fromR (newR n) (extR n ws)).n), .slice A16 ((fromR (newR n) (extR n ws)).ws.length) c17] sz24 rfl rfl rfl (oneAll ⟨rfl, rfl, trivial⟩) rfl (Nat.le_of_ble_eq_true rfl) rfl [.box b19 24 [.int .i64 ((fromR (newR n) (extR n ws)).n), .slice A16 ((fromR (newR n) (extR n ws)).ws.length) c17], .box b1 24 [.int .i64 (n), .slice A1 ws.length c1]] rfl rfl rfl ?_; intro w hM
        refine RW.step (Ex.assign (.int .i64 ((fromR (newR n) (extR n ws)).e)) rfl) rfl rfl rfl ?_
        refine RW.nil ?_
        refine CW.seq ?_
        refine CW.region ?_
        refine RW.callV hM (awake_ret _ (hT.mono ((hle4.trans hle9).trans hle15))) en12 rfl rfl rfl rfl ?_; intro w hM
        refine RW.step (Ex.move (.bool true) rfl) rfl rfl rfl ?_
        refine RW.step (Ex.move (.int .i64 ((fromR (newR n) (extR n ws)).e)) rfl) rfl rfl rfl ?_
        refine RW.step (Ex.yes (Ex.eql rfl rfl) (by rw [exts_back hck])) rfl rfl rfl ?_
        refine RW.step (Ex.pickT (.bool true) rfl rfl) rfl rfl rfl ?_
        refine RW.step (Ex.move (.bool true) rfl) rfl rfl rfl ?_
        refine RW.step (Ex.loadA hM 0 [.int .i64 ((fromR (newR n) (extR n ws)).n), .slice A16 ((fromR (newR n) (extR n ws)).ws.length) c17] ta24 rfl rfl rfl rfl) rfl rfl rfl ?_
        refine RW.step (Ex.loadA hM 1 [.int .i64 (n), .slice A1 ws.length c1] ta24 rfl rfl rfl rfl) rfl rfl rfl ?_
        refine RW.callV hM (RetV.yes (same_ret _ _ ((fromR (newR n) (extR n ws)).n) _ ((fromR (newR n) (extR n ws)).ws) hr18 _ n _ ws (hr1.mono ((hle4.trans hle9).trans hle15))) ⟨(by rw [exts_back hck]), (by rw [exts_back hck])⟩) en17 rfl rfl rfl rfl ?_; intro w hM
        refine RW.step (Ex.pickT (.bool true) rfl rfl) rfl rfl rfl ?_
        refine RW.step (Ex.assign (.bool true) rfl) rfl rfl rfl ?_
        refine RW.nil ?_
        refine CW.ret ?_
        refine end_tmp (.inl rfl) rfl (.bool true) rfl ?_
        exact ⟨_, _, hM, rfl⟩

theorem bitmapOrders_ret (H : Hp) (z : Nat) (hz : z < 65536) (Ae : Option Addr) (ce : Nat) (es : List (Int × Int)) (hre : RdC H Ae es.length ce 2 (es.flatMap eC)) (hT : TabH H 0) : RetV Tryd.prog 8 #[.int .u16 (z : Int), .slice Ae es.length ce] H (.bool true) := by
  have hE := hre.2.2.1
  have hE1 := hre.2.1
  unfold maxLen at hE
  refine Ret.of_code Tryd.func8 rfl (Nat.le_of_ble_eq_true rfl) fun w0 hM => ?_
  refine CW.seq ?_
  refine CW.region ?_
  refine RW.step (Ex.assign (.bool false) rfl) rfl rfl rfl ?_
  refine RW.nil ?_
  refine CW.seq ?_
  refine CW.region ?_
  refine RW.step (Ex.move (.int .u16 ((z : Int))) rfl) rfl rfl rfl ?_
  refine RW.step (Ex.rem rfl rfl (by omega) (by omega)) rfl rfl rfl ?_
  refine RW.step (Ex.conv Tryd.underlying50 Tryd.underlying3 rfl (wrap_i64 (by omega) (by omega))) rfl rfl rfl ?_
  refine RW.step (Ex.assign (.int .i64 ((z : Int) % 1200)) rfl) rfl rfl rfl ?_
  refine RW.nil ?_
  refine CW.seq ?_
  refine CW.seq ?_
  refine CW.region ?_
  refine RW.step (Ex.move (.slice Ae es.length ce) rfl) rfl rfl rfl ?_
  refine RW.step (Ex.len st44.1 rfl) rfl rfl rfl ?_
  refine RW.step (Ex.gtr rfl rfl) rfl rfl rfl ?_
  refine RW.nil ?_
  refine CW.cond_dec rfl (fun hc1 => ?_) (fun hc1 => ?_)
  · -- yes: 12 < (es.length : Int)
    refine CW.seq ?_
    refine CW.region ?_
    refine RW.callV hM (awake_ret _ hT) en12 rfl rfl rfl rfl ?_; intro w hM
    refine RW.step (Ex.assign (.bool true) rfl) rfl rfl rfl ?_
    refine RW.nil ?_
    refine CW.ret ?_
    refine thenQ_ret ?_
    refine end_tmp (.inl rfl) rfl (.bool true) rfl ?_
    exact ⟨_, _, hM, rfl⟩
  · -- no: 12 < (es.length : Int)
    refine CW.skip ?_
    refine CW.seq ?_
    refine CW.region ?_
    refine RW.step (Ex.assign (.slice none 0 0) rfl) rfl rfl rfl ?_
    refine RW.nil ?_
    refine CW.seq ?_
    refine CW.seq ?_
    refine CW.region ?_
    refine RW.step (Ex.move (.slice Ae es.length ce) rfl) rfl rfl rfl ?_
    refine RW.step (Ex.len st44.1 rfl) rfl rfl rfl ?_
    refine RW.step (Ex.sub rfl rfl (by omega) (by omega)) rfl rfl rfl ?_
    refine RW.step (Ex.assign (.int .i64 ((es.length : Int) - 1)) rfl) rfl rfl rfl ?_
    refine RW.nil ?_
    refine CW.block ?_
    refine CW.loop (β := Nat) (fun (k : Nat) σ w => ∃ (Ax : Option Addr), ∃ (cx : Nat), (∃ τ, σ = sl [(1, .slice Ae es.length ce), (4, .bool false), (5, .int .i64 ((z : Int) % 1200)), (6, .slice Ax ((backK es k).length) cx), (7, .int .i64 ((es.length : Int) - 1 - (k : Int)))] τ) ∧ Mem w0 H w H [.row (.slice Ax ((backK es k).length) cx) 26 2 ((backK es k).length) ((backK es k).flatMap eC)] ∧ (k ≤ es.length) ∧ True) (fun k => es.length - k) (0) ⟨none, 0, sl_canon ⟨rfl, rfl, rfl, rfl, (show Value.int _ _ = Value.int _ _ from congrArg (Value.int _) (by omega)), trivial⟩, (hM.nilRow 26 2), (by omega), trivial⟩ ?_
    rintro k _ w ⟨Ax, cx, ⟨τ, rfl⟩, hM, hk, -⟩
    have hbl := backK_length hk
    refine CW.seq ?_
    refine CW.seq ?_
    refine CW.region ?_
    refine RW.step (Ex.move (.int .i64 ((es.length : Int) - 1 - (k : Int))) rfl) rfl rfl rfl ?_
    refine RW.step (Ex.geq rfl rfl) rfl rfl rfl ?_
    refine RW.nil ?_
    refine CW.cond_dec rfl (fun hc2 => ?_) (fun hc2 => ?_)
    · -- yes: 0 ≤ ((es.length : Int) - 1 - (k : Int))
      refine CW.skip ?_
      refine CW.seq ?_
      refine CW.block ?_
      refine CW.region ?_
      refine RW.step (Ex.move (.slice Ax ((backK es k).length) cx) rfl) rfl rfl rfl ?_
      refine RW.step (Ex.move (.slice Ae es.length ce) rfl) rfl rfl rfl ?_
      refine RW.step (Ex.move (.int .i64 ((es.length : Int) - 1 - (k : Int))) rfl) rfl rfl rfl ?_
      refine RW.step (Ex.index st44 rfl rfl (((es.length : Int) - 1 - (k : Int)).toNat) (hre.ne (by omega)) (by omega) (by omega)) rfl rfl rfl ?_
      refine RW.step (Ex.loadEA hM (Hp.le.refl _) hre [.int .i64 ((es.getD (((es.length : Int) - 1 - (k : Int)).toNat) (0, 0)).1), .int .i64 ((es.getD (((es.length : Int) - 1 - (k : Int)).toNat) (0, 0)).2)] ta26 rfl (hre.ne (by omega)) rfl (getEA (by omega))) rfl rfl rfl ?_
      refine RW.buildSlice hM st44 tz26 [(0, .agg #[.int .i64 ((es.getD (((es.length : Int) - 1 - (k : Int)).toNat) (0, 0)).1), .int .i64 ((es.getD (((es.length : Int) - 1 - (k : Int)).toNat) (0, 0)).2)])] [.int .i64 ((es.getD (((es.length : Int) - 1 - (k : Int)).toNat) (0, 0)).1), .int .i64 ((es.getD (((es.length : Int) - 1 - (k : Int)).toNat) (0, 0)).2)] (by decide) rfl rfl rfl (by decide) rfl rfl ?_; intro b3 w hM
      refine RW.append hM 1 st44 rfl rfl rfl ([.int .i64 ((es.getD (((es.length : Int) - 1 - (k : Int)).toNat) (0, 0)).1), .int .i64 ((es.getD (((es.length : Int) - 1 - (k : Int)).toNat) (0, 0)).2)]) rfl (fun j u hj => hM.rowCell (k := 0) rfl rfl hj) (oneAll ⟨rfl, rfl, trivial⟩) (by omega) (by unfold maxLen; omega) rfl rfl ?_; intro A4 c5 w hM
      replace hM : Mem w0 H w H [.row (.slice (some ⟨b3, 0, none⟩) 1 1) 26 2 1 ([.int .i64 ((es.getD (((es.length : Int) - 1 - (k : Int)).toNat) (0, 0)).1), .int .i64 ((es.getD (((es.length : Int) - 1 - (k : Int)).toNat) (0, 0)).2)]), .row (.slice A4 ((backK es k).length + 1) c5) 26 2 ((backK es k).length + 1) (((backK es k) ++ [((es.getD (((es.length : Int) - 1 - (k : Int)).toNat) (0, 0)).1, (es.getD (((es.length : Int) - 1 - (k : Int)).toNat) (0, 0)).2)]).flatMap eC)] := (by simpa [List.flatMap_append, eC] using hM)
      refine RW.step (Ex.assign (.slice A4 ((backK es k).length + 1) c5) rfl) rfl rfl rfl ?_
      refine RW.nil ?_
      refine CW.region ?_
      refine RW.step (Ex.move (.int .i64 ((es.length : Int) - 1 - (k : Int))) rfl) rfl rfl rfl ?_
      refine RW.step (Ex.sub rfl rfl (by omega) (by omega)) rfl rfl rfl ?_
      refine RW.step (Ex.assign (.int .i64 (((es.length : Int) - 1 - (k : Int)) - 1)) rfl) rfl rfl rfl ?_
      refine RW.nil ?_
      replace hM := hM.sub (List.Sublist.cons _ (List.Sublist.refl _))
      refine And.intro rfl (Exists.intro (k + 1) (And.intro ⟨A4, c5, sl_canon ⟨rfl, rfl, rfl, (show Value.slice A4 ((backK es k).length + 1) c5 = .slice A4 (backK es (k + 1)).length c5 from by rw [backK_step (j := ((es.length : Int) - 1 - (k : Int)).toNat) (by omega) (by omega), List.length_append]; rfl), (show Value.int _ _ = Value.int _ _ from congrArg (Value.int _) (by omega)), trivial⟩, (by rw [backK_step (j := ((es.length : Int) - 1 - (k : Int)).toNat) (by omega) (by omega), List.length_append]; exact hM), (by omega), trivial⟩ (by omega)))
    · -- no: 0 ≤ ((es.length : Int) - 1 - (k : Int))
      have hbk := backK_all (es := es) (k := k) (by omega)
      have hz1 : (0 : Int) ≤ ((z : Int) % 1200) ∧ ((z : Int) % 1200) ≤ 4096 := by omega
      have hrev := from_rev hz1.1 hz1.2 es
      rw [← hbk] at hrev
      refine CW.exit ?_
      refine CW.seq ?_
      refine CW.region ?_
      refine RW.step (Ex.move (.int .i64 ((z : Int) % 1200)) rfl) rfl rfl rfl ?_
      refine RW.step (Ex.move (.slice Ae es.length ce) rfl) rfl rfl rfl ?_
      refine RW.call hM (fromExt_ret _ ((z : Int) % 1200) _ _ es hre) en28 rfl rfl rfl rfl ?_; rintro _ w H6 hle7 ⟨A8, c9, rfl, hr10⟩ hM
      refine RW.step (Ex.move (.tuple #[.agg #[.int .i64 ((fromR (newR ((z : Int) % 1200)) es).n), .slice A8 ((fromR (newR ((z : Int) % 1200)) es).ws.length) c9], .int .i64 ((fromR (newR ((z : Int) % 1200)) es).e)]) rfl) rfl rfl rfl ?_
      refine RW.step (Ex.extract rfl rfl) rfl rfl rfl ?_
      refine RW.step (Ex.extract rfl rfl) rfl rfl rfl ?_
      refine RW.alloc hM tz24 [.int .i64 (0), .slice none 0 0] rfl rfl rfl ?_; intro b11 w hM
      refine RW.store hM 0 (.agg #[.int .i64 ((fromR (newR ((z : Int) % 1200)) es).n), .slice A8 ((fromR (newR ((z : Int) % 1200)) es).ws.length) c9]) [.int .i64 ((fromR (newR ((z : Int) % 1200)) es).n), .slice A8 ((fromR (newR ((z : Int) % 1200)) es).ws.length) c9] [.int .i64 ((fromR (newR ((z : Int) % 1200)) es).n), .slice A8 ((fromR (newR ((z : Int) % 1200)) es).ws.length) c9] sz24 rfl rfl rfl (oneAll ⟨rfl, rfl, trivial⟩) rfl (Nat.le_of_ble_eq_true rfl) rfl [.box b11 24 [.int .i64 ((fromR (newR ((z : Int) % 1200)) es).n), .slice A8 ((fromR (newR ((z : Int) % 1200)) es).ws.length) c9], .row (.slice Ax ((backK es k).length) cx) 26 2 ((backK es k).length) ((backK es k).flatMap eC)] rfl rfl rfl ?_; intro w hM
      refine RW.step (Ex.assign (.int .i64 ((fromR (newR ((z : Int) % 1200)) es).e)) rfl) rfl rfl rfl ?_
      refine RW.nil ?_
      refine CW.seq ?_
      refine CW.region ?_
      refine RW.step (Ex.move (.int .i64 ((z : Int) % 1200)) rfl) rfl rfl rfl ?_
      refine RW.step (Ex.move (.slice Ax ((backK es k).length) cx) rfl) rfl rfl rfl ?_
      obtain ⟨H12, hM, hle13, hr14⟩ := hM.giveRow (k := 1) rfl
      replace hr14 : RdC H12 Ax (backK es k).length cx 2 ((backK es k).flatMap eC) := hr14
      replace hM : Mem w0 H w H12 [.box b11 24 [.int .i64 ((fromR (newR ((z : Int) % 1200)) es).n), .slice A8 ((fromR (newR ((z : Int) % 1200)) es).ws.length) c9]] := hM
      refine RW.call hM (fromExt_ret _ ((z : Int) % 1200) _ _ (backK es k) hr14) en28 rfl rfl rfl rfl ?_; rintro _ w H15 hle16 ⟨A17, c18, rfl, hr19⟩ hM
      refine RW.step (Ex.move (.tuple #[.agg #[.int .i64 ((fromR (newR ((z : Int) % 1200)) (backK es k)).n), .slice A17 ((fromR (newR ((z : Int) % 1200)) (backK es k)).ws.length) c18], .int .i64 ((fromR (newR ((z : Int) % 1200)) (backK es k)).e)]) rfl) rfl rfl rfl ?_
      refine RW.step (Ex.extract rfl rfl) rfl rfl rfl ?_
      refine RW.step (Ex.extract rfl rfl) rfl rfl rfl ?_
      refine RW.alloc hM tz24 [.int .i64 (0), .slice none 0 0] rfl rfl rfl ?_; intro b20 w hM
      refine RW.store hM 0 (.agg #[.int .i64 ((fromR (newR ((z : Int) % 1200)) (backK es k)).n), .slice A17 ((fromR (newR ((z : Int) % 1200)) (backK es k)).ws.length) c18]) [.int .i64 ((fromR (newR ((z : Int) % 1200)) (backK es k)).n), .slice A17 ((fromR (newR ((z : Int) % 1200)) (backK es k)).ws.length) c18] [.int .i64 ((fromR (newR ((z : Int) % 1200)) (backK es k)).n), .slice A17 ((fromR (newR ((z : Int) % 1200)) (backK es k)).ws.length) c18] sz24 rfl rfl rfl (oneAll ⟨rfl, rfl, trivial⟩) rfl (Nat.le_of_ble_eq_true rfl) rfl [.box b20 24 [.int .i64 ((fromR (newR ((z : Int) % 1200)) (backK es k)).n), .slice A17 ((fromR (newR ((z : Int) % 1200)) (backK es k)).ws.length) c18], .box b11 24 [.int .i64 ((fromR (newR ((z : Int) % 1200)) es).n), .slice A8 ((fromR (newR ((z : Int) % 1200)) es).ws.length) c9]] rfl rfl rfl ?_; intro w hM
      refine RW.step (Ex.assign (.int .i64 ((fromR (newR ((z : Int) % 1200)) (backK es k)).e)) rfl) rfl rfl rfl ?_
      refine RW.nil ?_
      refine CW.seq ?_
      refine CW.seq ?_
      refine CW.region ?_
      refine RW.step (Ex.move (.int .i64 ((fromR (newR ((z : Int) % 1200)) es).e)) rfl) rfl rfl rfl ?_
      refine RW.step (Ex.move (.int .i64 ((fromR (newR ((z : Int) % 1200)) (backK es k)).e)) rfl) rfl rfl rfl ?_
      refine RW.step (Ex.no (Ex.neq rfl rfl) (fun h => h (by rw [hrev]))) rfl rfl rfl ?_
      refine RW.step (Ex.move (.bool false) rfl) rfl rfl rfl ?_
      refine RW.step (Ex.loadA hM 1 [.int .i64 ((fromR (newR ((z : Int) % 1200)) es).n), .slice A8 ((fromR (newR ((z : Int) % 1200)) es).ws.length) c9] ta24 rfl rfl rfl rfl) rfl rfl rfl ?_
      refine RW.step (Ex.loadA hM 0 [.int .i64 ((fromR (newR ((z : Int) % 1200)) (backK es k)).n), .slice A17 ((fromR (newR ((z : Int) % 1200)) (backK es k)).ws.length) c18] ta24 rfl rfl rfl rfl) rfl rfl rfl ?_
      refine RW.callV hM (RetV.yes (same_ret _ _ ((fromR (newR ((z : Int) % 1200)) es).n) _ ((fromR (newR ((z : Int) % 1200)) es).ws) (hr10.mono (hle13.trans hle16)) _ ((fromR (newR ((z : Int) % 1200)) (backK es k)).n) _ ((fromR (newR ((z : Int) % 1200)) (backK es k)).ws) hr19) ⟨(by rw [hrev]), (by rw [hrev])⟩) en17 rfl rfl rfl rfl ?_; intro w hM
      refine RW.step (Ex.notB (b := true) rfl) rfl rfl rfl ?_
      refine RW.step (Ex.pickF (.bool false) rfl rfl) rfl rfl rfl ?_
      refine RW.step (Ex.move (.bool false) rfl) rfl rfl rfl ?_
      refine RW.step (Ex.move (.int .i64 ((fromR (newR ((z : Int) % 1200)) es).e)) rfl) rfl rfl rfl ?_
      refine RW.step (Ex.neq rfl rfl) rfl rfl rfl ?_
      refine RW.step (Ex.pickF (.bool (decide (((fromR (newR ((z : Int) % 1200)) es).e) ≠ 0))) rfl rfl) rfl rfl rfl ?_
      refine RW.step (Ex.move (.bool (decide (((fromR (newR ((z : Int) % 1200)) es).e) ≠ 0))) rfl) rfl rfl rfl ?_
      refine RW.split 62 rfl (fun hc21 => ?_) (fun hc21 => ?_)
      · -- yes
        refine RW.pass rfl rfl ?_
        refine RW.pass rfl rfl ?_
        refine RW.pass rfl rfl ?_
        refine RW.step (Ex.pickT (.bool true) rfl rfl) rfl rfl rfl ?_
        refine RW.nil ?_
        refine CW.cond_true rfl ?_
        refine CW.seq ?_
        refine CW.region ?_
        refine RW.callV hM (awake_ret _ (hT.mono ((hle7.trans hle13).trans hle16))) en12 rfl rfl rfl rfl ?_; intro w hM
        refine RW.step (Ex.move (.bool true) rfl) rfl rfl rfl ?_
        refine RW.step (Ex.move (.int .i64 ((fromR (newR ((z : Int) % 1200)) es).e)) rfl) rfl rfl rfl ?_
        refine RW.step (Ex.move (.int .i64 ((fromR (newR ((z : Int) % 1200)) (backK es k)).e)) rfl) rfl rfl rfl ?_
        refine RW.step (Ex.yes (Ex.eql rfl rfl) (by rw [hrev])) rfl rfl rfl ?_
        refine RW.step (Ex.pickT (.bool true) rfl rfl) rfl rfl rfl ?_
        refine RW.step (Ex.move (.bool true) rfl) rfl rfl rfl ?_
        refine RW.step (Ex.loadA hM 1 [.int .i64 ((fromR (newR ((z : Int) % 1200)) es).n), .slice A8 ((fromR (newR ((z : Int) % 1200)) es).ws.length) c9] ta24 rfl rfl rfl rfl) rfl rfl rfl ?_
        refine RW.step (Ex.loadA hM 0 [.int .i64 ((fromR (newR ((z : Int) % 1200)) (backK es k)).n), .slice A17 ((fromR (newR ((z : Int) % 1200)) (backK es k)).ws.length) c18] ta24 rfl rfl rfl rfl) rfl rfl rfl ?_
        refine RW.callV hM (RetV.yes (same_ret _ _ ((fromR (newR ((z : Int) % 1200)) es).n) _ ((fromR (newR ((z : Int) % 1200)) es).ws) (hr10.mono (hle13.trans hle16)) _ ((fromR (newR ((z : Int) % 1200)) (backK es k)).n) _ ((fromR (newR ((z : Int) % 1200)) (backK es k)).ws) hr19) ⟨(by rw [hrev]), (by rw [hrev])⟩) en17 rfl rfl rfl rfl ?_; intro w hM
        refine RW.step (Ex.pickT (.bool true) rfl rfl) rfl rfl rfl ?_
        refine RW.step (Ex.assign (.bool true) rfl) rfl rfl rfl ?_
        refine RW.nil ?_
        refine CW.ret ?_
        refine thenQ_ret ?_
        refine end_tmp (.inl rfl) rfl (.bool true) rfl ?_
        exact ⟨_, _, hM, rfl⟩
      · -- no
        refine RW.step (Ex.move (.slice Ae es.length ce) rfl) rfl rfl rfl ?_
        refine RW.step (Ex.len st44.1 rfl) rfl rfl rfl ?_
        refine RW.step (Ex.eql rfl rfl) rfl rfl rfl ?_
        refine RW.step (Ex.pickF (.bool (decide ((es.length : Int) = 0))) rfl rfl) rfl rfl rfl ?_
        refine RW.nil ?_
        refine CW.cond_dec rfl (fun hc22 => ?_) (fun hc22 => ?_)
        · -- yes: (es.length : Int) = 0
          refine CW.seq ?_
          refine CW.region ?_
          refine RW.callV hM (awake_ret _ (hT.mono ((hle7.trans hle13).trans hle16))) en12 rfl rfl rfl rfl ?_; intro w hM
          refine RW.step (Ex.move (.bool true) rfl) rfl rfl rfl ?_
          refine RW.step (Ex.move (.int .i64 ((fromR (newR ((z : Int) % 1200)) es).e)) rfl) rfl rfl rfl ?_
          refine RW.step (Ex.move (.int .i64 ((fromR (newR ((z : Int) % 1200)) (backK es k)).e)) rfl) rfl rfl rfl ?_
          refine RW.step (Ex.yes (Ex.eql rfl rfl) (by rw [hrev])) rfl rfl rfl ?_
          refine RW.step (Ex.pickT (.bool true) rfl rfl) rfl rfl rfl ?_
          refine RW.step (Ex.move (.bool true) rfl) rfl rfl rfl ?_
          refine RW.step (Ex.loadA hM 1 [.int .i64 ((fromR (newR ((z : Int) % 1200)) es).n), .slice A8 ((fromR (newR ((z : Int) % 1200)) es).ws.length) c9] ta24 rfl rfl rfl rfl) rfl rfl rfl ?_
          refine RW.step (Ex.loadA hM 0 [.int .i64 ((fromR (newR ((z : Int) % 1200)) (backK es k)).n), .slice A17 ((fromR (newR ((z : Int) % 1200)) (backK es k)).ws.length) c18] ta24 rfl rfl rfl rfl) rfl rfl rfl ?_
          refine RW.callV hM (RetV.yes (same_ret _ _ ((fromR (newR ((z : Int) % 1200)) es).n) _ ((fromR (newR ((z : Int) % 1200)) es).ws) (hr10.mono (hle13.trans hle16)) _ ((fromR (newR ((z : Int) % 1200)) (backK es k)).n) _ ((fromR (newR ((z : Int) % 1200)) (backK es k)).ws) hr19) ⟨(by rw [hrev]), (by rw [hrev])⟩) en17 rfl rfl rfl rfl ?_; intro w hM
          refine RW.step (Ex.pickT (.bool true) rfl rfl) rfl rfl rfl ?_
          refine RW.step (Ex.assign (.bool true) rfl) rfl rfl rfl ?_
          refine RW.nil ?_
          refine CW.ret ?_
          refine thenQ_ret ?_
          refine end_tmp (.inl rfl) rfl (.bool true) rfl ?_
          exact ⟨_, _, hM, rfl⟩
        · -- no: (es.length : Int) = 0
          have hok := ord_ok hz1.1 hz1.2 (Classical.not_not.1 hc21)
          have hog := ord_get hok (by omega)
          have hfit := fitsB_iff.1 hog.2.1
          refine CW.skip ?_
          refine CW.cut (fun D σ w => D = [] ∧ ∃ (bz : Nat), ∃ (Az : Option Addr), ∃ (cz : Nat), ∃ Hz, H15.le Hz ∧ (∃ τ, σ = sl [(1, .slice Ae es.length ce), (4, .bool false), (5, .int .i64 ((z : Int) % 1200)), (8, .pointer (some ⟨b11, 0, none⟩)), (12, .pointer (some ⟨bz, 0, none⟩)), (13, .int .i64 ((chR false (fromR (newR ((z : Int) % 1200)) es).n (fromR (newR ((z : Int) % 1200)) es).ws (es.getD 0 (0, 0)).1 (es.getD 0 (0, 0)).2).e))] τ) ∧ Mem w0 H w Hz [.box bz 24 [.int .i64 ((chR false (fromR (newR ((z : Int) % 1200)) es).n (fromR (newR ((z : Int) % 1200)) es).ws (es.getD 0 (0, 0)).1 (es.getD 0 (0, 0)).2).n), .slice Az ((chR false (fromR (newR ((z : Int) % 1200)) es).n (fromR (newR ((z : Int) % 1200)) es).ws (es.getD 0 (0, 0)).1 (es.getD 0 (0, 0)).2).ws.length) cz], .box b20 24 [.int .i64 ((fromR (newR ((z : Int) % 1200)) (backK es k)).n), .slice A17 ((fromR (newR ((z : Int) % 1200)) (backK es k)).ws.length) c18], .box b11 24 [.int .i64 ((fromR (newR ((z : Int) % 1200)) es).n), .slice A8 ((fromR (newR ((z : Int) % 1200)) es).ws.length) c9]] ∧ (RdC Hz Az (chR false (fromR (newR ((z : Int) % 1200)) es).n (fromR (newR ((z : Int) % 1200)) es).ws (es.getD 0 (0, 0)).1 (es.getD 0 (0, 0)).2).ws.length cz 1 ((chR false (fromR (newR ((z : Int) % 1200)) es).n (fromR (newR ((z : Int) % 1200)) es).ws (es.getD 0 (0, 0)).1 (es.getD 0 (0, 0)).2).ws.map u64)) ∧ True) ?_ ?_
          · -- each way
            refine CW.drawH 10 [(fun Hq us E => us = [.agg #[.int .i64 ((fromR (newR ((z : Int) % 1200)) es).n), .slice A8 ((fromR (newR ((z : Int) % 1200)) es).ws.length) c9]] ∧ E = [] ∧ True), (fun Hq us E => us = [.slice Ae es.length ce] ∧ E = [] ∧ True), (fun Hq us E => us = [elp Ae (0 * 2 + 0)] ∧ E = [] ∧ True), (fun Hq us E => us = [.agg #[.int .i64 ((es.getD 0 (0, 0)).1), .int .i64 ((es.getD 0 (0, 0)).2)]] ∧ E = [] ∧ True), (fun Hq us E => ∃ (A23 : Option Addr), ∃ (c24 : Nat), us = [.tuple #[.agg #[.int .i64 ((chR false ((fromR (newR ((z : Int) % 1200)) es).n) ((fromR (newR ((z : Int) % 1200)) es).ws) ((es.getD 0 (0, 0)).1) ((es.getD 0 (0, 0)).2)).n), .slice A23 ((chR false ((fromR (newR ((z : Int) % 1200)) es).n) ((fromR (newR ((z : Int) % 1200)) es).ws) ((es.getD 0 (0, 0)).1) ((es.getD 0 (0, 0)).2)).ws.length) c24], .int .i64 ((chR false ((fromR (newR ((z : Int) % 1200)) es).n) ((fromR (newR ((z : Int) % 1200)) es).ws) ((es.getD 0 (0, 0)).1) ((es.getD 0 (0, 0)).2)).e)]] ∧ E = [] ∧ RdC Hq A23 ((chR false ((fromR (newR ((z : Int) % 1200)) es).n) ((fromR (newR ((z : Int) % 1200)) es).ws) ((es.getD 0 (0, 0)).1) ((es.getD 0 (0, 0)).2)).ws).length c24 1 (((chR false ((fromR (newR ((z : Int) % 1200)) es).n) ((fromR (newR ((z : Int) % 1200)) es).ws) ((es.getD 0 (0, 0)).1) ((es.getD 0 (0, 0)).2)).ws).map u64) ∧ True), (fun Hq us E => ∃ (A23 : Option Addr), ∃ (c24 : Nat), us = [.tuple #[.agg #[.int .i64 ((chR false ((fromR (newR ((z : Int) % 1200)) es).n) ((fromR (newR ((z : Int) % 1200)) es).ws) ((es.getD 0 (0, 0)).1) ((es.getD 0 (0, 0)).2)).n), .slice A23 ((chR false ((fromR (newR ((z : Int) % 1200)) es).n) ((fromR (newR ((z : Int) % 1200)) es).ws) ((es.getD 0 (0, 0)).1) ((es.getD 0 (0, 0)).2)).ws.length) c24], .int .i64 ((chR false ((fromR (newR ((z : Int) % 1200)) es).n) ((fromR (newR ((z : Int) % 1200)) es).ws) ((es.getD 0 (0, 0)).1) ((es.getD 0 (0, 0)).2)).e)]] ∧ E = [] ∧ RdC Hq A23 ((chR false ((fromR (newR ((z : Int) % 1200)) es).n) ((fromR (newR ((z : Int) % 1200)) es).ws) ((es.getD 0 (0, 0)).1) ((es.getD 0 (0, 0)).2)).ws).length c24 1 (((chR false ((fromR (newR ((z : Int) % 1200)) es).n) ((fromR (newR ((z : Int) % 1200)) es).ws) ((es.getD 0 (0, 0)).1) ((es.getD 0 (0, 0)).2)).ws).map u64) ∧ True), (fun Hq us E => ∃ (A23 : Option Addr), ∃ (c24 : Nat), us = [.agg #[.int .i64 ((chR false ((fromR (newR ((z : Int) % 1200)) es).n) ((fromR (newR ((z : Int) % 1200)) es).ws) ((es.getD 0 (0, 0)).1) ((es.getD 0 (0, 0)).2)).n), .slice A23 ((chR false ((fromR (newR ((z : Int) % 1200)) es).n) ((fromR (newR ((z : Int) % 1200)) es).ws) ((es.getD 0 (0, 0)).1) ((es.getD 0 (0, 0)).2)).ws.length) c24]] ∧ E = [] ∧ RdC Hq A23 ((chR false ((fromR (newR ((z : Int) % 1200)) es).n) ((fromR (newR ((z : Int) % 1200)) es).ws) ((es.getD 0 (0, 0)).1) ((es.getD 0 (0, 0)).2)).ws).length c24 1 (((chR false ((fromR (newR ((z : Int) % 1200)) es).n) ((fromR (newR ((z : Int) % 1200)) es).ws) ((es.getD 0 (0, 0)).1) ((es.getD 0 (0, 0)).2)).ws).map u64) ∧ True), (fun Hq us E => us = [.int .i64 ((chR false ((fromR (newR ((z : Int) % 1200)) es).n) ((fromR (newR ((z : Int) % 1200)) es).ws) ((es.getD 0 (0, 0)).1) ((es.getD 0 (0, 0)).2)).e)] ∧ E = [] ∧ True), (fun Hq us E => ∃ (b26 : Nat), us = [.pointer (some ⟨b26, 0, none⟩)] ∧ E = [.box b26 24 [.int .i64 (0), .slice none 0 0]] ∧ True), (fun Hq us E => ∃ (A23 : Option Addr), ∃ (c24 : Nat), ∃ (b26 : Nat), us = [.pointer (some ⟨b26, 0, none⟩)] ∧ E = [.box b26 24 [.int .i64 ((chR false ((fromR (newR ((z : Int) % 1200)) es).n) ((fromR (newR ((z : Int) % 1200)) es).ws) ((es.getD 0 (0, 0)).1) ((es.getD 0 (0, 0)).2)).n), .slice A23 ((chR false ((fromR (newR ((z : Int) % 1200)) es).n) ((fromR (newR ((z : Int) % 1200)) es).ws) ((es.getD 0 (0, 0)).1) ((es.getD 0 (0, 0)).2)).ws.length) c24]] ∧ RdC Hq A23 ((chR false ((fromR (newR ((z : Int) % 1200)) es).n) ((fromR (newR ((z : Int) % 1200)) es).ws) ((es.getD 0 (0, 0)).1) ((es.getD 0 (0, 0)).2)).ws).length c24 1 (((chR false ((fromR (newR ((z : Int) % 1200)) es).n) ((fromR (newR ((z : Int) % 1200)) es).ws) ((es.getD 0 (0, 0)).1) ((es.getD 0 (0, 0)).2)).ws).map u64) ∧ True)]
              (fun k => [[0], [1], [2], [3], [4], [5], [6], [7], [8], [8]].getD k []) (fun k => [none, none, none, none, none, none, none, none, none, some 8].getD k none) (by kernel_rfl) hM (by kernel_rfl) (by kernel_rfl) (by kernel_rfl) rfl (by simp only [List.forall_mem_cons]; exact ⟨fun _ _ _ _ hle ⟨e1, e2, _⟩ => ⟨e1, e2, trivial⟩, fun _ _ _ _ hle ⟨e1, e2, _⟩ => ⟨e1, e2, trivial⟩, fun _ _ _ _ hle ⟨e1, e2, _⟩ => ⟨e1, e2, trivial⟩, fun _ _ _ _ hle ⟨e1, e2, _⟩ => ⟨e1, e2, trivial⟩, fun _ _ _ _ hle ⟨A23, c24, e1, e2, hr25, _⟩ => ⟨A23, c24, e1, e2, hr25.mono hle, trivial⟩, fun _ _ _ _ hle ⟨A23, c24, e1, e2, hr25, _⟩ => ⟨A23, c24, e1, e2, hr25.mono hle, trivial⟩, fun _ _ _ _ hle ⟨A23, c24, e1, e2, hr25, _⟩ => ⟨A23, c24, e1, e2, hr25.mono hle, trivial⟩, fun _ _ _ _ hle ⟨e1, e2, _⟩ => ⟨e1, e2, trivial⟩, fun _ _ _ _ hle ⟨b26, e1, e2, _⟩ => ⟨b26, e1, e2, trivial⟩, fun _ _ _ _ hle ⟨A23, c24, b26, e1, e2, hr25, _⟩ => ⟨A23, c24, b26, e1, e2, hr25.mono hle, trivial⟩, by simp⟩) ⟨?_, ?_, ?_, ?_, ?_, ?_, ?_, ?_, ?_, ?_, trivial⟩ ?_
            · intro H' σ' w R E hle hMR hE0 hE hp hf
              obtain rfl := hE0 rfl
              obtain ⟨τ, rfl⟩ := sl_canon (σ := σ') (l := [(8, .pointer (some ⟨b11, 0, none⟩))]) ⟨(hf 8 (by kernel_rfl)).trans rfl, trivial⟩
              have hM : Mem w0 H w H' [.box b20 24 [.int .i64 ((fromR (newR ((z : Int) % 1200)) (backK es k)).n), .slice A17 ((fromR (newR ((z : Int) % 1200)) (backK es k)).ws.length) c18], .box b11 24 [.int .i64 ((fromR (newR ((z : Int) % 1200)) es).n), .slice A8 ((fromR (newR ((z : Int) % 1200)) es).ws.length) c9]] := hMR.sub (List.sublist_append_right R _)
              exact RW.step (Ex.loadA hM 1 [.int .i64 ((fromR (newR ((z : Int) % 1200)) es).n), .slice A8 ((fromR (newR ((z : Int) % 1200)) es).ws.length) c9] ta24 rfl rfl rfl rfl) rfl rfl rfl (RW.nil ⟨rfl, rfl, _, rfl, H', [], Hp.le.refl _, hMR, rfl, rfl, trivial⟩)
            · intro H' σ' w R E hle hMR hE0 hE hp hf
              obtain rfl := hE0 rfl
              obtain ⟨τ, rfl⟩ := sl_canon (σ := σ') (l := [(1, .slice Ae es.length ce)]) ⟨(hf 1 (by kernel_rfl)).trans rfl, trivial⟩
              have hM : Mem w0 H w H' [.box b20 24 [.int .i64 ((fromR (newR ((z : Int) % 1200)) (backK es k)).n), .slice A17 ((fromR (newR ((z : Int) % 1200)) (backK es k)).ws.length) c18], .box b11 24 [.int .i64 ((fromR (newR ((z : Int) % 1200)) es).n), .slice A8 ((fromR (newR ((z : Int) % 1200)) es).ws.length) c9]] := hMR.sub (List.sublist_append_right R _)
              exact RW.step (Ex.move (.slice Ae es.length ce) rfl) rfl rfl rfl (RW.nil ⟨rfl, rfl, _, rfl, H', [], Hp.le.refl _, hMR, rfl, rfl, trivial⟩)
            · intro H' σ' w R E hle hMR hE0 hE hp hf
              obtain rfl := hE0 rfl
              obtain ⟨_, hg⟩ := hp 1 (by decide) (by kernel_rfl)
              obtain ⟨e27, _, _⟩ := hg.get rfl
              have e28 : σ' 80 = .slice Ae es.length ce := (List.cons.inj e27).1
              obtain ⟨τ, rfl⟩ := sl_canon (σ := σ') (l := [(80, .slice Ae es.length ce)]) ⟨e28, trivial⟩
              have hM : Mem w0 H w H' [.box b20 24 [.int .i64 ((fromR (newR ((z : Int) % 1200)) (backK es k)).n), .slice A17 ((fromR (newR ((z : Int) % 1200)) (backK es k)).ws.length) c18], .box b11 24 [.int .i64 ((fromR (newR ((z : Int) % 1200)) es).n), .slice A8 ((fromR (newR ((z : Int) % 1200)) es).ws.length) c9]] := hMR.sub (List.sublist_append_right R _)
              exact RW.step (Ex.index st44 rfl rfl 0 (hre.ne (by omega)) (by omega) (by omega)) rfl rfl rfl (RW.nil ⟨rfl, rfl, _, rfl, H', [], Hp.le.refl _, hMR, rfl, rfl, trivial⟩)
            · intro H' σ' w R E hle hMR hE0 hE hp hf
              obtain rfl := hE0 rfl
              obtain ⟨_, hg⟩ := hp 2 (by decide) (by kernel_rfl)
              obtain ⟨e29, _, _⟩ := hg.get rfl
              have e30 : σ' 81 = elp Ae (0 * 2 + 0) := (List.cons.inj e29).1
              obtain ⟨τ, rfl⟩ := sl_canon (σ := σ') (l := [(81, elp Ae (0 * 2 + 0))]) ⟨e30, trivial⟩
              have hM : Mem w0 H w H' [.box b20 24 [.int .i64 ((fromR (newR ((z : Int) % 1200)) (backK es k)).n), .slice A17 ((fromR (newR ((z : Int) % 1200)) (backK es k)).ws.length) c18], .box b11 24 [.int .i64 ((fromR (newR ((z : Int) % 1200)) es).n), .slice A8 ((fromR (newR ((z : Int) % 1200)) es).ws.length) c9]] := hMR.sub (List.sublist_append_right R _)
              exact RW.step (Ex.loadEA hM (((hle7.trans hle13).trans hle16).trans hle) hre [.int .i64 ((es.getD 0 (0, 0)).1), .int .i64 ((es.getD 0 (0, 0)).2)] ta26 rfl (hre.ne (by omega)) rfl (getEA (by omega))) rfl rfl rfl (RW.nil ⟨rfl, rfl, _, rfl, H', [], Hp.le.refl _, hMR, rfl, rfl, trivial⟩)
            · intro H' σ' w R E hle hMR hE0 hE hp hf
              obtain rfl := hE0 rfl
              obtain ⟨_, hg⟩ := hp 0 (by decide) (by kernel_rfl)
              obtain ⟨e31, _, _⟩ := hg.get rfl
              have e32 : σ' 79 = .agg #[.int .i64 ((fromR (newR ((z : Int) % 1200)) es).n), .slice A8 ((fromR (newR ((z : Int) % 1200)) es).ws.length) c9] := (List.cons.inj e31).1
              obtain ⟨_, hg⟩ := hp 3 (by decide) (by kernel_rfl)
              obtain ⟨e33, _, _⟩ := hg.get rfl
              have e34 : σ' 82 = .agg #[.int .i64 ((es.getD 0 (0, 0)).1), .int .i64 ((es.getD 0 (0, 0)).2)] := (List.cons.inj e33).1
              obtain ⟨τ, rfl⟩ := sl_canon (σ := σ') (l := [(79, .agg #[.int .i64 ((fromR (newR ((z : Int) % 1200)) es).n), .slice A8 ((fromR (newR ((z : Int) % 1200)) es).ws.length) c9]), (82, .agg #[.int .i64 ((es.getD 0 (0, 0)).1), .int .i64 ((es.getD 0 (0, 0)).2)])]) ⟨e32, e34, trivial⟩
              have hM : Mem w0 H w H' [.box b20 24 [.int .i64 ((fromR (newR ((z : Int) % 1200)) (backK es k)).n), .slice A17 ((fromR (newR ((z : Int) % 1200)) (backK es k)).ws.length) c18], .box b11 24 [.int .i64 ((fromR (newR ((z : Int) % 1200)) es).n), .slice A8 ((fromR (newR ((z : Int) % 1200)) es).ws.length) c9]] := hMR.sub (List.sublist_append_right R _)
              refine RW.call hMR (clear_ret _ _ ((fromR (newR ((z : Int) % 1200)) es).n) _ ((fromR (newR ((z : Int) % 1200)) es).ws) (hr10.mono ((hle13.trans hle16).trans hle)) ((es.getD 0 (0, 0)).1) ((es.getD 0 (0, 0)).2)) en15 rfl rfl rfl rfl ?_; rintro _ w H9 hle9 ⟨A23, c24, rfl, hr25⟩ hMR
              exact RW.nil ⟨rfl, rfl, _, rfl, H9, [], hle9, hMR, A23, c24, rfl, rfl, hr25, trivial⟩
            · intro H' σ' w R E hle hMR hE0 hE hp hf
              obtain rfl := hE0 rfl
              obtain ⟨_, hg⟩ := hp 4 (by decide) (by kernel_rfl)
              obtain ⟨A23, c24, e35, _, hr25, _⟩ := hg.get rfl
              have e36 : σ' 83 = .tuple #[.agg #[.int .i64 ((chR false ((fromR (newR ((z : Int) % 1200)) es).n) ((fromR (newR ((z : Int) % 1200)) es).ws) ((es.getD 0 (0, 0)).1) ((es.getD 0 (0, 0)).2)).n), .slice A23 ((chR false ((fromR (newR ((z : Int) % 1200)) es).n) ((fromR (newR ((z : Int) % 1200)) es).ws) ((es.getD 0 (0, 0)).1) ((es.getD 0 (0, 0)).2)).ws.length) c24], .int .i64 ((chR false ((fromR (newR ((z : Int) % 1200)) es).n) ((fromR (newR ((z : Int) % 1200)) es).ws) ((es.getD 0 (0, 0)).1) ((es.getD 0 (0, 0)).2)).e)] := (List.cons.inj e35).1
              obtain ⟨τ, rfl⟩ := sl_canon (σ := σ') (l := [(83, .tuple #[.agg #[.int .i64 ((chR false ((fromR (newR ((z : Int) % 1200)) es).n) ((fromR (newR ((z : Int) % 1200)) es).ws) ((es.getD 0 (0, 0)).1) ((es.getD 0 (0, 0)).2)).n), .slice A23 ((chR false ((fromR (newR ((z : Int) % 1200)) es).n) ((fromR (newR ((z : Int) % 1200)) es).ws) ((es.getD 0 (0, 0)).1) ((es.getD 0 (0, 0)).2)).ws.length) c24], .int .i64 ((chR false ((fromR (newR ((z : Int) % 1200)) es).n) ((fromR (newR ((z : Int) % 1200)) es).ws) ((es.getD 0 (0, 0)).1) ((es.getD 0 (0, 0)).2)).e)])]) ⟨e36, trivial⟩
              have hM : Mem w0 H w H' [.box b20 24 [.int .i64 ((fromR (newR ((z : Int) % 1200)) (backK es k)).n), .slice A17 ((fromR (newR ((z : Int) % 1200)) (backK es k)).ws.length) c18], .box b11 24 [.int .i64 ((fromR (newR ((z : Int) % 1200)) es).n), .slice A8 ((fromR (newR ((z : Int) % 1200)) es).ws.length) c9]] := hMR.sub (List.sublist_append_right R _)
              exact RW.step (Ex.move (.tuple #[.agg #[.int .i64 ((chR false ((fromR (newR ((z : Int) % 1200)) es).n) ((fromR (newR ((z : Int) % 1200)) es).ws) ((es.getD 0 (0, 0)).1) ((es.getD 0 (0, 0)).2)).n), .slice A23 ((chR false ((fromR (newR ((z : Int) % 1200)) es).n) ((fromR (newR ((z : Int) % 1200)) es).ws) ((es.getD 0 (0, 0)).1) ((es.getD 0 (0, 0)).2)).ws.length) c24], .int .i64 ((chR false ((fromR (newR ((z : Int) % 1200)) es).n) ((fromR (newR ((z : Int) % 1200)) es).ws) ((es.getD 0 (0, 0)).1) ((es.getD 0 (0, 0)).2)).e)]) rfl) rfl rfl rfl (RW.nil ⟨rfl, rfl, _, rfl, H', [], Hp.le.refl _, hMR, A23, c24, rfl, rfl, hr25, trivial⟩)
            · intro H' σ' w R E hle hMR hE0 hE hp hf
              obtain rfl := hE0 rfl
              obtain ⟨_, hg⟩ := hp 5 (by decide) (by kernel_rfl)
              obtain ⟨A23, c24, e37, _, hr25, _⟩ := hg.get rfl
              have e38 : σ' 78 = .tuple #[.agg #[.int .i64 ((chR false ((fromR (newR ((z : Int) % 1200)) es).n) ((fromR (newR ((z : Int) % 1200)) es).ws) ((es.getD 0 (0, 0)).1) ((es.getD 0 (0, 0)).2)).n), .slice A23 ((chR false ((fromR (newR ((z : Int) % 1200)) es).n) ((fromR (newR ((z : Int) % 1200)) es).ws) ((es.getD 0 (0, 0)).1) ((es.getD 0 (0, 0)).2)).ws.length) c24], .int .i64 ((chR false ((fromR (newR ((z : Int) % 1200)) es).n) ((fromR (newR ((z : Int) % 1200)) es).ws) ((es.getD 0 (0, 0)).1) ((es.getD 0 (0, 0)).2)).e)] := (List.cons.inj e37).1
              obtain ⟨τ, rfl⟩ := sl_canon (σ := σ') (l := [(78, .tuple #[.agg #[.int .i64 ((chR false ((fromR (newR ((z : Int) % 1200)) es).n) ((fromR (newR ((z : Int) % 1200)) es).ws) ((es.getD 0 (0, 0)).1) ((es.getD 0 (0, 0)).2)).n), .slice A23 ((chR false ((fromR (newR ((z : Int) % 1200)) es).n) ((fromR (newR ((z : Int) % 1200)) es).ws) ((es.getD 0 (0, 0)).1) ((es.getD 0 (0, 0)).2)).ws.length) c24], .int .i64 ((chR false ((fromR (newR ((z : Int) % 1200)) es).n) ((fromR (newR ((z : Int) % 1200)) es).ws) ((es.getD 0 (0, 0)).1) ((es.getD 0 (0, 0)).2)).e)])]) ⟨e38, trivial⟩
              have hM : Mem w0 H w H' [.box b20 24 [.int .i64 ((fromR (newR ((z : Int) % 1200)) (backK es k)).n), .slice A17 ((fromR (newR ((z : Int) % 1200)) (backK es k)).ws.length) c18], .box b11 24 [.int .i64 ((fromR (newR ((z : Int) % 1200)) es).n), .slice A8 ((fromR (newR ((z : Int) % 1200)) es).ws.length) c9]] := hMR.sub (List.sublist_append_right R _)
              exact RW.step (Ex.extract rfl rfl) rfl rfl rfl (RW.nil ⟨rfl, rfl, _, rfl, H', [], Hp.le.refl _, hMR, A23, c24, rfl, rfl, hr25, trivial⟩)
            · intro H' σ' w R E hle hMR hE0 hE hp hf
              obtain rfl := hE0 rfl
              obtain ⟨_, hg⟩ := hp 5 (by decide) (by kernel_rfl)
              obtain ⟨A23, c24, e39, _, hr25, _⟩ := hg.get rfl
              have e40 : σ' 78 = .tuple #[.agg #[.int .i64 ((chR false ((fromR (newR ((z : Int) % 1200)) es).n) ((fromR (newR ((z : Int) % 1200)) es).ws) ((es.getD 0 (0, 0)).1) ((es.getD 0 (0, 0)).2)).n), .slice A23 ((chR false ((fromR (newR ((z : Int) % 1200)) es).n) ((fromR (newR ((z : Int) % 1200)) es).ws) ((es.getD 0 (0, 0)).1) ((es.getD 0 (0, 0)).2)).ws.length) c24], .int .i64 ((chR false ((fromR (newR ((z : Int) % 1200)) es).n) ((fromR (newR ((z : Int) % 1200)) es).ws) ((es.getD 0 (0, 0)).1) ((es.getD 0 (0, 0)).2)).e)] := (List.cons.inj e39).1
              obtain ⟨τ, rfl⟩ := sl_canon (σ := σ') (l := [(78, .tuple #[.agg #[.int .i64 ((chR false ((fromR (newR ((z : Int) % 1200)) es).n) ((fromR (newR ((z : Int) % 1200)) es).ws) ((es.getD 0 (0, 0)).1) ((es.getD 0 (0, 0)).2)).n), .slice A23 ((chR false ((fromR (newR ((z : Int) % 1200)) es).n) ((fromR (newR ((z : Int) % 1200)) es).ws) ((es.getD 0 (0, 0)).1) ((es.getD 0 (0, 0)).2)).ws.length) c24], .int .i64 ((chR false ((fromR (newR ((z : Int) % 1200)) es).n) ((fromR (newR ((z : Int) % 1200)) es).ws) ((es.getD 0 (0, 0)).1) ((es.getD 0 (0, 0)).2)).e)])]) ⟨e40, trivial⟩
              have hM : Mem w0 H w H' [.box b20 24 [.int .i64 ((fromR (newR ((z : Int) % 1200)) (backK es k)).n), .slice A17 ((fromR (newR ((z : Int) % 1200)) (backK es k)).ws.length) c18], .box b11 24 [.int .i64 ((fromR (newR ((z : Int) % 1200)) es).n), .slice A8 ((fromR (newR ((z : Int) % 1200)) es).ws.length) c9]] := hMR.sub (List.sublist_append_right R _)
              exact RW.step (Ex.extract rfl rfl) rfl rfl rfl (RW.nil ⟨rfl, rfl, _, rfl, H', [], Hp.le.refl _, hMR, rfl, rfl, trivial⟩)
            · intro H' σ' w R E hle hMR hE0 hE hp hf
              obtain rfl := hE0 rfl
              obtain ⟨τ, rfl⟩ := sl_canon (σ := σ') (l := []) trivial
              have hM : Mem w0 H w H' [.box b20 24 [.int .i64 ((fromR (newR ((z : Int) % 1200)) (backK es k)).n), .slice A17 ((fromR (newR ((z : Int) % 1200)) (backK es k)).ws.length) c18], .box b11 24 [.int .i64 ((fromR (newR ((z : Int) % 1200)) es).n), .slice A8 ((fromR (newR ((z : Int) % 1200)) es).ws.length) c9]] := hMR.sub (List.sublist_append_right R _)
              refine RW.alloc hMR tz24 [.int .i64 (0), .slice none 0 0] rfl rfl rfl ?_; intro b26 w hMR
              exact RW.nil ⟨rfl, rfl, _, rfl, H', [.box b26 24 [.int .i64 (0), .slice none 0 0]], Hp.le.refl _, hMR, b26, rfl, rfl, trivial⟩
            · intro H' σ' w R E hle hMR hE0 hE hp hf
              obtain ⟨b26, e41, rfl, _⟩ := (hE 8 rfl).get rfl
              have e42 : σ' 12 = .pointer (some ⟨b26, 0, none⟩) := (List.cons.inj e41).1
              obtain ⟨_, hg⟩ := hp 6 (by decide) (by kernel_rfl)
              obtain ⟨A23, c24, e43, _, hr25, _⟩ := hg.get rfl
              have e44 : σ' 84 = .agg #[.int .i64 ((chR false ((fromR (newR ((z : Int) % 1200)) es).n) ((fromR (newR ((z : Int) % 1200)) es).ws) ((es.getD 0 (0, 0)).1) ((es.getD 0 (0, 0)).2)).n), .slice A23 ((chR false ((fromR (newR ((z : Int) % 1200)) es).n) ((fromR (newR ((z : Int) % 1200)) es).ws) ((es.getD 0 (0, 0)).1) ((es.getD 0 (0, 0)).2)).ws.length) c24] := (List.cons.inj e43).1
              obtain ⟨τ, rfl⟩ := sl_canon (σ := σ') (l := [(12, .pointer (some ⟨b26, 0, none⟩)), (84, .agg #[.int .i64 ((chR false ((fromR (newR ((z : Int) % 1200)) es).n) ((fromR (newR ((z : Int) % 1200)) es).ws) ((es.getD 0 (0, 0)).1) ((es.getD 0 (0, 0)).2)).n), .slice A23 ((chR false ((fromR (newR ((z : Int) % 1200)) es).n) ((fromR (newR ((z : Int) % 1200)) es).ws) ((es.getD 0 (0, 0)).1) ((es.getD 0 (0, 0)).2)).ws.length) c24])]) ⟨e42, e44, trivial⟩
              refine RW.store hMR 0 (.agg #[.int .i64 ((chR false ((fromR (newR ((z : Int) % 1200)) es).n) ((fromR (newR ((z : Int) % 1200)) es).ws) ((es.getD 0 (0, 0)).1) ((es.getD 0 (0, 0)).2)).n), .slice A23 ((chR false ((fromR (newR ((z : Int) % 1200)) es).n) ((fromR (newR ((z : Int) % 1200)) es).ws) ((es.getD 0 (0, 0)).1) ((es.getD 0 (0, 0)).2)).ws.length) c24]) [.int .i64 ((chR false ((fromR (newR ((z : Int) % 1200)) es).n) ((fromR (newR ((z : Int) % 1200)) es).ws) ((es.getD 0 (0, 0)).1) ((es.getD 0 (0, 0)).2)).n), .slice A23 ((chR false ((fromR (newR ((z : Int) % 1200)) es).n) ((fromR (newR ((z : Int) % 1200)) es).ws) ((es.getD 0 (0, 0)).1) ((es.getD 0 (0, 0)).2)).ws.length) c24] [.int .i64 ((chR false ((fromR (newR ((z : Int) % 1200)) es).n) ((fromR (newR ((z : Int) % 1200)) es).ws) ((es.getD 0 (0, 0)).1) ((es.getD 0 (0, 0)).2)).n), .slice A23 ((chR false ((fromR (newR ((z : Int) % 1200)) es).n) ((fromR (newR ((z : Int) % 1200)) es).ws) ((es.getD 0 (0, 0)).1) ((es.getD 0 (0, 0)).2)).ws.length) c24] sz24 rfl rfl rfl (oneAll ⟨rfl, rfl, trivial⟩) rfl (Nat.le_of_ble_eq_true rfl) rfl (.box b26 24 [.int .i64 ((chR false ((fromR (newR ((z : Int) % 1200)) es).n) ((fromR (newR ((z : Int) % 1200)) es).ws) ((es.getD 0 (0, 0)).1) ((es.getD 0 (0, 0)).2)).n), .slice A23 ((chR false ((fromR (newR ((z : Int) % 1200)) es).n) ((fromR (newR ((z : Int) % 1200)) es).ws) ((es.getD 0 (0, 0)).1) ((es.getD 0 (0, 0)).2)).ws.length) c24] :: (R ++ [.box b20 24 [.int .i64 ((fromR (newR ((z : Int) % 1200)) (backK es k)).n), .slice A17 ((fromR (newR ((z : Int) % 1200)) (backK es k)).ws.length) c18], .box b11 24 [.int .i64 ((fromR (newR ((z : Int) % 1200)) es).n), .slice A8 ((fromR (newR ((z : Int) % 1200)) es).ws.length) c9]])) rfl rfl rfl ?_; intro w hMR
              exact RW.nil ⟨rfl, rfl, _, rfl, H', [.box b26 24 [.int .i64 ((chR false ((fromR (newR ((z : Int) % 1200)) es).n) ((fromR (newR ((z : Int) % 1200)) es).ws) ((es.getD 0 (0, 0)).1) ((es.getD 0 (0, 0)).2)).n), .slice A23 ((chR false ((fromR (newR ((z : Int) % 1200)) es).n) ((fromR (newR ((z : Int) % 1200)) es).ws) ((es.getD 0 (0, 0)).1) ((es.getD 0 (0, 0)).2)).ws.length) c24]], Hp.le.refl _, hMR, A23, c24, b26, rfl, rfl, hr25, trivial⟩
            · intro H45 σ' w X hle46 hM hX hf
              obtain ⟨_, g0, y0⟩ := hX 0 (by decide)
              obtain ⟨_, rfl, _⟩ := g0.get rfl
              replace y0 : X 0 = [] := y0
              obtain ⟨_, g0, y1⟩ := hX 1 (by decide)
              obtain ⟨_, rfl, _⟩ := g0.get rfl
              replace y1 : X 1 = [] := y1
              obtain ⟨_, g0, y2⟩ := hX 2 (by decide)
              obtain ⟨_, rfl, _⟩ := g0.get rfl
              replace y2 : X 2 = [] := y2
              obtain ⟨_, g0, y3⟩ := hX 3 (by decide)
              obtain ⟨_, rfl, _⟩ := g0.get rfl
              replace y3 : X 3 = [] := y3
              obtain ⟨_, g0, y4⟩ := hX 4 (by decide)
              obtain ⟨_, _, _, rfl, _, _⟩ := g0.get rfl
              replace y4 : X 4 = [] := y4
              obtain ⟨_, g0, y5⟩ := hX 5 (by decide)
              obtain ⟨_, _, _, rfl, _, _⟩ := g0.get rfl
              replace y5 : X 5 = [] := y5
              obtain ⟨_, g0, y6⟩ := hX 6 (by decide)
              obtain ⟨_, _, _, rfl, _, _⟩ := g0.get rfl
              replace y6 : X 6 = [] := y6
              obtain ⟨_, g0, y7⟩ := hX 7 (by decide)
              obtain ⟨e47, rfl, _⟩ := g0.get rfl
              have e48 : σ' 85 = .int .i64 ((chR false ((fromR (newR ((z : Int) % 1200)) es).n) ((fromR (newR ((z : Int) % 1200)) es).ws) ((es.getD 0 (0, 0)).1) ((es.getD 0 (0, 0)).2)).e) := (List.cons.inj e47).1
              replace y7 : X 7 = [] := y7
              obtain ⟨_, g0, y8⟩ := hX 8 (by decide)
              obtain ⟨_, _, rfl, _⟩ := g0.get rfl
              replace y8 : X 8 = [] := y8
              obtain ⟨_, g0, y9⟩ := hX 9 (by decide)
              obtain ⟨A23, c24, b26, e49, rfl, hr25, _⟩ := g0.get rfl
              have e50 : σ' 12 = .pointer (some ⟨b26, 0, none⟩) := (List.cons.inj e49).1
              replace y9 : X 9 = [.box b26 24 [.int .i64 ((chR false ((fromR (newR ((z : Int) % 1200)) es).n) ((fromR (newR ((z : Int) % 1200)) es).ws) ((es.getD 0 (0, 0)).1) ((es.getD 0 (0, 0)).2)).n), .slice A23 ((chR false ((fromR (newR ((z : Int) % 1200)) es).n) ((fromR (newR ((z : Int) % 1200)) es).ws) ((es.getD 0 (0, 0)).1) ((es.getD 0 (0, 0)).2)).ws.length) c24]] := y9
              have hfl : flatX X 10 = [.box b26 24 [.int .i64 ((chR false ((fromR (newR ((z : Int) % 1200)) es).n) ((fromR (newR ((z : Int) % 1200)) es).ws) ((es.getD 0 (0, 0)).1) ((es.getD 0 (0, 0)).2)).n), .slice A23 ((chR false ((fromR (newR ((z : Int) % 1200)) es).n) ((fromR (newR ((z : Int) % 1200)) es).ws) ((es.getD 0 (0, 0)).1) ((es.getD 0 (0, 0)).2)).ws.length) c24]] := by
                show X 0 ++ (X 1 ++ (X 2 ++ (X 3 ++ (X 4 ++ (X 5 ++ (X 6 ++ (X 7 ++ (X 8 ++ (X 9 ++ []))))))))) = _
                rw [y0, y1, y2, y3, y4, y5, y6, y7, y8, y9]; rfl
              rw [hfl] at hM
              obtain ⟨τ, rfl⟩ := sl_canon (σ := σ') (l := [(1, .slice Ae es.length ce), (4, .bool false), (5, .int .i64 ((z : Int) % 1200)), (8, .pointer (some ⟨b11, 0, none⟩)), (12, .pointer (some ⟨b26, 0, none⟩)), (85, .int .i64 ((chR false ((fromR (newR ((z : Int) % 1200)) es).n) ((fromR (newR ((z : Int) % 1200)) es).ws) ((es.getD 0 (0, 0)).1) ((es.getD 0 (0, 0)).2)).e))]) ⟨(hf 1 (by kernel_rfl)).trans rfl, (hf 4 (by kernel_rfl)).trans rfl, (hf 5 (by kernel_rfl)).trans rfl, (hf 8 (by kernel_rfl)).trans rfl, e50, e48, trivial⟩
              replace hM : Mem w0 H w H45 [.box b26 24 [.int .i64 ((chR false ((fromR (newR ((z : Int) % 1200)) es).n) ((fromR (newR ((z : Int) % 1200)) es).ws) ((es.getD 0 (0, 0)).1) ((es.getD 0 (0, 0)).2)).n), .slice A23 ((chR false ((fromR (newR ((z : Int) % 1200)) es).n) ((fromR (newR ((z : Int) % 1200)) es).ws) ((es.getD 0 (0, 0)).1) ((es.getD 0 (0, 0)).2)).ws.length) c24], .box b20 24 [.int .i64 ((fromR (newR ((z : Int) % 1200)) (backK es k)).n), .slice A17 ((fromR (newR ((z : Int) % 1200)) (backK es k)).ws.length) c18], .box b11 24 [.int .i64 ((fromR (newR ((z : Int) % 1200)) es).n), .slice A8 ((fromR (newR ((z : Int) % 1200)) es).ws.length) c9]] := hM
              refine RW.step (Ex.assign (.int .i64 ((chR false ((fromR (newR ((z : Int) % 1200)) es).n) ((fromR (newR ((z : Int) % 1200)) es).ws) ((es.getD 0 (0, 0)).1) ((es.getD 0 (0, 0)).2)).e)) rfl) rfl rfl rfl ?_
              refine RW.nil ?_
              exact And.intro rfl ⟨b26, A23, c24, H45, hle46, sl_canon ⟨rfl, rfl, rfl, rfl, rfl, rfl, trivial⟩, hM, hr25, trivial⟩
          rintro _ _ w ⟨rfl, bz, Az, cz, Hz, hle51, ⟨τ, rfl⟩, hM, hrz, -⟩
          refine CW.seq ?_
          refine CW.seq ?_
          refine CW.region ?_
          refine RW.step (Ex.move (.int .i64 ((chR false (fromR (newR ((z : Int) % 1200)) es).n (fromR (newR ((z : Int) % 1200)) es).ws (es.getD 0 (0, 0)).1 (es.getD 0 (0, 0)).2).e)) rfl) rfl rfl rfl ?_
          refine RW.step (Ex.no (Ex.neq rfl rfl) (fun h => h hog.1)) rfl rfl rfl ?_
          refine RW.nil ?_
          refine CW.cond_false rfl ?_
          refine CW.skip ?_
          refine CW.seq ?_
          refine CW.seq ?_
          refine CW.region ?_
          refine RW.step (Ex.assign (.int .i64 (0)) rfl) rfl rfl rfl ?_
          refine RW.nil ?_
          refine CW.block ?_
          refine CW.loop (β := Nat) (fun (q : Nat) σ w => (∃ τ, σ = sl [(1, .slice Ae es.length ce), (5, .int .i64 ((z : Int) % 1200)), (8, .pointer (some ⟨b11, 0, none⟩)), (12, .pointer (some ⟨bz, 0, none⟩)), (14, .int .i64 ((q : Int)))] τ) ∧ Mem w0 H w Hz [.box bz 24 [.int .i64 ((chR false (fromR (newR ((z : Int) % 1200)) es).n (fromR (newR ((z : Int) % 1200)) es).ws (es.getD 0 (0, 0)).1 (es.getD 0 (0, 0)).2).n), .slice Az ((chR false (fromR (newR ((z : Int) % 1200)) es).n (fromR (newR ((z : Int) % 1200)) es).ws (es.getD 0 (0, 0)).1 (es.getD 0 (0, 0)).2).ws.length) cz], .box b20 24 [.int .i64 ((fromR (newR ((z : Int) % 1200)) (backK es k)).n), .slice A17 ((fromR (newR ((z : Int) % 1200)) (backK es k)).ws.length) c18], .box b11 24 [.int .i64 ((fromR (newR ((z : Int) % 1200)) es).n), .slice A8 ((fromR (newR ((z : Int) % 1200)) es).ws.length) c9]] ∧ ((q : Int) ≤ ((z : Int) % 1200)) ∧ True) (fun q => ((z : Int) % 1200).toNat - q) (0) ⟨sl_canon ⟨rfl, rfl, rfl, rfl, (show Value.int _ _ = Value.int _ _ from congrArg (Value.int _) (by omega)), trivial⟩, hM, (by omega), trivial⟩ ?_
          rintro q _ w ⟨⟨τ, rfl⟩, hM, hq, -⟩
          refine CW.seq ?_
          refine CW.seq ?_
          refine CW.region ?_
          refine RW.step (Ex.move (.int .i64 ((q : Int))) rfl) rfl rfl rfl ?_
          refine RW.step (Ex.move (.int .i64 ((z : Int) % 1200)) rfl) rfl rfl rfl ?_
          refine RW.step (Ex.lss rfl rfl) rfl rfl rfl ?_
          refine RW.nil ?_
          refine CW.cond_dec rfl (fun hc52 => ?_) (fun hc52 => ?_)
          · -- yes: (q : Int) < ((z : Int) % 1200)
            have hgk := hog.2.2 q (by omega)
            refine CW.skip ?_
            refine CW.seq ?_
            refine CW.block ?_
            refine CW.seq ?_
            by_cases hd53 : ((es.getD 0 (0, 0)).1) ≤ (q : Int)
            ·
              refine CW.drawE 19 [.int .i64 ((q : Int)), .slice Ae es.length ce, elp Ae (0 * 2 + 0), elp Ae (0 * 2 + 0), .int .i64 ((es.getD 0 (0, 0)).1), .bool true, .bool true, .int .i64 ((q : Int)), .slice Ae es.length ce, elp Ae (0 * 2 + 0), elp Ae (0 * 2 + 0), .int .i64 ((es.getD 0 (0, 0)).1), .slice Ae es.length ce, elp Ae (0 * 2 + 0), elp Ae (0 * 2 + 1), .int .i64 ((es.getD 0 (0, 0)).2), .int .i64 (((es.getD 0 (0, 0)).1) + ((es.getD 0 (0, 0)).2)), .bool (decide ((q : Int) < (((es.getD 0 (0, 0)).1) + ((es.getD 0 (0, 0)).2)))), .bool (decide ((q : Int) < (((es.getD 0 (0, 0)).1) + ((es.getD 0 (0, 0)).2))))]
                [[(14, none)], [(1, none)], [(94, some 1)], [(95, some 2)], [(96, some 3)], [(93, some 0), (97, some 4)], [(98, some 5)], [(14, none), (99, some 6)], [(1, none), (99, some 6)], [(99, some 6), (101, some 8)], [(99, some 6), (102, some 9)], [(99, some 6), (103, some 10)], [(1, none), (99, some 6)], [(99, some 6), (105, some 12)], [(99, some 6), (106, some 13)], [(99, some 6), (107, some 14)], [(99, some 6), (104, some 11), (108, some 15)], [(99, some 6), (100, some 7), (109, some 16)], [(99, some 6), (110, some 17)]] [(1, none), (5, none), (8, none), (12, none), (14, none), (88, none), (89, none), (90, none), (93, some 0), (94, some 1), (95, some 2), (96, some 3), (97, some 4), (98, some 5), (99, some 6), (100, some 7), (101, some 8), (102, some 9), (103, some 10), (104, some 11), (105, some 12), (106, some 13), (107, some 14), (108, some 15), (109, some 16), (110, some 17), (111, some 18)] (by kernel_rfl) hM (by kernel_rfl) ⟨?_, ?_, ?_, ?_, ?_, ?_, ?_, ?_, ?_, ?_, ?_, ?_, ?_, ?_, ?_, ?_, ?_, ?_, ?_, trivial⟩ ?_
              · exact One.ex (fun H' τ w hled hM => Ex.move (.int .i64 ((q : Int))) rfl) rfl (fun _ => rfl) rfl
              · exact One.ex (fun H' τ w hled hM => Ex.move (.slice Ae es.length ce) rfl) rfl (fun _ => rfl) rfl
              · exact One.ex (fun H' τ w hled hM => Ex.index st44 rfl rfl 0 (hre.ne (by omega)) (by omega) (by omega)) rfl (fun _ => rfl) rfl
              · exact One.ex (fun H' τ w hled hM => Ex.fieldE fa26_0 (hre.ne (by omega)) rfl) rfl (fun _ => rfl) rfl
              · exact One.ex (fun H' τ w hled hM => Ex.loadE hM ((((hle7.trans hle13).trans hle16).trans hle51).trans hled) hre to3 rfl (getE0 (by omega))) rfl (fun _ => rfl) rfl
              · exact One.ex (fun H' τ w hled hM => Ex.yes (Ex.geq rfl rfl) hd53) rfl (fun _ => rfl) rfl
              · exact One.ex (fun H' τ w hled hM => Ex.move (.bool true) rfl) rfl (fun _ => rfl) rfl
              · exact One.ex (fun H' τ w hled hM => Ex.move (.int .i64 ((q : Int))) rfl) rfl (fun _ => rfl) rfl
              · exact One.ex (fun H' τ w hled hM => Ex.move (.slice Ae es.length ce) rfl) rfl (fun _ => rfl) rfl
              · exact One.ex (fun H' τ w hled hM => Ex.index st44 rfl rfl 0 (hre.ne (by omega)) (by omega) (by omega)) rfl (fun _ => rfl) rfl
              · exact One.ex (fun H' τ w hled hM => Ex.fieldE fa26_0 (hre.ne (by omega)) rfl) rfl (fun _ => rfl) rfl
              · exact One.ex (fun H' τ w hled hM => Ex.loadE hM ((((hle7.trans hle13).trans hle16).trans hle51).trans hled) hre to3 rfl (getE0 (by omega))) rfl (fun _ => rfl) rfl
              · exact One.ex (fun H' τ w hled hM => Ex.move (.slice Ae es.length ce) rfl) rfl (fun _ => rfl) rfl
              · exact One.ex (fun H' τ w hled hM => Ex.index st44 rfl rfl 0 (hre.ne (by omega)) (by omega) (by omega)) rfl (fun _ => rfl) rfl
              · exact One.ex (fun H' τ w hled hM => Ex.fieldE fa26_1 (hre.ne (by omega)) rfl) rfl (fun _ => rfl) rfl
              · exact One.ex (fun H' τ w hled hM => Ex.loadE hM ((((hle7.trans hle13).trans hle16).trans hle51).trans hled) hre to3 rfl (getE1 (by omega))) rfl (fun _ => rfl) rfl
              · exact One.ex (fun H' τ w hled hM => Ex.add rfl rfl (by omega) (by omega)) rfl (fun _ => rfl) rfl
              · exact One.ex (fun H' τ w hled hM => Ex.lss rfl rfl) rfl (fun _ => rfl) rfl
              · exact One.ex (fun H' τ w hled hM => Ex.pickT (.bool (decide ((q : Int) < (((es.getD 0 (0, 0)).1) + ((es.getD 0 (0, 0)).2))))) rfl rfl) rfl (fun _ => rfl) rfl
              intro τ w hM
              change RW _ _ _ _ _ _ _ _ (sl [(1, .slice Ae es.length ce), (5, .int .i64 ((z : Int) % 1200)), (8, .pointer (some ⟨b11, 0, none⟩)), (12, .pointer (some ⟨bz, 0, none⟩)), (14, .int .i64 ((q : Int))), (88, .int .i64 ((q : Int))), (89, .int .i64 ((z : Int) % 1200)), (90, .bool (decide ((q : Int) < ((z : Int) % 1200)))), (93, .int .i64 ((q : Int))), (94, .slice Ae es.length ce), (95, elp Ae (0 * 2 + 0)), (96, elp Ae (0 * 2 + 0)), (97, .int .i64 ((es.getD 0 (0, 0)).1)), (98, .bool true), (99, .bool true), (100, .int .i64 ((q : Int))), (101, .slice Ae es.length ce), (102, elp Ae (0 * 2 + 0)), (103, elp Ae (0 * 2 + 0)), (104, .int .i64 ((es.getD 0 (0, 0)).1)), (105, .slice Ae es.length ce), (106, elp Ae (0 * 2 + 0)), (107, elp Ae (0 * 2 + 1)), (108, .int .i64 ((es.getD 0 (0, 0)).2)), (109, .int .i64 (((es.getD 0 (0, 0)).1) + ((es.getD 0 (0, 0)).2))), (110, .bool (decide ((q : Int) < (((es.getD 0 (0, 0)).1) + ((es.getD 0 (0, 0)).2))))), (111, .bool (decide ((q : Int) < (((es.getD 0 (0, 0)).1) + ((es.getD 0 (0, 0)).2)))))] τ) _
              refine RW.step (Ex.assign (.bool (decide ((q : Int) < (((es.getD 0 (0, 0)).1) + ((es.getD 0 (0, 0)).2))))) rfl) rfl rfl rfl ?_
              refine RW.nil ?_
              refine CW.seq ?_
              by_cases hd54 : getB ((fromR (newR ((z : Int) % 1200)) es).n) ((fromR (newR ((z : Int) % 1200)) es).ws) (q : Int) = true
              ·
                by_cases hd55 : (q : Int) < (((es.getD 0 (0, 0)).1) + ((es.getD 0 (0, 0)).2))
                ·
                  refine CW.drawE 20 [.agg #[.int .i64 ((chR false (fromR (newR ((z : Int) % 1200)) es).n (fromR (newR ((z : Int) % 1200)) es).ws (es.getD 0 (0, 0)).1 (es.getD 0 (0, 0)).2).n), .slice Az ((chR false (fromR (newR ((z : Int) % 1200)) es).n (fromR (newR ((z : Int) % 1200)) es).ws (es.getD 0 (0, 0)).1 (es.getD 0 (0, 0)).2).ws.length) cz], .int .i64 ((q : Int)), .bool (decide (getB ((chR false (fromR (newR ((z : Int) % 1200)) es).n (fromR (newR ((z : Int) % 1200)) es).ws (es.getD 0 (0, 0)).1 (es.getD 0 (0, 0)).2).n) ((chR false (fromR (newR ((z : Int) % 1200)) es).n (fromR (newR ((z : Int) % 1200)) es).ws (es.getD 0 (0, 0)).1 (es.getD 0 (0, 0)).2).ws) (q : Int) = true)), .agg #[.int .i64 ((fromR (newR ((z : Int) % 1200)) es).n), .slice A8 ((fromR (newR ((z : Int) % 1200)) es).ws.length) c9], .int .i64 ((q : Int)), .bool true, .bool true, .bool true, .bool false, .bool false, .bool false, .bool false, .bool true, .bool true, .agg #[.int .i64 ((fromR (newR ((z : Int) % 1200)) es).n), .slice A8 ((fromR (newR ((z : Int) % 1200)) es).ws.length) c9], .int .i64 ((q : Int)), .bool true, .bool false, .bool false, .bool false]
                    [[(12, none)], [(14, none)], [(112, some 0), (113, some 1)], [(8, none)], [(14, none)], [(115, some 3), (116, some 4)], [(117, some 5)], [(15, none), (118, some 6)], [(118, some 6), (119, some 7)], [(118, some 6), (120, some 8)], [(114, some 2), (121, some 9)], [(122, some 10)], [(15, none), (123, some 11)], [(123, some 11), (124, some 12)], [(8, none), (125, some 13)], [(14, none), (125, some 13)], [(125, some 13), (126, some 14), (127, some 15)], [(125, some 13), (128, some 16)], [(123, some 11), (125, some 13), (129, some 17)], [(123, some 11), (130, some 18)]] [(1, none), (5, none), (8, none), (12, none), (14, none), (15, none), (88, none), (89, none), (90, none), (93, none), (94, none), (95, none), (96, none), (97, none), (98, none), (99, none), (100, none), (101, none), (102, none), (103, none), (104, none), (105, none), (106, none), (107, none), (108, none), (109, none), (110, none), (111, none), (112, some 0), (113, some 1), (114, some 2), (115, some 3), (116, some 4), (117, some 5), (118, some 6), (119, some 7), (120, some 8), (121, some 9), (122, some 10), (123, some 11), (124, some 12), (125, some 13), (126, some 14), (127, some 15), (128, some 16), (129, some 17), (130, some 18), (131, some 19)] (by kernel_rfl) hM (by kernel_rfl) ⟨?_, ?_, ?_, ?_, ?_, ?_, ?_, ?_, ?_, ?_, ?_, ?_, ?_, ?_, ?_, ?_, ?_, ?_, ?_, ?_, trivial⟩ ?_
                  · exact One.ex (fun H' τ w hled hM => Ex.loadA hM 0 [.int .i64 ((chR false (fromR (newR ((z : Int) % 1200)) es).n (fromR (newR ((z : Int) % 1200)) es).ws (es.getD 0 (0, 0)).1 (es.getD 0 (0, 0)).2).n), .slice Az ((chR false (fromR (newR ((z : Int) % 1200)) es).n (fromR (newR ((z : Int) % 1200)) es).ws (es.getD 0 (0, 0)).1 (es.getD 0 (0, 0)).2).ws.length) cz] ta24 rfl rfl rfl rfl) rfl (fun _ => rfl) rfl
                  · exact One.ex (fun H' τ w hled hM => Ex.move (.int .i64 ((q : Int))) rfl) rfl (fun _ => rfl) rfl
                  · exact One.call (get_ret _ _ ((chR false (fromR (newR ((z : Int) % 1200)) es).n (fromR (newR ((z : Int) % 1200)) es).ws (es.getD 0 (0, 0)).1 (es.getD 0 (0, 0)).2).n) _ ((chR false (fromR (newR ((z : Int) % 1200)) es).n (fromR (newR ((z : Int) % 1200)) es).ws (es.getD 0 (0, 0)).1 (es.getD 0 (0, 0)).2).ws) hrz (q : Int)) en22 (fun _ => rfl) (fun _ => rfl) (fun _ => rfl) rfl
                  · exact One.ex (fun H' τ w hled hM => Ex.loadA hM 2 [.int .i64 ((fromR (newR ((z : Int) % 1200)) es).n), .slice A8 ((fromR (newR ((z : Int) % 1200)) es).ws.length) c9] ta24 rfl rfl rfl rfl) rfl (fun _ => rfl) rfl
                  · exact One.ex (fun H' τ w hled hM => Ex.move (.int .i64 ((q : Int))) rfl) rfl (fun _ => rfl) rfl
                  · exact (One.call (get_ret _ _ ((fromR (newR ((z : Int) % 1200)) es).n) _ ((fromR (newR ((z : Int) % 1200)) es).ws) (hr10.mono ((hle13.trans hle16).trans hle51)) (q : Int)) en22 (fun _ => rfl) (fun _ => rfl) (fun _ => rfl) rfl).cast (congrArg Value.bool (decide_eq_true hd54))
                  · exact One.ex (fun H' τ w hled hM => Ex.move (.bool true) rfl) rfl (fun _ => rfl) rfl
                  · exact One.exT hd55 (fun H' τ w hled hM => Ex.move (.bool (decide ((q : Int) < (((es.getD 0 (0, 0)).1) + ((es.getD 0 (0, 0)).2))))) rfl) rfl (fun _ => rfl) rfl
                  · exact One.ex (fun H' τ w hled hM => Ex.notB (b := true) rfl) rfl (fun _ => rfl) rfl
                  · exact One.ex (fun H' τ w hled hM => Ex.pickT (.bool false) rfl rfl) rfl (fun _ => rfl) rfl
                  · exact One.ex (fun H' τ w hled hM => Ex.no (Ex.neqB Tryd.underlying4 rfl rfl) (fun h => h (by have hgg := hgk; simp_all))) rfl (fun _ => rfl) rfl
                  · exact One.ex (fun H' τ w hled hM => Ex.move (.bool false) rfl) rfl (fun _ => rfl) rfl
                  · exact One.exT hd55 (fun H' τ w hled hM => Ex.move (.bool (decide ((q : Int) < (((es.getD 0 (0, 0)).1) + ((es.getD 0 (0, 0)).2))))) rfl) rfl (fun _ => rfl) rfl
                  · exact One.ex (fun H' τ w hled hM => Ex.move (.bool true) rfl) rfl (fun _ => rfl) rfl
                  · exact One.ex (fun H' τ w hled hM => Ex.loadA hM 2 [.int .i64 ((fromR (newR ((z : Int) % 1200)) es).n), .slice A8 ((fromR (newR ((z : Int) % 1200)) es).ws.length) c9] ta24 rfl rfl rfl rfl) rfl (fun _ => rfl) rfl
                  · exact One.ex (fun H' τ w hled hM => Ex.move (.int .i64 ((q : Int))) rfl) rfl (fun _ => rfl) rfl
                  · exact (One.call (get_ret _ _ ((fromR (newR ((z : Int) % 1200)) es).n) _ ((fromR (newR ((z : Int) % 1200)) es).ws) (hr10.mono ((hle13.trans hle16).trans hle51)) (q : Int)) en22 (fun _ => rfl) (fun _ => rfl) (fun _ => rfl) rfl).cast (congrArg Value.bool (decide_eq_true hd54))
                  · exact One.ex (fun H' τ w hled hM => Ex.notB (b := true) rfl) rfl (fun _ => rfl) rfl
                  · exact One.ex (fun H' τ w hled hM => Ex.pickT (.bool false) rfl rfl) rfl (fun _ => rfl) rfl
                  · exact One.ex (fun H' τ w hled hM => Ex.pickF (.bool false) rfl rfl) rfl (fun _ => rfl) rfl
                  intro τ w hM
                  change RW _ _ _ _ _ _ _ _ (sl [(1, .slice Ae es.length ce), (5, .int .i64 ((z : Int) % 1200)), (8, .pointer (some ⟨b11, 0, none⟩)), (12, .pointer (some ⟨bz, 0, none⟩)), (14, .int .i64 ((q : Int))), (15, .bool (decide ((q : Int) < (((es.getD 0 (0, 0)).1) + ((es.getD 0 (0, 0)).2))))), (88, .int .i64 ((q : Int))), (89, .int .i64 ((z : Int) % 1200)), (90, .bool (decide ((q : Int) < ((z : Int) % 1200)))), (93, .int .i64 ((q : Int))), (94, .slice Ae es.length ce), (95, elp Ae (0 * 2 + 0)), (96, elp Ae (0 * 2 + 0)), (97, .int .i64 ((es.getD 0 (0, 0)).1)), (98, .bool true), (99, .bool true), (100, .int .i64 ((q : Int))), (101, .slice Ae es.length ce), (102, elp Ae (0 * 2 + 0)), (103, elp Ae (0 * 2 + 0)), (104, .int .i64 ((es.getD 0 (0, 0)).1)), (105, .slice Ae es.length ce), (106, elp Ae (0 * 2 + 0)), (107, elp Ae (0 * 2 + 1)), (108, .int .i64 ((es.getD 0 (0, 0)).2)), (109, .int .i64 (((es.getD 0 (0, 0)).1) + ((es.getD 0 (0, 0)).2))), (110, .bool (decide ((q : Int) < (((es.getD 0 (0, 0)).1) + ((es.getD 0 (0, 0)).2))))), (111, .bool (decide ((q : Int) < (((es.getD 0 (0, 0)).1) + ((es.getD 0 (0, 0)).2))))), (112, .agg #[.int .i64 ((chR false (fromR (newR ((z : Int) % 1200)) es).n (fromR (newR ((z : Int) % 1200)) es).ws (es.getD 0 (0, 0)).1 (es.getD 0 (0, 0)).2).n), .slice Az ((chR false (fromR (newR ((z : Int) % 1200)) es).n (fromR (newR ((z : Int) % 1200)) es).ws (es.getD 0 (0, 0)).1 (es.getD 0 (0, 0)).2).ws.length) cz]), (113, .int .i64 ((q : Int))), (114, .bool (decide (getB ((chR false (fromR (newR ((z : Int) % 1200)) es).n (fromR (newR ((z : Int) % 1200)) es).ws (es.getD 0 (0, 0)).1 (es.getD 0 (0, 0)).2).n) ((chR false (fromR (newR ((z : Int) % 1200)) es).n (fromR (newR ((z : Int) % 1200)) es).ws (es.getD 0 (0, 0)).1 (es.getD 0 (0, 0)).2).ws) (q : Int) = true))), (115, .agg #[.int .i64 ((fromR (newR ((z : Int) % 1200)) es).n), .slice A8 ((fromR (newR ((z : Int) % 1200)) es).ws.length) c9]), (116, .int .i64 ((q : Int))), (117, .bool true), (118, .bool true), (119, .bool true), (120, .bool false), (121, .bool false), (122, .bool false), (123, .bool false), (124, .bool true), (125, .bool true), (126, .agg #[.int .i64 ((fromR (newR ((z : Int) % 1200)) es).n), .slice A8 ((fromR (newR ((z : Int) % 1200)) es).ws.length) c9]), (127, .int .i64 ((q : Int))), (128, .bool true), (129, .bool false), (130, .bool false), (131, .bool false)] τ) _
                  refine RW.nil ?_
                  refine CW.cond_false rfl ?_
                  refine CW.skip ?_
                  refine CW.region ?_
                  refine RW.step (Ex.move (.int .i64 ((q : Int))) rfl) rfl rfl rfl ?_
                  refine RW.step (Ex.add rfl rfl (by omega) (by omega)) rfl rfl rfl ?_
                  refine RW.step (Ex.assign (.int .i64 ((q : Int) + 1)) rfl) rfl rfl rfl ?_
                  refine RW.nil ?_
                  refine And.intro rfl (Exists.intro (q + 1) (And.intro ⟨sl_canon ⟨rfl, rfl, rfl, rfl, (show Value.int _ _ = Value.int _ _ from congrArg (Value.int _) (by omega)), trivial⟩, hM, (by omega), trivial⟩ (by omega)))
                ·
                  refine CW.drawE 20 [.agg #[.int .i64 ((chR false (fromR (newR ((z : Int) % 1200)) es).n (fromR (newR ((z : Int) % 1200)) es).ws (es.getD 0 (0, 0)).1 (es.getD 0 (0, 0)).2).n), .slice Az ((chR false (fromR (newR ((z : Int) % 1200)) es).n (fromR (newR ((z : Int) % 1200)) es).ws (es.getD 0 (0, 0)).1 (es.getD 0 (0, 0)).2).ws.length) cz], .int .i64 ((q : Int)), .bool (decide (getB ((chR false (fromR (newR ((z : Int) % 1200)) es).n (fromR (newR ((z : Int) % 1200)) es).ws (es.getD 0 (0, 0)).1 (es.getD 0 (0, 0)).2).n) ((chR false (fromR (newR ((z : Int) % 1200)) es).n (fromR (newR ((z : Int) % 1200)) es).ws (es.getD 0 (0, 0)).1 (es.getD 0 (0, 0)).2).ws) (q : Int) = true)), .agg #[.int .i64 ((fromR (newR ((z : Int) % 1200)) es).n), .slice A8 ((fromR (newR ((z : Int) % 1200)) es).ws.length) c9], .int .i64 ((q : Int)), .bool true, .bool true, .bool false, .bool true, .bool true, .bool false, .bool false, .bool false, .bool false, undef, undef, undef, undef, .bool false, .bool false]
                    [[(12, none)], [(14, none)], [(112, some 0), (113, some 1)], [(8, none)], [(14, none)], [(115, some 3), (116, some 4)], [(117, some 5)], [(15, none), (118, some 6)], [(118, some 6), (119, some 7)], [(118, some 6), (120, some 8)], [(114, some 2), (121, some 9)], [(122, some 10)], [(15, none), (123, some 11)], [(123, some 11), (124, some 12)], [(125, some 13)], [(125, some 13)], [(125, some 13)], [(125, some 13)], [(123, some 11), (125, some 13), (129, some 17)], [(123, some 11), (130, some 18)]] [(1, none), (5, none), (8, none), (12, none), (14, none), (15, none), (88, none), (89, none), (90, none), (93, none), (94, none), (95, none), (96, none), (97, none), (98, none), (99, none), (100, none), (101, none), (102, none), (103, none), (104, none), (105, none), (106, none), (107, none), (108, none), (109, none), (110, none), (111, none), (112, some 0), (113, some 1), (114, some 2), (115, some 3), (116, some 4), (117, some 5), (118, some 6), (119, some 7), (120, some 8), (121, some 9), (122, some 10), (123, some 11), (124, some 12), (125, some 13), (126, some 14), (127, some 15), (128, some 16), (129, some 17), (130, some 18), (131, some 19)] (by kernel_rfl) hM (by kernel_rfl) ⟨?_, ?_, ?_, ?_, ?_, ?_, ?_, ?_, ?_, ?_, ?_, ?_, ?_, ?_, ?_, ?_, ?_, ?_, ?_, ?_, trivial⟩ ?_
                  · exact One.ex (fun H' τ w hled hM => Ex.loadA hM 0 [.int .i64 ((chR false (fromR (newR ((z : Int) % 1200)) es).n (fromR (newR ((z : Int) % 1200)) es).ws (es.getD 0 (0, 0)).1 (es.getD 0 (0, 0)).2).n), .slice Az ((chR false (fromR (newR ((z : Int) % 1200)) es).n (fromR (newR ((z : Int) % 1200)) es).ws (es.getD 0 (0, 0)).1 (es.getD 0 (0, 0)).2).ws.length) cz] ta24 rfl rfl rfl rfl) rfl (fun _ => rfl) rfl
                  · exact One.ex (fun H' τ w hled hM => Ex.move (.int .i64 ((q : Int))) rfl) rfl (fun _ => rfl) rfl
                  · exact One.call (get_ret _ _ ((chR false (fromR (newR ((z : Int) % 1200)) es).n (fromR (newR ((z : Int) % 1200)) es).ws (es.getD 0 (0, 0)).1 (es.getD 0 (0, 0)).2).n) _ ((chR false (fromR (newR ((z : Int) % 1200)) es).n (fromR (newR ((z : Int) % 1200)) es).ws (es.getD 0 (0, 0)).1 (es.getD 0 (0, 0)).2).ws) hrz (q : Int)) en22 (fun _ => rfl) (fun _ => rfl) (fun _ => rfl) rfl
                  · exact One.ex (fun H' τ w hled hM => Ex.loadA hM 2 [.int .i64 ((fromR (newR ((z : Int) % 1200)) es).n), .slice A8 ((fromR (newR ((z : Int) % 1200)) es).ws.length) c9] ta24 rfl rfl rfl rfl) rfl (fun _ => rfl) rfl
                  · exact One.ex (fun H' τ w hled hM => Ex.move (.int .i64 ((q : Int))) rfl) rfl (fun _ => rfl) rfl
                  · exact (One.call (get_ret _ _ ((fromR (newR ((z : Int) % 1200)) es).n) _ ((fromR (newR ((z : Int) % 1200)) es).ws) (hr10.mono ((hle13.trans hle16).trans hle51)) (q : Int)) en22 (fun _ => rfl) (fun _ => rfl) (fun _ => rfl) rfl).cast (congrArg Value.bool (decide_eq_true hd54))
                  · exact One.ex (fun H' τ w hled hM => Ex.move (.bool true) rfl) rfl (fun _ => rfl) rfl
                  · exact One.exF hd55 (fun H' τ w hled hM => Ex.move (.bool (decide ((q : Int) < (((es.getD 0 (0, 0)).1) + ((es.getD 0 (0, 0)).2))))) rfl) rfl (fun _ => rfl) rfl
                  · exact One.ex (fun H' τ w hled hM => Ex.notB (b := false) rfl) rfl (fun _ => rfl) rfl
                  · exact One.ex (fun H' τ w hled hM => Ex.pickT (.bool true) rfl rfl) rfl (fun _ => rfl) rfl
                  · exact One.ex (fun H' τ w hled hM => Ex.no (Ex.neqB Tryd.underlying4 rfl rfl) (fun h => h (by have hgg := hgk; simp_all))) rfl (fun _ => rfl) rfl
                  · exact One.ex (fun H' τ w hled hM => Ex.move (.bool false) rfl) rfl (fun _ => rfl) rfl
                  · exact One.exF hd55 (fun H' τ w hled hM => Ex.move (.bool (decide ((q : Int) < (((es.getD 0 (0, 0)).1) + ((es.getD 0 (0, 0)).2))))) rfl) rfl (fun _ => rfl) rfl
                  · exact One.ex (fun H' τ w hled hM => Ex.move (.bool false) rfl) rfl (fun _ => rfl) rfl
                  · exact One.pass (fun _ => rfl) rfl
                  · exact One.pass (fun _ => rfl) rfl
                  · exact One.pass (fun _ => rfl) rfl
                  · exact One.pass (fun _ => rfl) rfl
                  · exact One.ex (fun H' τ w hled hM => Ex.pickF (.bool false) rfl rfl) rfl (fun _ => rfl) rfl
                  · exact One.ex (fun H' τ w hled hM => Ex.pickF (.bool false) rfl rfl) rfl (fun _ => rfl) rfl
                  intro τ w hM
                  change RW _ _ _ _ _ _ _ _ (sl [(1, .slice Ae es.length ce), (5, .int .i64 ((z : Int) % 1200)), (8, .pointer (some ⟨b11, 0, none⟩)), (12, .pointer (some ⟨bz, 0, none⟩)), (14, .int .i64 ((q : Int))), (15, .bool (decide ((q : Int) < (((es.getD 0 (0, 0)).1) + ((es.getD 0 (0, 0)).2))))), (88, .int .i64 ((q : Int))), (89, .int .i64 ((z : Int) % 1200)), (90, .bool (decide ((q : Int) < ((z : Int) % 1200)))), (93, .int .i64 ((q : Int))), (94, .slice Ae es.length ce), (95, elp Ae (0 * 2 + 0)), (96, elp Ae (0 * 2 + 0)), (97, .int .i64 ((es.getD 0 (0, 0)).1)), (98, .bool true), (99, .bool true), (100, .int .i64 ((q : Int))), (101, .slice Ae es.length ce), (102, elp Ae (0 * 2 + 0)), (103, elp Ae (0 * 2 + 0)), (104, .int .i64 ((es.getD 0 (0, 0)).1)), (105, .slice Ae es.length ce), (106, elp Ae (0 * 2 + 0)), (107, elp Ae (0 * 2 + 1)), (108, .int .i64 ((es.getD 0 (0, 0)).2)), (109, .int .i64 (((es.getD 0 (0, 0)).1) + ((es.getD 0 (0, 0)).2))), (110, .bool (decide ((q : Int) < (((es.getD 0 (0, 0)).1) + ((es.getD 0 (0, 0)).2))))), (111, .bool (decide ((q : Int) < (((es.getD 0 (0, 0)).1) + ((es.getD 0 (0, 0)).2))))), (112, .agg #[.int .i64 ((chR false (fromR (newR ((z : Int) % 1200)) es).n (fromR (newR ((z : Int) % 1200)) es).ws (es.getD 0 (0, 0)).1 (es.getD 0 (0, 0)).2).n), .slice Az ((chR false (fromR (newR ((z : Int) % 1200)) es).n (fromR (newR ((z : Int) % 1200)) es).ws (es.getD 0 (0, 0)).1 (es.getD 0 (0, 0)).2).ws.length) cz]), (113, .int .i64 ((q : Int))), (114, .bool (decide (getB ((chR false (fromR (newR ((z : Int) % 1200)) es).n (fromR (newR ((z : Int) % 1200)) es).ws (es.getD 0 (0, 0)).1 (es.getD 0 (0, 0)).2).n) ((chR false (fromR (newR ((z : Int) % 1200)) es).n (fromR (newR ((z : Int) % 1200)) es).ws (es.getD 0 (0, 0)).1 (es.getD 0 (0, 0)).2).ws) (q : Int) = true))), (115, .agg #[.int .i64 ((fromR (newR ((z : Int) % 1200)) es).n), .slice A8 ((fromR (newR ((z : Int) % 1200)) es).ws.length) c9]), (116, .int .i64 ((q : Int))), (117, .bool true), (118, .bool true), (119, .bool false), (120, .bool true), (121, .bool true), (122, .bool false), (123, .bool false), (124, .bool false), (125, .bool false), (126, undef), (127, undef), (128, undef), (129, undef), (130, .bool false), (131, .bool false)] τ) _
                  refine RW.nil ?_
                  refine CW.cond_false rfl ?_
                  refine CW.skip ?_
                  refine CW.region ?_
                  refine RW.step (Ex.move (.int .i64 ((q : Int))) rfl) rfl rfl rfl ?_
                  refine RW.step (Ex.add rfl rfl (by omega) (by omega)) rfl rfl rfl ?_
                  refine RW.step (Ex.assign (.int .i64 ((q : Int) + 1)) rfl) rfl rfl rfl ?_
                  refine RW.nil ?_
                  refine And.intro rfl (Exists.intro (q + 1) (And.intro ⟨sl_canon ⟨rfl, rfl, rfl, rfl, (show Value.int _ _ = Value.int _ _ from congrArg (Value.int _) (by omega)), trivial⟩, hM, (by omega), trivial⟩ (by omega)))
              ·
                by_cases hd56 : (q : Int) < (((es.getD 0 (0, 0)).1) + ((es.getD 0 (0, 0)).2))
                ·
                  exact absurd (hgk.2 ⟨hd53, hd56⟩) hd54
                ·
                  refine CW.drawE 20 [.agg #[.int .i64 ((chR false (fromR (newR ((z : Int) % 1200)) es).n (fromR (newR ((z : Int) % 1200)) es).ws (es.getD 0 (0, 0)).1 (es.getD 0 (0, 0)).2).n), .slice Az ((chR false (fromR (newR ((z : Int) % 1200)) es).n (fromR (newR ((z : Int) % 1200)) es).ws (es.getD 0 (0, 0)).1 (es.getD 0 (0, 0)).2).ws.length) cz], .int .i64 ((q : Int)), .bool (decide (getB ((chR false (fromR (newR ((z : Int) % 1200)) es).n (fromR (newR ((z : Int) % 1200)) es).ws (es.getD 0 (0, 0)).1 (es.getD 0 (0, 0)).2).n) ((chR false (fromR (newR ((z : Int) % 1200)) es).n (fromR (newR ((z : Int) % 1200)) es).ws (es.getD 0 (0, 0)).1 (es.getD 0 (0, 0)).2).ws) (q : Int) = true)), .agg #[.int .i64 ((fromR (newR ((z : Int) % 1200)) es).n), .slice A8 ((fromR (newR ((z : Int) % 1200)) es).ws.length) c9], .int .i64 ((q : Int)), .bool false, .bool false, undef, undef, .bool false, .bool false, .bool false, .bool false, .bool false, undef, undef, undef, undef, .bool false, .bool false]
                    [[(12, none)], [(14, none)], [(112, some 0), (113, some 1)], [(8, none)], [(14, none)], [(115, some 3), (116, some 4)], [(117, some 5)], [(118, some 6)], [(118, some 6)], [(118, some 6), (120, some 8)], [(114, some 2), (121, some 9)], [(122, some 10)], [(15, none), (123, some 11)], [(123, some 11), (124, some 12)], [(125, some 13)], [(125, some 13)], [(125, some 13)], [(125, some 13)], [(123, some 11), (125, some 13), (129, some 17)], [(123, some 11), (130, some 18)]] [(1, none), (5, none), (8, none), (12, none), (14, none), (15, none), (88, none), (89, none), (90, none), (93, none), (94, none), (95, none), (96, none), (97, none), (98, none), (99, none), (100, none), (101, none), (102, none), (103, none), (104, none), (105, none), (106, none), (107, none), (108, none), (109, none), (110, none), (111, none), (112, some 0), (113, some 1), (114, some 2), (115, some 3), (116, some 4), (117, some 5), (118, some 6), (119, some 7), (120, some 8), (121, some 9), (122, some 10), (123, some 11), (124, some 12), (125, some 13), (126, some 14), (127, some 15), (128, some 16), (129, some 17), (130, some 18), (131, some 19)] (by kernel_rfl) hM (by kernel_rfl) ⟨?_, ?_, ?_, ?_, ?_, ?_, ?_, ?_, ?_, ?_, ?_, ?_, ?_, ?_, ?_, ?_, ?_, ?_, ?_, ?_, trivial⟩ ?_
                  · exact One.ex (fun H' τ w hled hM => Ex.loadA hM 0 [.int .i64 ((chR false (fromR (newR ((z : Int) % 1200)) es).n (fromR (newR ((z : Int) % 1200)) es).ws (es.getD 0 (0, 0)).1 (es.getD 0 (0, 0)).2).n), .slice Az ((chR false (fromR (newR ((z : Int) % 1200)) es).n (fromR (newR ((z : Int) % 1200)) es).ws (es.getD 0 (0, 0)).1 (es.getD 0 (0, 0)).2).ws.length) cz] ta24 rfl rfl rfl rfl) rfl (fun _ => rfl) rfl
                  · exact One.ex (fun H' τ w hled hM => Ex.move (.int .i64 ((q : Int))) rfl) rfl (fun _ => rfl) rfl
                  · exact One.call (get_ret _ _ ((chR false (fromR (newR ((z : Int) % 1200)) es).n (fromR (newR ((z : Int) % 1200)) es).ws (es.getD 0 (0, 0)).1 (es.getD 0 (0, 0)).2).n) _ ((chR false (fromR (newR ((z : Int) % 1200)) es).n (fromR (newR ((z : Int) % 1200)) es).ws (es.getD 0 (0, 0)).1 (es.getD 0 (0, 0)).2).ws) hrz (q : Int)) en22 (fun _ => rfl) (fun _ => rfl) (fun _ => rfl) rfl
                  · exact One.ex (fun H' τ w hled hM => Ex.loadA hM 2 [.int .i64 ((fromR (newR ((z : Int) % 1200)) es).n), .slice A8 ((fromR (newR ((z : Int) % 1200)) es).ws.length) c9] ta24 rfl rfl rfl rfl) rfl (fun _ => rfl) rfl
                  · exact One.ex (fun H' τ w hled hM => Ex.move (.int .i64 ((q : Int))) rfl) rfl (fun _ => rfl) rfl
                  · exact (One.call (get_ret _ _ ((fromR (newR ((z : Int) % 1200)) es).n) _ ((fromR (newR ((z : Int) % 1200)) es).ws) (hr10.mono ((hle13.trans hle16).trans hle51)) (q : Int)) en22 (fun _ => rfl) (fun _ => rfl) (fun _ => rfl) rfl).cast (congrArg Value.bool (decide_eq_false hd54))
                  · exact One.ex (fun H' τ w hled hM => Ex.move (.bool false) rfl) rfl (fun _ => rfl) rfl
                  · exact One.pass (fun _ => rfl) rfl
                  · exact One.pass (fun _ => rfl) rfl
                  · exact One.ex (fun H' τ w hled hM => Ex.pickF (.bool false) rfl rfl) rfl (fun _ => rfl) rfl
                  · exact One.ex (fun H' τ w hled hM => Ex.no (Ex.neqB Tryd.underlying4 rfl rfl) (fun h => h (by have hgg := hgk; simp_all))) rfl (fun _ => rfl) rfl
                  · exact One.ex (fun H' τ w hled hM => Ex.move (.bool false) rfl) rfl (fun _ => rfl) rfl
                  · exact One.exF hd56 (fun H' τ w hled hM => Ex.move (.bool (decide ((q : Int) < (((es.getD 0 (0, 0)).1) + ((es.getD 0 (0, 0)).2))))) rfl) rfl (fun _ => rfl) rfl
                  · exact One.ex (fun H' τ w hled hM => Ex.move (.bool false) rfl) rfl (fun _ => rfl) rfl
                  · exact One.pass (fun _ => rfl) rfl
                  · exact One.pass (fun _ => rfl) rfl
                  · exact One.pass (fun _ => rfl) rfl
                  · exact One.pass (fun _ => rfl) rfl
                  · exact One.ex (fun H' τ w hled hM => Ex.pickF (.bool false) rfl rfl) rfl (fun _ => rfl) rfl
                  · exact One.ex (fun H' τ w hled hM => Ex.pickF (.bool false) rfl rfl) rfl (fun _ => rfl) rfl
                  intro τ w hM
                  change RW _ _ _ _ _ _ _ _ (sl [(1, .slice Ae es.length ce), (5, .int .i64 ((z : Int) % 1200)), (8, .pointer (some ⟨b11, 0, none⟩)), (12, .pointer (some ⟨bz, 0, none⟩)), (14, .int .i64 ((q : Int))), (15, .bool (decide ((q : Int) < (((es.getD 0 (0, 0)).1) + ((es.getD 0 (0, 0)).2))))), (88, .int .i64 ((q : Int))), (89, .int .i64 ((z : Int) % 1200)), (90, .bool (decide ((q : Int) < ((z : Int) % 1200)))), (93, .int .i64 ((q : Int))), (94, .slice Ae es.length ce), (95, elp Ae (0 * 2 + 0)), (96, elp Ae (0 * 2 + 0)), (97, .int .i64 ((es.getD 0 (0, 0)).1)), (98, .bool true), (99, .bool true), (100, .int .i64 ((q : Int))), (101, .slice Ae es.length ce), (102, elp Ae (0 * 2 + 0)), (103, elp Ae (0 * 2 + 0)), (104, .int .i64 ((es.getD 0 (0, 0)).1)), (105, .slice Ae es.length ce), (106, elp Ae (0 * 2 + 0)), (107, elp Ae (0 * 2 + 1)), (108, .int .i64 ((es.getD 0 (0, 0)).2)), (109, .int .i64 (((es.getD 0 (0, 0)).1) + ((es.getD 0 (0, 0)).2))), (110, .bool (decide ((q : Int) < (((es.getD 0 (0, 0)).1) + ((es.getD 0 (0, 0)).2))))), (111, .bool (decide ((q : Int) < (((es.getD 0 (0, 0)).1) + ((es.getD 0 (0, 0)).2))))), (112, .agg #[.int .i64 ((chR false (fromR (newR ((z : Int) % 1200)) es).n (fromR (newR ((z : Int) % 1200)) es).ws (es.getD 0 (0, 0)).1 (es.getD 0 (0, 0)).2).n), .slice Az ((chR false (fromR (newR ((z : Int) % 1200)) es).n (fromR (newR ((z : Int) % 1200)) es).ws (es.getD 0 (0, 0)).1 (es.getD 0 (0, 0)).2).ws.length) cz]), (113, .int .i64 ((q : Int))), (114, .bool (decide (getB ((chR false (fromR (newR ((z : Int) % 1200)) es).n (fromR (newR ((z : Int) % 1200)) es).ws (es.getD 0 (0, 0)).1 (es.getD 0 (0, 0)).2).n) ((chR false (fromR (newR ((z : Int) % 1200)) es).n (fromR (newR ((z : Int) % 1200)) es).ws (es.getD 0 (0, 0)).1 (es.getD 0 (0, 0)).2).ws) (q : Int) = true))), (115, .agg #[.int .i64 ((fromR (newR ((z : Int) % 1200)) es).n), .slice A8 ((fromR (newR ((z : Int) % 1200)) es).ws.length) c9]), (116, .int .i64 ((q : Int))), (117, .bool false), (118, .bool false), (119, undef), (120, undef), (121, .bool false), (122, .bool false), (123, .bool false), (124, .bool false), (125, .bool false), (126, undef), (127, undef), (128, undef), (129, undef), (130, .bool false), (131, .bool false)] τ) _
                  refine RW.nil ?_
                  refine CW.cond_false rfl ?_
                  refine CW.skip ?_
                  refine CW.region ?_
                  refine RW.step (Ex.move (.int .i64 ((q : Int))) rfl) rfl rfl rfl ?_
                  refine RW.step (Ex.add rfl rfl (by omega) (by omega)) rfl rfl rfl ?_
                  refine RW.step (Ex.assign (.int .i64 ((q : Int) + 1)) rfl) rfl rfl rfl ?_
                  refine RW.nil ?_
                  refine And.intro rfl (Exists.intro (q + 1) (And.intro ⟨sl_canon ⟨rfl, rfl, rfl, rfl, (show Value.int _ _ = Value.int _ _ from congrArg (Value.int _) (by omega)), trivial⟩, hM, (by omega), trivial⟩ (by omega)))
            ·
              refine CW.drawE 19 [.int .i64 ((q : Int)), .slice Ae es.length ce, elp Ae (0 * 2 + 0), elp Ae (0 * 2 + 0), .int .i64 ((es.getD 0 (0, 0)).1), .bool false, .bool false, undef, undef, undef, undef, undef, undef, undef, undef, undef, undef, undef, .bool false]
                [[(14, none)], [(1, none)], [(94, some 1)], [(95, some 2)], [(96, some 3)], [(93, some 0), (97, some 4)], [(98, some 5)], [(99, some 6)], [(99, some 6)], [(99, some 6)], [(99, some 6)], [(99, some 6)], [(99, some 6)], [(99, some 6)], [(99, some 6)], [(99, some 6)], [(99, some 6)], [(99, some 6)], [(99, some 6), (110, some 17)]] [(1, none), (5, none), (8, none), (12, none), (14, none), (88, none), (89, none), (90, none), (93, some 0), (94, some 1), (95, some 2), (96, some 3), (97, some 4), (98, some 5), (99, some 6), (100, some 7), (101, some 8), (102, some 9), (103, some 10), (104, some 11), (105, some 12), (106, some 13), (107, some 14), (108, some 15), (109, some 16), (110, some 17), (111, some 18)] (by kernel_rfl) hM (by kernel_rfl) ⟨?_, ?_, ?_, ?_, ?_, ?_, ?_, ?_, ?_, ?_, ?_, ?_, ?_, ?_, ?_, ?_, ?_, ?_, ?_, trivial⟩ ?_
              · exact One.ex (fun H' τ w hled hM => Ex.move (.int .i64 ((q : Int))) rfl) rfl (fun _ => rfl) rfl
              · exact One.ex (fun H' τ w hled hM => Ex.move (.slice Ae es.length ce) rfl) rfl (fun _ => rfl) rfl
              · exact One.ex (fun H' τ w hled hM => Ex.index st44 rfl rfl 0 (hre.ne (by omega)) (by omega) (by omega)) rfl (fun _ => rfl) rfl
              · exact One.ex (fun H' τ w hled hM => Ex.fieldE fa26_0 (hre.ne (by omega)) rfl) rfl (fun _ => rfl) rfl
              · exact One.ex (fun H' τ w hled hM => Ex.loadE hM ((((hle7.trans hle13).trans hle16).trans hle51).trans hled) hre to3 rfl (getE0 (by omega))) rfl (fun _ => rfl) rfl
              · exact One.ex (fun H' τ w hled hM => Ex.no (Ex.geq rfl rfl) hd53) rfl (fun _ => rfl) rfl
              · exact One.ex (fun H' τ w hled hM => Ex.move (.bool false) rfl) rfl (fun _ => rfl) rfl
              · exact One.pass (fun _ => rfl) rfl
              · exact One.pass (fun _ => rfl) rfl
              · exact One.pass (fun _ => rfl) rfl
              · exact One.pass (fun _ => rfl) rfl
              · exact One.pass (fun _ => rfl) rfl
              · exact One.pass (fun _ => rfl) rfl
              · exact One.pass (fun _ => rfl) rfl
              · exact One.pass (fun _ => rfl) rfl
              · exact One.pass (fun _ => rfl) rfl
              · exact One.pass (fun _ => rfl) rfl
              · exact One.pass (fun _ => rfl) rfl
              · exact One.ex (fun H' τ w hled hM => Ex.pickF (.bool false) rfl rfl) rfl (fun _ => rfl) rfl
              intro τ w hM
              change RW _ _ _ _ _ _ _ _ (sl [(1, .slice Ae es.length ce), (5, .int .i64 ((z : Int) % 1200)), (8, .pointer (some ⟨b11, 0, none⟩)), (12, .pointer (some ⟨bz, 0, none⟩)), (14, .int .i64 ((q : Int))), (88, .int .i64 ((q : Int))), (89, .int .i64 ((z : Int) % 1200)), (90, .bool (decide ((q : Int) < ((z : Int) % 1200)))), (93, .int .i64 ((q : Int))), (94, .slice Ae es.length ce), (95, elp Ae (0 * 2 + 0)), (96, elp Ae (0 * 2 + 0)), (97, .int .i64 ((es.getD 0 (0, 0)).1)), (98, .bool false), (99, .bool false), (100, undef), (101, undef), (102, undef), (103, undef), (104, undef), (105, undef), (106, undef), (107, undef), (108, undef), (109, undef), (110, undef), (111, .bool false)] τ) _
              refine RW.step (Ex.assign (.bool false) rfl) rfl rfl rfl ?_
              refine RW.nil ?_
              refine CW.seq ?_
              by_cases hd57 : getB ((fromR (newR ((z : Int) % 1200)) es).n) ((fromR (newR ((z : Int) % 1200)) es).ws) (q : Int) = true
              ·
                refine CW.drawE 20 [.agg #[.int .i64 ((chR false (fromR (newR ((z : Int) % 1200)) es).n (fromR (newR ((z : Int) % 1200)) es).ws (es.getD 0 (0, 0)).1 (es.getD 0 (0, 0)).2).n), .slice Az ((chR false (fromR (newR ((z : Int) % 1200)) es).n (fromR (newR ((z : Int) % 1200)) es).ws (es.getD 0 (0, 0)).1 (es.getD 0 (0, 0)).2).ws.length) cz], .int .i64 ((q : Int)), .bool (decide (getB ((chR false (fromR (newR ((z : Int) % 1200)) es).n (fromR (newR ((z : Int) % 1200)) es).ws (es.getD 0 (0, 0)).1 (es.getD 0 (0, 0)).2).n) ((chR false (fromR (newR ((z : Int) % 1200)) es).n (fromR (newR ((z : Int) % 1200)) es).ws (es.getD 0 (0, 0)).1 (es.getD 0 (0, 0)).2).ws) (q : Int) = true)), .agg #[.int .i64 ((fromR (newR ((z : Int) % 1200)) es).n), .slice A8 ((fromR (newR ((z : Int) % 1200)) es).ws.length) c9], .int .i64 ((q : Int)), .bool true, .bool true, .bool false, .bool true, .bool true, .bool false, .bool false, .bool false, .bool false, undef, undef, undef, undef, .bool false, .bool false]
                  [[(12, none)], [(14, none)], [(112, some 0), (113, some 1)], [(8, none)], [(14, none)], [(115, some 3), (116, some 4)], [(117, some 5)], [(15, none), (118, some 6)], [(118, some 6), (119, some 7)], [(118, some 6), (120, some 8)], [(114, some 2), (121, some 9)], [(122, some 10)], [(15, none), (123, some 11)], [(123, some 11), (124, some 12)], [(125, some 13)], [(125, some 13)], [(125, some 13)], [(125, some 13)], [(123, some 11), (125, some 13), (129, some 17)], [(123, some 11), (130, some 18)]] [(1, none), (5, none), (8, none), (12, none), (14, none), (15, none), (88, none), (89, none), (90, none), (93, none), (94, none), (95, none), (96, none), (97, none), (98, none), (99, none), (100, none), (101, none), (102, none), (103, none), (104, none), (105, none), (106, none), (107, none), (108, none), (109, none), (110, none), (111, none), (112, some 0), (113, some 1), (114, some 2), (115, some 3), (116, some 4), (117, some 5), (118, some 6), (119, some 7), (120, some 8), (121, some 9), (122, some 10), (123, some 11), (124, some 12), (125, some 13), (126, some 14), (127, some 15), (128, some 16), (129, some 17), (130, some 18), (131, some 19)] (by kernel_rfl) hM (by kernel_rfl) ⟨?_, ?_, ?_, ?_, ?_, ?_, ?_, ?_, ?_, ?_, ?_, ?_, ?_, ?_, ?_, ?_, ?_, ?_, ?_, ?_, trivial⟩ ?_
                · exact One.ex (fun H' τ w hled hM => Ex.loadA hM 0 [.int .i64 ((chR false (fromR (newR ((z : Int) % 1200)) es).n (fromR (newR ((z : Int) % 1200)) es).ws (es.getD 0 (0, 0)).1 (es.getD 0 (0, 0)).2).n), .slice Az ((chR false (fromR (newR ((z : Int) % 1200)) es).n (fromR (newR ((z : Int) % 1200)) es).ws (es.getD 0 (0, 0)).1 (es.getD 0 (0, 0)).2).ws.length) cz] ta24 rfl rfl rfl rfl) rfl (fun _ => rfl) rfl
                · exact One.ex (fun H' τ w hled hM => Ex.move (.int .i64 ((q : Int))) rfl) rfl (fun _ => rfl) rfl
                · exact One.call (get_ret _ _ ((chR false (fromR (newR ((z : Int) % 1200)) es).n (fromR (newR ((z : Int) % 1200)) es).ws (es.getD 0 (0, 0)).1 (es.getD 0 (0, 0)).2).n) _ ((chR false (fromR (newR ((z : Int) % 1200)) es).n (fromR (newR ((z : Int) % 1200)) es).ws (es.getD 0 (0, 0)).1 (es.getD 0 (0, 0)).2).ws) hrz (q : Int)) en22 (fun _ => rfl) (fun _ => rfl) (fun _ => rfl) rfl
                · exact One.ex (fun H' τ w hled hM => Ex.loadA hM 2 [.int .i64 ((fromR (newR ((z : Int) % 1200)) es).n), .slice A8 ((fromR (newR ((z : Int) % 1200)) es).ws.length) c9] ta24 rfl rfl rfl rfl) rfl (fun _ => rfl) rfl
                · exact One.ex (fun H' τ w hled hM => Ex.move (.int .i64 ((q : Int))) rfl) rfl (fun _ => rfl) rfl
                · exact (One.call (get_ret _ _ ((fromR (newR ((z : Int) % 1200)) es).n) _ ((fromR (newR ((z : Int) % 1200)) es).ws) (hr10.mono ((hle13.trans hle16).trans hle51)) (q : Int)) en22 (fun _ => rfl) (fun _ => rfl) (fun _ => rfl) rfl).cast (congrArg Value.bool (decide_eq_true hd57))
                · exact One.ex (fun H' τ w hled hM => Ex.move (.bool true) rfl) rfl (fun _ => rfl) rfl
                · exact One.ex (fun H' τ w hled hM => Ex.move (.bool false) rfl) rfl (fun _ => rfl) rfl
                · exact One.ex (fun H' τ w hled hM => Ex.notB (b := false) rfl) rfl (fun _ => rfl) rfl
                · exact One.ex (fun H' τ w hled hM => Ex.pickT (.bool true) rfl rfl) rfl (fun _ => rfl) rfl
                · exact One.ex (fun H' τ w hled hM => Ex.no (Ex.neqB Tryd.underlying4 rfl rfl) (fun h => h (by have hgg := hgk; simp_all))) rfl (fun _ => rfl) rfl
                · exact One.ex (fun H' τ w hled hM => Ex.move (.bool false) rfl) rfl (fun _ => rfl) rfl
                · exact One.ex (fun H' τ w hled hM => Ex.move (.bool false) rfl) rfl (fun _ => rfl) rfl
                · exact One.ex (fun H' τ w hled hM => Ex.move (.bool false) rfl) rfl (fun _ => rfl) rfl
                · exact One.pass (fun _ => rfl) rfl
                · exact One.pass (fun _ => rfl) rfl
                · exact One.pass (fun _ => rfl) rfl
                · exact One.pass (fun _ => rfl) rfl
                · exact One.ex (fun H' τ w hled hM => Ex.pickF (.bool false) rfl rfl) rfl (fun _ => rfl) rfl
                · exact One.ex (fun H' τ w hled hM => Ex.pickF (.bool false) rfl rfl) rfl (fun _ => rfl) rfl
                intro τ w hM
                change RW _ _ _ _ _ _ _ _ (sl [(1, .slice Ae es.length ce), (5, .int .i64 ((z : Int) % 1200)), (8, .pointer (some ⟨b11, 0, none⟩)), (12, .pointer (some ⟨bz, 0, none⟩)), (14, .int .i64 ((q : Int))), (15, .bool false), (88, .int .i64 ((q : Int))), (89, .int .i64 ((z : Int) % 1200)), (90, .bool (decide ((q : Int) < ((z : Int) % 1200)))), (93, .int .i64 ((q : Int))), (94, .slice Ae es.length ce), (95, elp Ae (0 * 2 + 0)), (96, elp Ae (0 * 2 + 0)), (97, .int .i64 ((es.getD 0 (0, 0)).1)), (98, .bool false), (99, .bool false), (100, undef), (101, undef), (102, undef), (103, undef), (104, undef), (105, undef), (106, undef), (107, undef), (108, undef), (109, undef), (110, undef), (111, .bool false), (112, .agg #[.int .i64 ((chR false (fromR (newR ((z : Int) % 1200)) es).n (fromR (newR ((z : Int) % 1200)) es).ws (es.getD 0 (0, 0)).1 (es.getD 0 (0, 0)).2).n), .slice Az ((chR false (fromR (newR ((z : Int) % 1200)) es).n (fromR (newR ((z : Int) % 1200)) es).ws (es.getD 0 (0, 0)).1 (es.getD 0 (0, 0)).2).ws.length) cz]), (113, .int .i64 ((q : Int))), (114, .bool (decide (getB ((chR false (fromR (newR ((z : Int) % 1200)) es).n (fromR (newR ((z : Int) % 1200)) es).ws (es.getD 0 (0, 0)).1 (es.getD 0 (0, 0)).2).n) ((chR false (fromR (newR ((z : Int) % 1200)) es).n (fromR (newR ((z : Int) % 1200)) es).ws (es.getD 0 (0, 0)).1 (es.getD 0 (0, 0)).2).ws) (q : Int) = true))), (115, .agg #[.int .i64 ((fromR (newR ((z : Int) % 1200)) es).n), .slice A8 ((fromR (newR ((z : Int) % 1200)) es).ws.length) c9]), (116, .int .i64 ((q : Int))), (117, .bool true), (118, .bool true), (119, .bool false), (120, .bool true), (121, .bool true), (122, .bool false), (123, .bool false), (124, .bool false), (125, .bool false), (126, undef), (127, undef), (128, undef), (129, undef), (130, .bool false), (131, .bool false)] τ) _
                refine RW.nil ?_
                refine CW.cond_false rfl ?_
                refine CW.skip ?_
                refine CW.region ?_
                refine RW.step (Ex.move (.int .i64 ((q : Int))) rfl) rfl rfl rfl ?_
                refine RW.step (Ex.add rfl rfl (by omega) (by omega)) rfl rfl rfl ?_
                refine RW.step (Ex.assign (.int .i64 ((q : Int) + 1)) rfl) rfl rfl rfl ?_
                refine RW.nil ?_
                refine And.intro rfl (Exists.intro (q + 1) (And.intro ⟨sl_canon ⟨rfl, rfl, rfl, rfl, (show Value.int _ _ = Value.int _ _ from congrArg (Value.int _) (by omega)), trivial⟩, hM, (by omega), trivial⟩ (by omega)))
              ·
                refine CW.drawE 20 [.agg #[.int .i64 ((chR false (fromR (newR ((z : Int) % 1200)) es).n (fromR (newR ((z : Int) % 1200)) es).ws (es.getD 0 (0, 0)).1 (es.getD 0 (0, 0)).2).n), .slice Az ((chR false (fromR (newR ((z : Int) % 1200)) es).n (fromR (newR ((z : Int) % 1200)) es).ws (es.getD 0 (0, 0)).1 (es.getD 0 (0, 0)).2).ws.length) cz], .int .i64 ((q : Int)), .bool (decide (getB ((chR false (fromR (newR ((z : Int) % 1200)) es).n (fromR (newR ((z : Int) % 1200)) es).ws (es.getD 0 (0, 0)).1 (es.getD 0 (0, 0)).2).n) ((chR false (fromR (newR ((z : Int) % 1200)) es).n (fromR (newR ((z : Int) % 1200)) es).ws (es.getD 0 (0, 0)).1 (es.getD 0 (0, 0)).2).ws) (q : Int) = true)), .agg #[.int .i64 ((fromR (newR ((z : Int) % 1200)) es).n), .slice A8 ((fromR (newR ((z : Int) % 1200)) es).ws.length) c9], .int .i64 ((q : Int)), .bool false, .bool false, undef, undef, .bool false, .bool false, .bool false, .bool false, .bool false, undef, undef, undef, undef, .bool false, .bool false]
                  [[(12, none)], [(14, none)], [(112, some 0), (113, some 1)], [(8, none)], [(14, none)], [(115, some 3), (116, some 4)], [(117, some 5)], [(118, some 6)], [(118, some 6)], [(118, some 6), (120, some 8)], [(114, some 2), (121, some 9)], [(122, some 10)], [(15, none), (123, some 11)], [(123, some 11), (124, some 12)], [(125, some 13)], [(125, some 13)], [(125, some 13)], [(125, some 13)], [(123, some 11), (125, some 13), (129, some 17)], [(123, some 11), (130, some 18)]] [(1, none), (5, none), (8, none), (12, none), (14, none), (15, none), (88, none), (89, none), (90, none), (93, none), (94, none), (95, none), (96, none), (97, none), (98, none), (99, none), (100, none), (101, none), (102, none), (103, none), (104, none), (105, none), (106, none), (107, none), (108, none), (109, none), (110, none), (111, none), (112, some 0), (113, some 1), (114, some 2), (115, some 3), (116, some 4), (117, some 5), (118, some 6), (119, some 7), (120, some 8), (121, some 9), (122, some 10), (123, some 11), (124, some 12), (125, some 13), (126, some 14), (127, some 15), (128, some 16), (129, some 17), (130, some 18), (131, some 19)] (by kernel_rfl) hM (by kernel_rfl) ⟨?_, ?_, ?_, ?_, ?_, ?_, ?_, ?_, ?_, ?_, ?_, ?_, ?_, ?_, ?_, ?_, ?_, ?_, ?_, ?_, trivial⟩ ?_
                · exact One.ex (fun H' τ w hled hM => Ex.loadA hM 0 [.int .i64 ((chR false (fromR (newR ((z : Int) % 1200)) es).n (fromR (newR ((z : Int) % 1200)) es).ws (es.getD 0 (0, 0)).1 (es.getD 0 (0, 0)).2).n), .slice Az ((chR false (fromR (newR ((z : Int) % 1200)) es).n (fromR (newR ((z : Int) % 1200)) es).ws (es.getD 0 (0, 0)).1 (es.getD 0 (0, 0)).2).ws.length) cz] ta24 rfl rfl rfl rfl) rfl (fun _ => rfl) rfl
                · exact One.ex (fun H' τ w hled hM => Ex.move (.int .i64 ((q : Int))) rfl) rfl (fun _ => rfl) rfl
                · exact One.call (get_ret _ _ ((chR false (fromR (newR ((z : Int) % 1200)) es).n (fromR (newR ((z : Int) % 1200)) es).ws (es.getD 0 (0, 0)).1 (es.getD 0 (0, 0)).2).n) _ ((chR false (fromR (newR ((z : Int) % 1200)) es).n (fromR (newR ((z : Int) % 1200)) es).ws (es.getD 0 (0, 0)).1 (es.getD 0 (0, 0)).2).ws) hrz (q : Int)) en22 (fun _ => rfl) (fun _ => rfl) (fun _ => rfl) rfl
                · exact One.ex (fun H' τ w hled hM => Ex.loadA hM 2 [.int .i64 ((fromR (newR ((z : Int) % 1200)) es).n), .slice A8 ((fromR (newR ((z : Int) % 1200)) es).ws.length) c9] ta24 rfl rfl rfl rfl) rfl (fun _ => rfl) rfl
                · exact One.ex (fun H' τ w hled hM => Ex.move (.int .i64 ((q : Int))) rfl) rfl (fun _ => rfl) rfl
                · exact (One.call (get_ret _ _ ((fromR (newR ((z : Int) % 1200)) es).n) _ ((fromR (newR ((z : Int) % 1200)) es).ws) (hr10.mono ((hle13.trans hle16).trans hle51)) (q : Int)) en22 (fun _ => rfl) (fun _ => rfl) (fun _ => rfl) rfl).cast (congrArg Value.bool (decide_eq_false hd57))
                · exact One.ex (fun H' τ w hled hM => Ex.move (.bool false) rfl) rfl (fun _ => rfl) rfl
                · exact One.pass (fun _ => rfl) rfl
                · exact One.pass (fun _ => rfl) rfl
                · exact One.ex (fun H' τ w hled hM => Ex.pickF (.bool false) rfl rfl) rfl (fun _ => rfl) rfl
                · exact One.ex (fun H' τ w hled hM => Ex.no (Ex.neqB Tryd.underlying4 rfl rfl) (fun h => h (by have hgg := hgk; simp_all))) rfl (fun _ => rfl) rfl
                · exact One.ex (fun H' τ w hled hM => Ex.move (.bool false) rfl) rfl (fun _ => rfl) rfl
                · exact One.ex (fun H' τ w hled hM => Ex.move (.bool false) rfl) rfl (fun _ => rfl) rfl
                · exact One.ex (fun H' τ w hled hM => Ex.move (.bool false) rfl) rfl (fun _ => rfl) rfl
                · exact One.pass (fun _ => rfl) rfl
                · exact One.pass (fun _ => rfl) rfl
                · exact One.pass (fun _ => rfl) rfl
                · exact One.pass (fun _ => rfl) rfl
                · exact One.ex (fun H' τ w hled hM => Ex.pickF (.bool false) rfl rfl) rfl (fun _ => rfl) rfl
                · exact One.ex (fun H' τ w hled hM => Ex.pickF (.bool false) rfl rfl) rfl (fun _ => rfl) rfl
                intro τ w hM
                change RW _ _ _ _ _ _ _ _ (sl [(1, .slice Ae es.length ce), (5, .int .i64 ((z : Int) % 1200)), (8, .pointer (some ⟨b11, 0, none⟩)), (12, .pointer (some ⟨bz, 0, none⟩)), (14, .int .i64 ((q : Int))), (15, .bool false), (88, .int .i64 ((q : Int))), (89, .int .i64 ((z : Int) % 1200)), (90, .bool (decide ((q : Int) < ((z : Int) % 1200)))), (93, .int .i64 ((q : Int))), (94, .slice Ae es.length ce), (95, elp Ae (0 * 2 + 0)), (96, elp Ae (0 * 2 + 0)), (97, .int .i64 ((es.getD 0 (0, 0)).1)), (98, .bool false), (99, .bool false), (100, undef), (101, undef), (102, undef), (103, undef), (104, undef), (105, undef), (106, undef), (107, undef), (108, undef), (109, undef), (110, undef), (111, .bool false), (112, .agg #[.int .i64 ((chR false (fromR (newR ((z : Int) % 1200)) es).n (fromR (newR ((z : Int) % 1200)) es).ws (es.getD 0 (0, 0)).1 (es.getD 0 (0, 0)).2).n), .slice Az ((chR false (fromR (newR ((z : Int) % 1200)) es).n (fromR (newR ((z : Int) % 1200)) es).ws (es.getD 0 (0, 0)).1 (es.getD 0 (0, 0)).2).ws.length) cz]), (113, .int .i64 ((q : Int))), (114, .bool (decide (getB ((chR false (fromR (newR ((z : Int) % 1200)) es).n (fromR (newR ((z : Int) % 1200)) es).ws (es.getD 0 (0, 0)).1 (es.getD 0 (0, 0)).2).n) ((chR false (fromR (newR ((z : Int) % 1200)) es).n (fromR (newR ((z : Int) % 1200)) es).ws (es.getD 0 (0, 0)).1 (es.getD 0 (0, 0)).2).ws) (q : Int) = true))), (115, .agg #[.int .i64 ((fromR (newR ((z : Int) % 1200)) es).n), .slice A8 ((fromR (newR ((z : Int) % 1200)) es).ws.length) c9]), (116, .int .i64 ((q : Int))), (117, .bool false), (118, .bool false), (119, undef), (120, undef), (121, .bool false), (122, .bool false), (123, .bool false), (124, .bool false), (125, .bool false), (126, undef), (127, undef), (128, undef), (129, undef), (130, .bool false), (131, .bool false)] τ) _
                refine RW.nil ?_
                refine CW.cond_false rfl ?_
                refine CW.skip ?_
                refine CW.region ?_
                refine RW.step (Ex.move (.int .i64 ((q : Int))) rfl) rfl rfl rfl ?_
                refine RW.step (Ex.add rfl rfl (by omega) (by omega)) rfl rfl rfl ?_
                refine RW.step (Ex.assign (.int .i64 ((q : Int) + 1)) rfl) rfl rfl rfl ?_
                refine RW.nil ?_
                refine And.intro rfl (Exists.intro (q + 1) (And.intro ⟨sl_canon ⟨rfl, rfl, rfl, rfl, (show Value.int _ _ = Value.int _ _ from congrArg (Value.int _) (by omega)), trivial⟩, hM, (by omega), trivial⟩ (by omega)))
          · -- no: (q : Int) < ((z : Int) % 1200)
            refine CW.exit ?_
            refine CW.seq ?_
            refine CW.region ?_
            refine RW.callV hM (awake_ret _ (hT.mono (((hle7.trans hle13).trans hle16).trans hle51))) en12 rfl rfl rfl rfl ?_; intro w hM
            refine RW.step (Ex.assign (.bool true) rfl) rfl rfl rfl ?_
            refine RW.nil ?_
            refine CW.ret ?_
            refine end_tmp (.inl rfl) rfl (.bool true) rfl ?_
            exact ⟨_, _, hM, rfl⟩

end Go.Proofs.YtackllehpecfgaaDoor
