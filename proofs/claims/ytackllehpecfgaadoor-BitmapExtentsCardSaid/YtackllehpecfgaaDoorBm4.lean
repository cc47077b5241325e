/- package bitmap and its reference: two bitmaps -/
import Derived.Test.YtackllehpecfgaaDoorBm3
namespace Go.Proofs.YtackllehpecfgaaDoor
open Go.RowKit

theorem same_ret (H : Hp) (A1 : Option Addr) (n : Int) (c1 : Nat) (ws : List (BitVec 64)) (hr1 : RdC H A1 ws.length c1 1 (ws.map u64)) (A2 : Option Addr) (m : Int) (c2 : Nat) (vs : List (BitVec 64)) (hr2 : RdC H A2 vs.length c2 1 (vs.map u64)) : RetV Tryd.prog 17 #[.agg #[.int .i64 n, .slice A1 ws.length c1], .agg #[.int .i64 m, .slice A2 vs.length c2]] H (.bool (decide (n = m ∧ ws = vs))) := by
  have hL := hr1.2.2.1
  have hL1 := hr1.2.1
  unfold maxLen at hL
  have hK := hr2.2.2.1
  have hK1 := hr2.2.1
  unfold maxLen at hK
  refine Ret.of_code Tryd.func17 rfl (Nat.le_of_ble_eq_true rfl) fun w0 hM => ?_
  refine CW.seq ?_
  refine CW.region ?_
  refine RW.box hM (.agg #[.int .i64 (n), .slice A1 ws.length c1]) [.int .i64 (n), .slice A1 ws.length c1] rfl rfl rfl rfl ?_; intro b1 w hM
  refine RW.box hM (.agg #[.int .i64 (m), .slice A2 vs.length c2]) [.int .i64 (m), .slice A2 vs.length c2] rfl rfl rfl rfl ?_; intro b2 w hM
  refine RW.step (Ex.assign (.bool false) rfl) rfl rfl rfl ?_
  refine RW.nil ?_
  refine CW.seq ?_
  refine CW.seq ?_
  refine CW.region ?_
  refine RW.step (Ex.fieldAddr fa24_0 rfl) rfl rfl rfl ?_
  refine RW.step (Ex.load1 hM 1 to3 rfl rfl rfl) rfl rfl rfl ?_
  refine RW.step (Ex.fieldAddr fa24_0 rfl) rfl rfl rfl ?_
  refine RW.step (Ex.load1 hM 0 to3 rfl rfl rfl) rfl rfl rfl ?_
  refine RW.step (Ex.neq rfl rfl) rfl rfl rfl ?_
  refine RW.step (Ex.move (.bool (decide (n ≠ m))) rfl) rfl rfl rfl ?_
  refine RW.split 11 rfl (fun hc3 => ?_) (fun hc3 => ?_)
  · -- yes
    refine RW.pass rfl rfl ?_
    refine RW.pass rfl rfl ?_
    refine RW.pass rfl rfl ?_
    refine RW.pass rfl rfl ?_
    refine RW.pass rfl rfl ?_
    refine RW.pass rfl rfl ?_
    refine RW.pass rfl rfl ?_
    refine RW.step (Ex.pickT (.bool true) rfl rfl) rfl rfl rfl ?_
    refine RW.nil ?_
    refine CW.cond_true rfl ?_
    refine CW.seq ?_
    refine CW.region ?_
    refine RW.step (Ex.assign (.bool false) rfl) rfl rfl rfl ?_
    refine RW.nil ?_
    refine CW.ret ?_
    refine thenQ_ret ?_
    refine end_tmp (.inl rfl) rfl (.bool false) rfl ?_
    exact ⟨_, _, hM, congrArg Value.bool (decide_eq_false (show ¬ (n = m ∧ ws = vs) from fun h => by obtain ⟨rfl, rfl⟩ := h; omega)).symm⟩
  · -- no
    refine RW.step (Ex.fieldAddr fa24_1 rfl) rfl rfl rfl ?_
    refine RW.step (Ex.load1 hM 1 to22 rfl rfl rfl) rfl rfl rfl ?_
    refine RW.step (Ex.len st22.1 rfl) rfl rfl rfl ?_
    refine RW.step (Ex.fieldAddr fa24_1 rfl) rfl rfl rfl ?_
    refine RW.step (Ex.load1 hM 0 to22 rfl rfl rfl) rfl rfl rfl ?_
    refine RW.step (Ex.len st22.1 rfl) rfl rfl rfl ?_
    refine RW.step (Ex.neq rfl rfl) rfl rfl rfl ?_
    refine RW.step (Ex.pickF (.bool (decide ((ws.length : Int) ≠ (vs.length : Int)))) rfl rfl) rfl rfl rfl ?_
    refine RW.nil ?_
    refine CW.cond_dec rfl (fun hc4 => ?_) (fun hc4 => ?_)
    · -- yes: (ws.length : Int) ≠ (vs.length : Int)
      refine CW.seq ?_
      refine CW.region ?_
      refine RW.step (Ex.assign (.bool false) rfl) rfl rfl rfl ?_
      refine RW.nil ?_
      refine CW.ret ?_
      refine thenQ_ret ?_
      refine end_tmp (.inl rfl) rfl (.bool false) rfl ?_
      exact ⟨_, _, hM, congrArg Value.bool (decide_eq_false (show ¬ (n = m ∧ ws = vs) from fun h => by obtain ⟨rfl, rfl⟩ := h; omega)).symm⟩
    · -- no: (ws.length : Int) ≠ (vs.length : Int)
      refine CW.skip ?_
      refine CW.seq ?_
      refine CW.seq ?_
      refine CW.region ?_
      refine RW.step (Ex.assign (.int .i64 (0)) rfl) rfl rfl rfl ?_
      refine RW.nil ?_
      refine CW.block ?_
      refine CW.loop (β := Nat) (fun (k : Nat) σ w => (∃ τ, σ = sl [(2, .pointer (some ⟨b1, 0, none⟩)), (3, .pointer (some ⟨b2, 0, none⟩)), (5, .int .i64 ((k : Int)))] τ) ∧ Mem w0 H w H [.box b2 24 [.int .i64 (m), .slice A2 vs.length c2], .box b1 24 [.int .i64 (n), .slice A1 ws.length c1]] ∧ (k ≤ ws.length) ∧ (∀ i : Nat, i < k → ws.getD i 0#64 = vs.getD i 0#64) ∧ True) (fun k => ws.length - k) (0) ⟨sl_canon ⟨rfl, rfl, (show Value.int _ _ = Value.int _ _ from congrArg (Value.int _) (by omega)), trivial⟩, hM, (by omega), (fun i h => by omega), trivial⟩ ?_
      rintro k _ w ⟨⟨τ, rfl⟩, hM, hk, hz, -⟩
      refine CW.seq ?_
      refine CW.seq ?_
      refine CW.region ?_
      refine RW.step (Ex.move (.int .i64 ((k : Int))) rfl) rfl rfl rfl ?_
      refine RW.step (Ex.fieldAddr fa24_1 rfl) rfl rfl rfl ?_
      refine RW.step (Ex.load1 hM 1 to22 rfl rfl rfl) rfl rfl rfl ?_
      refine RW.step (Ex.len st22.1 rfl) rfl rfl rfl ?_
      refine RW.step (Ex.lss rfl rfl) rfl rfl rfl ?_
      refine RW.nil ?_
      refine CW.cond_dec rfl (fun hc5 => ?_) (fun hc5 => ?_)
      · -- yes: (k : Int) < (ws.length : Int)
        refine CW.skip ?_
        refine CW.seq ?_
        refine CW.block ?_
        refine CW.seq ?_
        refine CW.drawE 11 [.pointer (some ⟨b1, 1, none⟩), .slice A1 ws.length c1, .int .i64 ((k : Int)), elp A1 (k * 1 + 0), u64 (ws.getD k 0#64), .pointer (some ⟨b2, 1, none⟩), .slice A2 vs.length c2, .int .i64 ((k : Int)), elp A2 (k * 1 + 0), u64 (vs.getD k 0#64), .bool (decide ((ws.getD k 0#64) ≠ (vs.getD k 0#64)))]
          [[(2, none)], [(27, some 0)], [(5, none)], [(28, some 1), (29, some 2)], [(30, some 3)], [(3, none)], [(32, some 5)], [(5, none)], [(33, some 6), (34, some 7)], [(35, some 8)], [(31, some 4), (36, some 9)]] [(2, none), (3, none), (5, none), (20, none), (21, none), (22, none), (23, none), (24, none), (27, some 0), (28, some 1), (29, some 2), (30, some 3), (31, some 4), (32, some 5), (33, some 6), (34, some 7), (35, some 8), (36, some 9), (37, some 10)] (by kernel_rfl) hM (by kernel_rfl) ⟨?_, ?_, ?_, ?_, ?_, ?_, ?_, ?_, ?_, ?_, ?_, trivial⟩ ?_
        · exact One.ex (fun H' τ w hled hM => Ex.fieldAddr fa24_1 rfl) rfl (fun _ => rfl) rfl
        · exact One.ex (fun H' τ w hled hM => Ex.load1 hM 1 to22 rfl rfl rfl) rfl (fun _ => rfl) rfl
        · exact One.ex (fun H' τ w hled hM => Ex.move (.int .i64 ((k : Int))) rfl) rfl (fun _ => rfl) rfl
        · exact One.ex (fun H' τ w hled hM => Ex.index st22 rfl rfl k (hr1.ne (by omega)) (by omega) (by omega)) rfl (fun _ => rfl) rfl
        · exact One.ex (fun H' τ w hled hM => Ex.loadE hM hled hr1 to55 rfl (getW (by omega))) rfl (fun _ => rfl) rfl
        · exact One.ex (fun H' τ w hled hM => Ex.fieldAddr fa24_1 rfl) rfl (fun _ => rfl) rfl
        · exact One.ex (fun H' τ w hled hM => Ex.load1 hM 0 to22 rfl rfl rfl) rfl (fun _ => rfl) rfl
        · exact One.ex (fun H' τ w hled hM => Ex.move (.int .i64 ((k : Int))) rfl) rfl (fun _ => rfl) rfl
        · exact One.ex (fun H' τ w hled hM => Ex.index st22 rfl rfl k (hr2.ne (by omega)) (by omega) (by omega)) rfl (fun _ => rfl) rfl
        · exact One.ex (fun H' τ w hled hM => Ex.loadE hM hled hr2 to55 rfl (getW (by omega))) rfl (fun _ => rfl) rfl
        · exact One.ex (fun H' τ w hled hM => Ex.neq64 (a := ws.getD k 0#64) (b := vs.getD k 0#64) rfl rfl) rfl (fun _ => rfl) rfl
        intro τ w hM
        change RW _ _ _ _ _ _ _ _ (sl [(2, .pointer (some ⟨b1, 0, none⟩)), (3, .pointer (some ⟨b2, 0, none⟩)), (5, .int .i64 ((k : Int))), (20, .int .i64 ((k : Int))), (21, .pointer (some ⟨b1, 1, none⟩)), (22, .slice A1 ws.length c1), (23, .int .i64 ((ws.length : Int))), (24, .bool (decide ((k : Int) < (ws.length : Int)))), (27, .pointer (some ⟨b1, 1, none⟩)), (28, .slice A1 ws.length c1), (29, .int .i64 ((k : Int))), (30, elp A1 (k * 1 + 0)), (31, u64 (ws.getD k 0#64)), (32, .pointer (some ⟨b2, 1, none⟩)), (33, .slice A2 vs.length c2), (34, .int .i64 ((k : Int))), (35, elp A2 (k * 1 + 0)), (36, u64 (vs.getD k 0#64)), (37, .bool (decide ((ws.getD k 0#64) ≠ (vs.getD k 0#64))))] τ) _
        refine RW.nil ?_
        refine CW.cond_dec rfl (fun hc6 => ?_) (fun hc6 => ?_)
        · -- yes: (ws.getD k 0#64) ≠ (vs.getD k 0#64)
          refine CW.seq ?_
          refine CW.region ?_
          refine RW.step (Ex.assign (.bool false) rfl) rfl rfl rfl ?_
          refine RW.nil ?_
          refine CW.ret ?_
          refine blockQ_ret (thenQ_ret (thenQ_ret (blockQ_ret (thenQ_ret ?_))))
          refine end_tmp (.inl rfl) rfl (.bool false) rfl ?_
          exact ⟨_, _, hM, congrArg Value.bool (decide_eq_false (show ¬ (n = m ∧ ws = vs) from fun h => by obtain ⟨rfl, rfl⟩ := h; exact hc6 rfl)).symm⟩
        · -- no: (ws.getD k 0#64) ≠ (vs.getD k 0#64)
          refine CW.skip ?_
          refine CW.region ?_
          refine RW.step (Ex.move (.int .i64 ((k : Int))) rfl) rfl rfl rfl ?_
          refine RW.step (Ex.add rfl rfl (by omega) (by omega)) rfl rfl rfl ?_
          refine RW.step (Ex.assign (.int .i64 ((k : Int) + 1)) rfl) rfl rfl rfl ?_
          refine RW.nil ?_
          refine And.intro rfl (Exists.intro (k + 1) (And.intro ⟨sl_canon ⟨rfl, rfl, (show Value.int _ _ = Value.int _ _ from congrArg (Value.int _) (by omega)), trivial⟩, hM, (by omega), (gstep hz hc6), trivial⟩ (by omega)))
      · -- no: (k : Int) < (ws.length : Int)
        refine CW.exit ?_
        refine CW.seq ?_
        refine CW.region ?_
        refine RW.step (Ex.assign (.bool true) rfl) rfl rfl rfl ?_
        refine RW.nil ?_
        refine CW.ret ?_
        refine end_tmp (.inl rfl) rfl (.bool true) rfl ?_
        exact ⟨_, _, hM, congrArg Value.bool (decide_eq_true (show n = m ∧ ws = vs from ⟨by omega, words_getD (by omega) (fun i hi => hz i (by omega))⟩)).symm⟩

theorem rboth_ret (H : Hp) (A1 : Option Addr) (n : Int) (c1 : Nat) (ws : List (BitVec 64)) (hr1 : RdC H A1 ws.length c1 1 (ws.map u64)) (A2 : Option Addr) (m : Int) (c2 : Nat) (vs : List (BitVec 64)) (hr2 : RdC H A2 vs.length c2 1 (vs.map u64)) : RetV Tryd.prog 49 #[.agg #[.int .i64 n, .slice A1 ws.length c1], .agg #[.int .i64 m, .slice A2 vs.length c2]] H (.int .i64 (bothE n ws m vs)) := by
  have hL := hr1.2.2.1
  have hL1 := hr1.2.1
  unfold maxLen at hL
  have hK := hr2.2.2.1
  have hK1 := hr2.2.1
  unfold maxLen at hK
  refine Ret.of_code Tryd.func49 rfl (Nat.le_of_ble_eq_true rfl) fun w0 hM => ?_
  refine CW.seq ?_
  refine CW.region ?_
  refine RW.box hM (.agg #[.int .i64 (n), .slice A1 ws.length c1]) [.int .i64 (n), .slice A1 ws.length c1] rfl rfl rfl rfl ?_; intro b1 w hM
  refine RW.box hM (.agg #[.int .i64 (m), .slice A2 vs.length c2]) [.int .i64 (m), .slice A2 vs.length c2] rfl rfl rfl rfl ?_; intro b2 w hM
  refine RW.step (Ex.assign (.int .i64 (0)) rfl) rfl rfl rfl ?_
  refine RW.nil ?_
  refine CW.seq ?_
  refine CW.seq ?_
  refine CW.region ?_
  refine RW.step (Ex.loadA hM 1 [.int .i64 (n), .slice A1 ws.length c1] ta24 rfl rfl rfl rfl) rfl rfl rfl ?_
  refine RW.callV hM (rcheck_ret _ _ n _ ws hr1) en21 rfl rfl rfl rfl ?_; intro w hM
  refine RW.step (Ex.neq rfl rfl) rfl rfl rfl ?_
  refine RW.step (Ex.move (.bool (decide ((chk n ws) ≠ 0))) rfl) rfl rfl rfl ?_
  refine RW.split 8 rfl (fun hc3 => ?_) (fun hc3 => ?_)
  · -- yes
    refine RW.pass rfl rfl ?_
    refine RW.pass rfl rfl ?_
    refine RW.pass rfl rfl ?_
    refine RW.step (Ex.pickT (.bool true) rfl rfl) rfl rfl rfl ?_
    refine RW.nil ?_
    refine CW.cond_true rfl ?_
    refine CW.seq ?_
    refine CW.region ?_
    refine RW.step (Ex.assign (.int .i64 (3)) rfl) rfl rfl rfl ?_
    refine RW.nil ?_
    refine CW.ret ?_
    refine thenQ_ret ?_
    refine end_tmp (.inl rfl) rfl (.int .i64 (3)) rfl ?_
    exact ⟨_, _, hM, congrArg (Value.int .i64) (bothE_1 hc3).symm⟩
  · -- no
    refine RW.step (Ex.loadA hM 0 [.int .i64 (m), .slice A2 vs.length c2] ta24 rfl rfl rfl rfl) rfl rfl rfl ?_
    refine RW.callV hM (rcheck_ret _ _ m _ vs hr2) en21 rfl rfl rfl rfl ?_; intro w hM
    refine RW.step (Ex.neq rfl rfl) rfl rfl rfl ?_
    refine RW.step (Ex.pickF (.bool (decide ((chk m vs) ≠ 0))) rfl rfl) rfl rfl rfl ?_
    refine RW.nil ?_
    refine CW.cond_dec rfl (fun hc4 => ?_) (fun hc4 => ?_)
    · -- yes: (chk m vs) ≠ 0
      refine CW.seq ?_
      refine CW.region ?_
      refine RW.step (Ex.assign (.int .i64 (3)) rfl) rfl rfl rfl ?_
      refine RW.nil ?_
      refine CW.ret ?_
      refine thenQ_ret ?_
      refine end_tmp (.inl rfl) rfl (.int .i64 (3)) rfl ?_
      exact ⟨_, _, hM, congrArg (Value.int .i64) (bothE_2 hc3 hc4).symm⟩
    · -- no: (chk m vs) ≠ 0
      refine CW.skip ?_
      refine CW.seq ?_
      refine CW.seq ?_
      refine CW.region ?_
      refine RW.step (Ex.fieldAddr fa24_0 rfl) rfl rfl rfl ?_
      refine RW.step (Ex.load1 hM 1 to3 rfl rfl rfl) rfl rfl rfl ?_
      refine RW.step (Ex.fieldAddr fa24_0 rfl) rfl rfl rfl ?_
      refine RW.step (Ex.load1 hM 0 to3 rfl rfl rfl) rfl rfl rfl ?_
      refine RW.step (Ex.neq rfl rfl) rfl rfl rfl ?_
      refine RW.nil ?_
      refine CW.cond_dec rfl (fun hc5 => ?_) (fun hc5 => ?_)
      · -- yes: n ≠ m
        refine CW.seq ?_
        refine CW.region ?_
        refine RW.step (Ex.assign (.int .i64 (22)) rfl) rfl rfl rfl ?_
        refine RW.nil ?_
        refine CW.ret ?_
        refine thenQ_ret ?_
        refine end_tmp (.inl rfl) rfl (.int .i64 (22)) rfl ?_
        exact ⟨_, _, hM, congrArg (Value.int .i64) (bothE_3 hc3 hc4 hc5).symm⟩
      · -- no: n ≠ m
        refine CW.skip ?_
        refine CW.seq ?_
        refine CW.region ?_
        refine RW.step (Ex.assign (.int .i64 (0)) rfl) rfl rfl rfl ?_
        refine RW.nil ?_
        refine CW.ret ?_
        refine end_tmp (.inl rfl) rfl (.int .i64 (0)) rfl ?_
        exact ⟨_, _, hM, congrArg (Value.int .i64) (bothE_4 hc3 hc4 hc5).symm⟩

theorem both_or_ret (H : Hp) (A1 : Option Addr) (n : Int) (c1 : Nat) (ws : List (BitVec 64)) (hr1 : RdC H A1 ws.length c1 1 (ws.map u64)) (A2 : Option Addr) (m : Int) (c2 : Nat) (vs : List (BitVec 64)) (hr2 : RdC H A2 vs.length c2 1 (vs.map u64)) : Ret Tryd.prog 47 #[.agg #[.int .i64 n, .slice A1 ws.length c1], .agg #[.int .i64 m, .slice A2 vs.length c2], .func (.func 48) #[] #[]] H (BRv (bothR (fun a b => a ||| b) n ws m vs)) := by
  have hL := hr1.2.2.1
  have hL1 := hr1.2.1
  unfold maxLen at hL
  have hK := hr2.2.2.1
  have hK1 := hr2.2.1
  unfold maxLen at hK
  refine Ret.of_code Tryd.func47 rfl (Nat.le_of_ble_eq_true rfl) fun w0 hM => ?_
  refine CW.seq ?_
  refine CW.region ?_
  refine RW.box hM (.agg #[.int .i64 (n), .slice A1 ws.length c1]) [.int .i64 (n), .slice A1 ws.length c1] rfl rfl rfl rfl ?_; intro b1 w hM
  refine RW.box hM (.agg #[.int .i64 (m), .slice A2 vs.length c2]) [.int .i64 (m), .slice A2 vs.length c2] rfl rfl rfl rfl ?_; intro b2 w hM
  refine RW.alloc hM tz24 [.int .i64 (0), .slice none 0 0] rfl rfl rfl ?_; intro b3 w hM
  refine RW.step (Ex.assign (.int .i64 (0)) rfl) rfl rfl rfl ?_
  refine RW.nil ?_
  refine CW.seq ?_
  refine CW.seq ?_
  refine CW.region ?_
  refine RW.step (Ex.loadA hM 2 [.int .i64 (n), .slice A1 ws.length c1] ta24 rfl rfl rfl rfl) rfl rfl rfl ?_
  refine RW.callV hM (check_ret _ _ n _ ws hr1) en20 rfl rfl rfl rfl ?_; intro w hM
  refine RW.step (Ex.assign (.int .i64 (chk n ws)) rfl) rfl rfl rfl ?_
  refine RW.nil ?_
  refine CW.seq ?_
  refine CW.region ?_
  refine RW.step (Ex.move (.int .i64 (chk n ws)) rfl) rfl rfl rfl ?_
  refine RW.step (Ex.neq rfl rfl) rfl rfl rfl ?_
  refine RW.nil ?_
  refine CW.cond_dec rfl (fun hc4 => ?_) (fun hc4 => ?_)
  · -- yes: (chk n ws) ≠ 0
    refine CW.seq ?_
    refine CW.region ?_
    refine RW.step (Ex.build bs24 [] [.int .i64 (0), .slice none 0 0] rfl rfl) rfl rfl rfl ?_
    refine RW.step (Ex.move (.int .i64 (chk n ws)) rfl) rfl rfl rfl ?_
    refine RW.store hM 0 (.agg #[.int .i64 (0), .slice none 0 0]) [.int .i64 (0), .slice none 0 0] [.int .i64 (0), .slice none 0 0] sz24 rfl rfl rfl (oneAll ⟨rfl, rfl, trivial⟩) rfl (Nat.le_of_ble_eq_true rfl) rfl [.box b3 24 [.int .i64 (0), .slice none 0 0], .box b2 24 [.int .i64 (m), .slice A2 vs.length c2], .box b1 24 [.int .i64 (n), .slice A1 ws.length c1]] rfl rfl rfl ?_; intro w hM
    refine RW.step (Ex.assign (.int .i64 (chk n ws)) rfl) rfl rfl rfl ?_
    refine RW.nil ?_
    refine CW.ret ?_
    refine thenQ_ret ?_
    refine end_cell_tmp (k := 0) (.inl rfl) rfl hM rfl (.int .i64 (chk n ws)) rfl ta24 [.int .i64 (0), .slice none 0 0] rfl rfl ?_
    exact ⟨_, _, hM, BRv.bad (bothR_bad (bothE_1 hc4) (by decide)) (chk_ne hc4)⟩
  · -- no: (chk n ws) ≠ 0
    have hwl := wf_len (Classical.not_not.1 hc4)
    refine CW.skip ?_
    refine CW.seq ?_
    refine CW.seq ?_
    refine CW.region ?_
    refine RW.step (Ex.loadA hM 1 [.int .i64 (m), .slice A2 vs.length c2] ta24 rfl rfl rfl rfl) rfl rfl rfl ?_
    refine RW.callV hM (check_ret _ _ m _ vs hr2) en20 rfl rfl rfl rfl ?_; intro w hM
    refine RW.step (Ex.assign (.int .i64 (chk m vs)) rfl) rfl rfl rfl ?_
    refine RW.nil ?_
    refine CW.seq ?_
    refine CW.region ?_
    refine RW.step (Ex.move (.int .i64 (chk m vs)) rfl) rfl rfl rfl ?_
    refine RW.step (Ex.neq rfl rfl) rfl rfl rfl ?_
    refine RW.nil ?_
    refine CW.cond_dec rfl (fun hc5 => ?_) (fun hc5 => ?_)
    · -- yes: (chk m vs) ≠ 0
      refine CW.seq ?_
      refine CW.region ?_
      refine RW.step (Ex.build bs24 [] [.int .i64 (0), .slice none 0 0] rfl rfl) rfl rfl rfl ?_
      refine RW.step (Ex.move (.int .i64 (chk m vs)) rfl) rfl rfl rfl ?_
      refine RW.store hM 0 (.agg #[.int .i64 (0), .slice none 0 0]) [.int .i64 (0), .slice none 0 0] [.int .i64 (0), .slice none 0 0] sz24 rfl rfl rfl (oneAll ⟨rfl, rfl, trivial⟩) rfl (Nat.le_of_ble_eq_true rfl) rfl [.box b3 24 [.int .i64 (0), .slice none 0 0], .box b2 24 [.int .i64 (m), .slice A2 vs.length c2], .box b1 24 [.int .i64 (n), .slice A1 ws.length c1]] rfl rfl rfl ?_; intro w hM
      refine RW.step (Ex.assign (.int .i64 (chk m vs)) rfl) rfl rfl rfl ?_
      refine RW.nil ?_
      refine CW.ret ?_
      refine thenQ_ret ?_
      refine end_cell_tmp (k := 0) (.inl rfl) rfl hM rfl (.int .i64 (chk m vs)) rfl ta24 [.int .i64 (0), .slice none 0 0] rfl rfl ?_
      exact ⟨_, _, hM, BRv.bad (bothR_bad (bothE_2 hc4 hc5) (by decide)) (chk_ne hc5)⟩
    · -- no: (chk m vs) ≠ 0
      have hwl2 := wf_len (Classical.not_not.1 hc5)
      refine CW.skip ?_
      refine CW.seq ?_
      refine CW.seq ?_
      refine CW.region ?_
      refine RW.step (Ex.fieldAddr fa24_0 rfl) rfl rfl rfl ?_
      refine RW.step (Ex.load1 hM 2 to3 rfl rfl rfl) rfl rfl rfl ?_
      refine RW.step (Ex.fieldAddr fa24_0 rfl) rfl rfl rfl ?_
      refine RW.step (Ex.load1 hM 1 to3 rfl rfl rfl) rfl rfl rfl ?_
      refine RW.step (Ex.neq rfl rfl) rfl rfl rfl ?_
      refine RW.nil ?_
      refine CW.cond_dec rfl (fun hc6 => ?_) (fun hc6 => ?_)
      · -- yes: n ≠ m
        refine CW.seq ?_
        refine CW.region ?_
        refine RW.step (Ex.build bs24 [] [.int .i64 (0), .slice none 0 0] rfl rfl) rfl rfl rfl ?_
        refine RW.store hM 0 (.agg #[.int .i64 (0), .slice none 0 0]) [.int .i64 (0), .slice none 0 0] [.int .i64 (0), .slice none 0 0] sz24 rfl rfl rfl (oneAll ⟨rfl, rfl, trivial⟩) rfl (Nat.le_of_ble_eq_true rfl) rfl [.box b3 24 [.int .i64 (0), .slice none 0 0], .box b2 24 [.int .i64 (m), .slice A2 vs.length c2], .box b1 24 [.int .i64 (n), .slice A1 ws.length c1]] rfl rfl rfl ?_; intro w hM
        refine RW.step (Ex.assign (.int .i64 (22)) rfl) rfl rfl rfl ?_
        refine RW.nil ?_
        refine CW.ret ?_
        refine thenQ_ret ?_
        refine end_cell_tmp (k := 0) (.inl rfl) rfl hM rfl (.int .i64 (22)) rfl ta24 [.int .i64 (0), .slice none 0 0] rfl rfl ?_
        exact ⟨_, _, hM, BRv.bad (bothR_bad (bothE_3 hc4 hc5 hc6) (by decide)) rfl⟩
      · -- no: n ≠ m
        have hnm := Classical.not_not.1 hc6
        have hll : ws.length = vs.length := by omega
        refine CW.skip ?_
        refine CW.seq ?_
        refine CW.region ?_
        refine RW.step (Ex.fieldAddr fa24_1 rfl) rfl rfl rfl ?_
        refine RW.step (Ex.load1 hM 2 to22 rfl rfl rfl) rfl rfl rfl ?_
        refine RW.step (Ex.len st22.1 rfl) rfl rfl rfl ?_
        refine RW.make hM st22 tz55 ws.length rfl rfl (by omega) (by omega) (by unfold maxLen; omega) rfl rfl ?_; intro b7 w hM
        rw [madeW] at hM
        refine RW.step (Ex.assign (.slice (some ⟨b7, 0, none⟩) ws.length ws.length) rfl) rfl rfl rfl ?_
        refine RW.nil ?_
        refine CW.seq ?_
        refine CW.seq ?_
        refine CW.region ?_
        refine RW.step (Ex.move (.slice (some ⟨b7, 0, none⟩) ws.length ws.length) rfl) rfl rfl rfl ?_
        refine RW.step (Ex.len st22.1 rfl) rfl rfl rfl ?_
        refine RW.step (Ex.move (.int .i64 (0)) rfl) rfl rfl rfl ?_
        refine RW.nil ?_
        refine CW.block ?_
        refine CW.loop (β := Nat) (fun (k : Nat) σ w => (∃ τ, σ = sl [(2, .func (.func 48) #[] #[]), (3, .pointer (some ⟨b1, 0, none⟩)), (4, .pointer (some ⟨b2, 0, none⟩)), (6, .pointer (some ⟨b3, 0, none⟩)), (7, .int .i64 (0)), (10, .slice (some ⟨b7, 0, none⟩) ws.length ws.length), (35, .int .i64 ((ws.length : Int))), (36, .int .i64 ((k : Int)))] τ) ∧ Mem w0 H w H [.row (.slice (some ⟨b7, 0, none⟩) ws.length ws.length) 55 1 ws.length ((mixK (List.zipWith (fun a b => a ||| b) ws vs) (List.replicate ws.length 0#64) k).map u64), .box b3 24 [.int .i64 (0), .slice none 0 0], .box b2 24 [.int .i64 (m), .slice A2 vs.length c2], .box b1 24 [.int .i64 (n), .slice A1 ws.length c1]] ∧ (k ≤ ws.length) ∧ True) (fun k => ws.length - k) (0) ⟨sl_canon ⟨rfl, rfl, rfl, rfl, rfl, rfl, rfl, (show Value.int _ _ = Value.int _ _ from congrArg (Value.int _) (by omega)), trivial⟩, (by rw [mixK_zero]; exact hM), (by omega), trivial⟩ ?_
        rintro k _ w ⟨⟨τ, rfl⟩, hM, hk, -⟩
        refine CW.seq ?_
        refine CW.region ?_
        refine RW.step (Ex.lss rfl rfl) rfl rfl rfl ?_
        refine RW.nil ?_
        refine CW.seq ?_
        refine CW.cond_dec rfl (fun hc8 => ?_) (fun hc8 => ?_)
        · -- yes: (k : Int) < (ws.length : Int)
          refine CW.skip ?_
          refine CW.seq ?_
          refine CW.block ?_
          refine CW.seq ?_
          refine CW.region ?_
          refine RW.step (Ex.move (.int .i64 ((k : Int))) rfl) rfl rfl rfl ?_
          refine RW.step (Ex.assign (.int .i64 ((k : Int))) rfl) rfl rfl rfl ?_
          refine RW.nil ?_
          refine CW.drawE 14 [.slice (some ⟨b7, 0, none⟩) ws.length ws.length, .int .i64 ((k : Int)), .func (.func 48) #[] #[], .pointer (some ⟨b1, 1, none⟩), .slice A1 ws.length c1, .int .i64 ((k : Int)), elp A1 (k * 1 + 0), u64 (ws.getD k 0#64), .pointer (some ⟨b2, 1, none⟩), .slice A2 vs.length c2, .int .i64 ((k : Int)), elp A2 (k * 1 + 0), u64 (vs.getD k 0#64), u64 ((ws.getD k 0#64) ||| (vs.getD k 0#64))]
            [[(10, none)], [(11, none)], [(2, none)], [(3, none)], [(42, some 3)], [(11, none)], [(43, some 4), (44, some 5)], [(45, some 6)], [(4, none)], [(47, some 8)], [(11, none)], [(48, some 9), (49, some 10)], [(50, some 11)], [(41, some 2), (46, some 7), (51, some 12)]] [(2, none), (3, none), (4, none), (6, none), (7, none), (10, none), (11, none), (35, none), (36, none), (37, none), (38, none), (39, some 0), (40, some 1), (41, some 2), (42, some 3), (43, some 4), (44, some 5), (45, some 6), (46, some 7), (47, some 8), (48, some 9), (49, some 10), (50, some 11), (51, some 12), (52, some 13)] (by kernel_rfl) hM (by kernel_rfl) ⟨?_, ?_, ?_, ?_, ?_, ?_, ?_, ?_, ?_, ?_, ?_, ?_, ?_, ?_, trivial⟩ ?_
          · exact One.ex (fun H' τ w hled hM => Ex.move (.slice (some ⟨b7, 0, none⟩) ws.length ws.length) rfl) rfl (fun _ => rfl) rfl
          · exact One.ex (fun H' τ w hled hM => Ex.move (.int .i64 ((k : Int))) rfl) rfl (fun _ => rfl) rfl
          · exact One.ex (fun H' τ w hled hM => Ex.move (.func (.func 48) #[] #[]) rfl) rfl (fun _ => rfl) rfl
          · exact One.ex (fun H' τ w hled hM => Ex.fieldAddr fa24_1 rfl) rfl (fun _ => rfl) rfl
          · exact One.ex (fun H' τ w hled hM => Ex.load1 hM 3 to22 rfl rfl rfl) rfl (fun _ => rfl) rfl
          · exact One.ex (fun H' τ w hled hM => Ex.move (.int .i64 ((k : Int))) rfl) rfl (fun _ => rfl) rfl
          · exact One.ex (fun H' τ w hled hM => Ex.index st22 rfl rfl k (hr1.ne (by omega)) (by omega) (by omega)) rfl (fun _ => rfl) rfl
          · exact One.ex (fun H' τ w hled hM => Ex.loadE hM hled hr1 to55 rfl (getW (by omega))) rfl (fun _ => rfl) rfl
          · exact One.ex (fun H' τ w hled hM => Ex.fieldAddr fa24_1 rfl) rfl (fun _ => rfl) rfl
          · exact One.ex (fun H' τ w hled hM => Ex.load1 hM 2 to22 rfl rfl rfl) rfl (fun _ => rfl) rfl
          · exact One.ex (fun H' τ w hled hM => Ex.move (.int .i64 ((k : Int))) rfl) rfl (fun _ => rfl) rfl
          · exact One.ex (fun H' τ w hled hM => Ex.index st22 rfl rfl k (hr2.ne (by omega)) (by omega) (by omega)) rfl (fun _ => rfl) rfl
          · exact One.ex (fun H' τ w hled hM => Ex.loadE hM hled hr2 to55 rfl (getW (by omega))) rfl (fun _ => rfl) rfl
          · exact One.call (or1_ret _ (ws.getD k 0#64) (vs.getD k 0#64)) en48 (fun _ => rfl) (fun _ => rfl) (fun _ => rfl) rfl
          intro τ w hM
          change RW _ _ _ _ _ _ _ _ (sl [(2, .func (.func 48) #[] #[]), (3, .pointer (some ⟨b1, 0, none⟩)), (4, .pointer (some ⟨b2, 0, none⟩)), (6, .pointer (some ⟨b3, 0, none⟩)), (7, .int .i64 (0)), (10, .slice (some ⟨b7, 0, none⟩) ws.length ws.length), (11, .int .i64 ((k : Int))), (35, .int .i64 ((ws.length : Int))), (36, .int .i64 ((k : Int))), (37, .bool (decide ((k : Int) < (ws.length : Int)))), (38, .int .i64 ((k : Int))), (39, .slice (some ⟨b7, 0, none⟩) ws.length ws.length), (40, .int .i64 ((k : Int))), (41, .func (.func 48) #[] #[]), (42, .pointer (some ⟨b1, 1, none⟩)), (43, .slice A1 ws.length c1), (44, .int .i64 ((k : Int))), (45, elp A1 (k * 1 + 0)), (46, u64 (ws.getD k 0#64)), (47, .pointer (some ⟨b2, 1, none⟩)), (48, .slice A2 vs.length c2), (49, .int .i64 ((k : Int))), (50, elp A2 (k * 1 + 0)), (51, u64 (vs.getD k 0#64)), (52, u64 ((ws.getD k 0#64) ||| (vs.getD k 0#64)))] τ) _
          refine RW.step (Ex.index st22 rfl rfl k (hM.rowNe (k := 0) rfl (by omega)) (by omega) (by omega)) rfl rfl rfl ?_
          refine RW.storeR hM 0 (k * 1 + 0) (u64 ((ws.getD k 0#64) ||| (vs.getD k 0#64))) [u64 ((ws.getD k 0#64) ||| (vs.getD k 0#64))] (((mixK (List.zipWith (fun a b => a ||| b) ws vs) (List.replicate ws.length 0#64) k).set k ((ws.getD k 0#64) ||| (vs.getD k 0#64))).map u64) sz55 rfl (hM.rowNe (k := 0) rfl (by omega)) rfl rfl (oneAll ⟨rfl, trivial⟩) rfl (by simp only [List.length_map, List.length_cons, List.length_nil]; first | omega | (rw [chK_length]; omega) | (rw [chW_length]; omega) | (rw [List.length_replicate]; omega) | (rw [mixK_length (by rw [List.length_zipWith, List.length_replicate]; omega)]; first | omega | (rw [List.length_replicate]; omega)) | (rw [mixK_length (by rw [List.length_zipWith]; omega)]; omega)) (setW (by first | omega | (rw [chK_length]; omega) | (rw [chW_length]; omega) | (rw [List.length_replicate]; omega) | (rw [mixK_length (by rw [List.length_zipWith, List.length_replicate]; omega)]; first | omega | (rw [List.length_replicate]; omega)) | (rw [mixK_length (by rw [List.length_zipWith]; omega)]; omega))) [.row (.slice (some ⟨b7, 0, none⟩) ws.length ws.length) 55 1 ws.length (((mixK (List.zipWith (fun a b => a ||| b) ws vs) (List.replicate ws.length 0#64) k).set k ((ws.getD k 0#64) ||| (vs.getD k 0#64))).map u64), .box b3 24 [.int .i64 (0), .slice none 0 0], .box b2 24 [.int .i64 (m), .slice A2 vs.length c2], .box b1 24 [.int .i64 (n), .slice A1 ws.length c1]] rfl rfl rfl ?_; intro w hM
          refine RW.nil ?_
          refine CW.region ?_
          refine RW.step (Ex.add rfl rfl (by omega) (by omega)) rfl rfl rfl ?_
          refine RW.step (Ex.move (.int .i64 ((k : Int) + 1)) rfl) rfl rfl rfl ?_
          refine RW.nil ?_
          refine And.intro rfl (Exists.intro (k + 1) (And.intro ⟨sl_canon ⟨rfl, rfl, rfl, rfl, rfl, rfl, rfl, (show Value.int _ _ = Value.int _ _ from congrArg (Value.int _) (by omega)), trivial⟩, (by rw [← mixK_step (x := (fun a b => a ||| b) (ws.getD k 0#64) (vs.getD k 0#64)) (by rw [List.length_zipWith]; first | omega | (rw [List.length_replicate]; omega)) (zip_get (by omega) (by omega))]; exact hM), (by omega), trivial⟩ (by omega)))
        · -- no: (k : Int) < (ws.length : Int)
          refine CW.exit ?_
          refine CW.seq ?_
          refine CW.region ?_
          refine RW.step (Ex.fieldAddr fa24_0 rfl) rfl rfl rfl ?_
          refine RW.step (Ex.load1 hM 3 to3 rfl rfl rfl) rfl rfl rfl ?_
          refine RW.step (Ex.move (.slice (some ⟨b7, 0, none⟩) ws.length ws.length) rfl) rfl rfl rfl ?_
          refine RW.step (Ex.build bs24 [(0, .int .i64 (n)), (1, .slice (some ⟨b7, 0, none⟩) ws.length ws.length)] [.int .i64 (n), .slice (some ⟨b7, 0, none⟩) ws.length ws.length] rfl rfl) rfl rfl rfl ?_
          refine RW.store hM 1 (.agg #[.int .i64 (n), .slice (some ⟨b7, 0, none⟩) ws.length ws.length]) [.int .i64 (n), .slice (some ⟨b7, 0, none⟩) ws.length ws.length] [.int .i64 (n), .slice (some ⟨b7, 0, none⟩) ws.length ws.length] sz24 rfl rfl rfl (oneAll ⟨rfl, rfl, trivial⟩) rfl (Nat.le_of_ble_eq_true rfl) rfl [.row (.slice (some ⟨b7, 0, none⟩) ws.length ws.length) 55 1 ws.length ((mixK (List.zipWith (fun a b => a ||| b) ws vs) (List.replicate ws.length 0#64) k).map u64), .box b3 24 [.int .i64 (n), .slice (some ⟨b7, 0, none⟩) ws.length ws.length], .box b2 24 [.int .i64 (m), .slice A2 vs.length c2], .box b1 24 [.int .i64 (n), .slice A1 ws.length c1]] rfl rfl rfl ?_; intro w hM
          refine RW.step (Ex.assign (.int .i64 (0)) rfl) rfl rfl rfl ?_
          refine RW.nil ?_
          refine CW.ret ?_
          refine end_cell_tmp (k := 1) (.inl rfl) rfl hM rfl (.int .i64 (0)) rfl ta24 [.int .i64 (n), .slice (some ⟨b7, 0, none⟩) ws.length ws.length] rfl rfl ?_
          have hzl : (List.zipWith (fun a b => a ||| b) ws vs).length = (List.replicate ws.length 0#64).length := by rw [List.length_zipWith]; first | omega | (rw [List.length_replicate]; omega)
          obtain ⟨H9, hM9, hle9, hr9⟩ := hM.giveRow (k := 0) rfl
          exact ⟨_, _, hM9, BRv.ok (by rw [mixK_full hzl (by first | omega | (rw [List.length_replicate]; omega))]; exact bothR_ok (bothE_4 hc4 hc5 hc6)) (by first | rw [mixK_length hzl, List.length_replicate] | rw [mixK_length hzl]) hr9⟩

theorem rOr_ret (H : Hp) (A1 : Option Addr) (n : Int) (c1 : Nat) (ws : List (BitVec 64)) (hr1 : RdC H A1 ws.length c1 1 (ws.map u64)) (A2 : Option Addr) (m : Int) (c2 : Nat) (vs : List (BitVec 64)) (hr2 : RdC H A2 vs.length c2 1 (vs.map u64)) : Ret Tryd.prog 34 #[.agg #[.int .i64 n, .slice A1 ws.length c1], .agg #[.int .i64 m, .slice A2 vs.length c2]] H (BRv (bothR (fun a b => a ||| b) n ws m vs)) := by
  have hL := hr1.2.2.1
  have hL1 := hr1.2.1
  unfold maxLen at hL
  have hK := hr2.2.2.1
  have hK1 := hr2.2.1
  unfold maxLen at hK
  refine Ret.of_code Tryd.func34 rfl (Nat.le_of_ble_eq_true rfl) fun w0 hM => ?_
  refine CW.seq ?_
  refine CW.region ?_
  refine RW.box hM (.agg #[.int .i64 (n), .slice A1 ws.length c1]) [.int .i64 (n), .slice A1 ws.length c1] rfl rfl rfl rfl ?_; intro b1 w hM
  refine RW.box hM (.agg #[.int .i64 (m), .slice A2 vs.length c2]) [.int .i64 (m), .slice A2 vs.length c2] rfl rfl rfl rfl ?_; intro b2 w hM
  refine RW.alloc hM tz24 [.int .i64 (0), .slice none 0 0] rfl rfl rfl ?_; intro b3 w hM
  refine RW.step (Ex.assign (.int .i64 (0)) rfl) rfl rfl rfl ?_
  refine RW.nil ?_
  refine CW.seq ?_
  refine CW.seq ?_
  refine CW.region ?_
  refine RW.step (Ex.loadA hM 2 [.int .i64 (n), .slice A1 ws.length c1] ta24 rfl rfl rfl rfl) rfl rfl rfl ?_
  refine RW.step (Ex.loadA hM 1 [.int .i64 (m), .slice A2 vs.length c2] ta24 rfl rfl rfl rfl) rfl rfl rfl ?_
  refine RW.callV hM (rboth_ret _ _ n _ ws hr1 _ m _ vs hr2) en49 rfl rfl rfl rfl ?_; intro w hM
  refine RW.step (Ex.assign (.int .i64 (bothE n ws m vs)) rfl) rfl rfl rfl ?_
  refine RW.nil ?_
  refine CW.seq ?_
  refine CW.region ?_
  refine RW.step (Ex.move (.int .i64 (bothE n ws m vs)) rfl) rfl rfl rfl ?_
  refine RW.step (Ex.neq rfl rfl) rfl rfl rfl ?_
  refine RW.nil ?_
  refine CW.cond_dec rfl (fun hc4 => ?_) (fun hc4 => ?_)
  · -- yes: (bothE n ws m vs) ≠ 0
    refine CW.seq ?_
    refine CW.region ?_
    refine RW.step (Ex.build bs24 [] [.int .i64 (0), .slice none 0 0] rfl rfl) rfl rfl rfl ?_
    refine RW.step (Ex.move (.int .i64 (bothE n ws m vs)) rfl) rfl rfl rfl ?_
    refine RW.store hM 0 (.agg #[.int .i64 (0), .slice none 0 0]) [.int .i64 (0), .slice none 0 0] [.int .i64 (0), .slice none 0 0] sz24 rfl rfl rfl (oneAll ⟨rfl, rfl, trivial⟩) rfl (Nat.le_of_ble_eq_true rfl) rfl [.box b3 24 [.int .i64 (0), .slice none 0 0], .box b2 24 [.int .i64 (m), .slice A2 vs.length c2], .box b1 24 [.int .i64 (n), .slice A1 ws.length c1]] rfl rfl rfl ?_; intro w hM
    refine RW.step (Ex.assign (.int .i64 (bothE n ws m vs)) rfl) rfl rfl rfl ?_
    refine RW.nil ?_
    refine CW.ret ?_
    refine thenQ_ret ?_
    refine end_cell_tmp (k := 0) (.inl rfl) rfl hM rfl (.int .i64 (bothE n ws m vs)) rfl ta24 [.int .i64 (0), .slice none 0 0] rfl rfl ?_
    exact ⟨_, _, hM, BRv.bad (bothR_bad rfl hc4) rfl⟩
  · -- no: (bothE n ws m vs) ≠ 0
    have hb := Classical.not_not.1 hc4
    have hbo := bothE_ok hb
    have hwl := wf_len hbo.1
    have hwl2 := wf_len hbo.2.1
    have hll : ws.length = vs.length := by have := hbo.2.2; omega
    refine CW.skip ?_
    refine CW.seq ?_
    refine CW.region ?_
    refine RW.step (Ex.loadA hM 2 [.int .i64 (n), .slice A1 ws.length c1] ta24 rfl rfl rfl rfl) rfl rfl rfl ?_
    refine RW.callO hM (copy_ret _ _ n _ ws hr1 (by omega)) en50 rfl rfl rfl rfl ?_; rintro _ w _ ⟨A5, c6, rfl, rfl⟩ hM
    replace hM : Mem w0 H w H [.row (.slice A5 ws.length c6) 55 1 ws.length (ws.map u64), .box b3 24 [.int .i64 (0), .slice none 0 0], .box b2 24 [.int .i64 (m), .slice A2 vs.length c2], .box b1 24 [.int .i64 (n), .slice A1 ws.length c1]] := hM
    refine RW.alloc hM tz24 [.int .i64 (0), .slice none 0 0] rfl rfl rfl ?_; intro b7 w hM
    refine RW.store hM 0 (.agg #[.int .i64 (n), .slice A5 ws.length c6]) [.int .i64 (n), .slice A5 ws.length c6] [.int .i64 (n), .slice A5 ws.length c6] sz24 rfl rfl rfl (oneAll ⟨rfl, rfl, trivial⟩) rfl (Nat.le_of_ble_eq_true rfl) rfl [.box b7 24 [.int .i64 (n), .slice A5 ws.length c6], .row (.slice A5 ws.length c6) 55 1 ws.length (ws.map u64), .box b3 24 [.int .i64 (0), .slice none 0 0], .box b2 24 [.int .i64 (m), .slice A2 vs.length c2], .box b1 24 [.int .i64 (n), .slice A1 ws.length c1]] rfl rfl rfl ?_; intro w hM
    refine RW.nil ?_
    refine CW.seq ?_
    refine CW.seq ?_
    refine CW.region ?_
    refine RW.step (Ex.assign (.int .i64 (0)) rfl) rfl rfl rfl ?_
    refine RW.nil ?_
    refine CW.block ?_
    refine CW.loop (β := Nat) (fun (k : Nat) σ w => (∃ τ, σ = sl [(2, .pointer (some ⟨b1, 0, none⟩)), (3, .pointer (some ⟨b2, 0, none⟩)), (4, .pointer (some ⟨b3, 0, none⟩)), (5, .int .i64 (0)), (7, .pointer (some ⟨b7, 0, none⟩)), (8, .int .i64 ((k : Int)))] τ) ∧ Mem w0 H w H [.box b7 24 [.int .i64 (n), .slice A5 ws.length c6], .row (.slice A5 ws.length c6) 55 1 ws.length ((mixK (List.zipWith (fun a b => a ||| b) ws vs) ws k).map u64), .box b3 24 [.int .i64 (0), .slice none 0 0], .box b2 24 [.int .i64 (m), .slice A2 vs.length c2], .box b1 24 [.int .i64 (n), .slice A1 ws.length c1]] ∧ (k ≤ ws.length) ∧ True) (fun k => ws.length - k) (0) ⟨sl_canon ⟨rfl, rfl, rfl, rfl, rfl, (show Value.int _ _ = Value.int _ _ from congrArg (Value.int _) (by omega)), trivial⟩, (by rw [mixK_zero]; exact hM), (by omega), trivial⟩ ?_
    rintro k _ w ⟨⟨τ, rfl⟩, hM, hk, -⟩
    refine CW.seq ?_
    refine CW.seq ?_
    refine CW.region ?_
    refine RW.step (Ex.move (.int .i64 ((k : Int))) rfl) rfl rfl rfl ?_
    refine RW.step (Ex.fieldAddr fa24_1 rfl) rfl rfl rfl ?_
    refine RW.step (Ex.load1 hM 0 to22 rfl rfl rfl) rfl rfl rfl ?_
    refine RW.step (Ex.len st22.1 rfl) rfl rfl rfl ?_
    refine RW.step (Ex.lss rfl rfl) rfl rfl rfl ?_
    refine RW.nil ?_
    refine CW.cond_dec rfl (fun hc8 => ?_) (fun hc8 => ?_)
    · -- yes: (k : Int) < (ws.length : Int)
      refine CW.skip ?_
      refine CW.seq ?_
      refine CW.block ?_
      refine CW.drawE 14 [.pointer (some ⟨b7, 1, none⟩), .slice A5 ws.length c6, .int .i64 ((k : Int)), .pointer (some ⟨b1, 1, none⟩), .slice A1 ws.length c1, .int .i64 ((k : Int)), elp A1 (k * 1 + 0), u64 (ws.getD k 0#64), .pointer (some ⟨b2, 1, none⟩), .slice A2 vs.length c2, .int .i64 ((k : Int)), elp A2 (k * 1 + 0), u64 (vs.getD k 0#64), u64 ((ws.getD k 0#64) ||| (vs.getD k 0#64))]
        [[(7, none)], [(25, some 0)], [(8, none)], [(2, none)], [(28, some 3)], [(8, none)], [(29, some 4), (30, some 5)], [(31, some 6)], [(3, none)], [(33, some 8)], [(8, none)], [(34, some 9), (35, some 10)], [(36, some 11)], [(32, some 7), (37, some 12)]] [(2, none), (3, none), (4, none), (5, none), (7, none), (8, none), (18, none), (19, none), (20, none), (21, none), (22, none), (25, some 0), (26, some 1), (27, some 2), (28, some 3), (29, some 4), (30, some 5), (31, some 6), (32, some 7), (33, some 8), (34, some 9), (35, some 10), (36, some 11), (37, some 12), (38, some 13)] (by kernel_rfl) hM (by kernel_rfl) ⟨?_, ?_, ?_, ?_, ?_, ?_, ?_, ?_, ?_, ?_, ?_, ?_, ?_, ?_, trivial⟩ ?_
      · exact One.ex (fun H' τ w hled hM => Ex.fieldAddr fa24_1 rfl) rfl (fun _ => rfl) rfl
      · exact One.ex (fun H' τ w hled hM => Ex.load1 hM 0 to22 rfl rfl rfl) rfl (fun _ => rfl) rfl
      · exact One.ex (fun H' τ w hled hM => Ex.move (.int .i64 ((k : Int))) rfl) rfl (fun _ => rfl) rfl
      · exact One.ex (fun H' τ w hled hM => Ex.fieldAddr fa24_1 rfl) rfl (fun _ => rfl) rfl
      · exact One.ex (fun H' τ w hled hM => Ex.load1 hM 4 to22 rfl rfl rfl) rfl (fun _ => rfl) rfl
      · exact One.ex (fun H' τ w hled hM => Ex.move (.int .i64 ((k : Int))) rfl) rfl (fun _ => rfl) rfl
      · exact One.ex (fun H' τ w hled hM => Ex.index st22 rfl rfl k (hr1.ne (by omega)) (by omega) (by omega)) rfl (fun _ => rfl) rfl
      · exact One.ex (fun H' τ w hled hM => Ex.loadE hM hled hr1 to55 rfl (getW (by omega))) rfl (fun _ => rfl) rfl
      · exact One.ex (fun H' τ w hled hM => Ex.fieldAddr fa24_1 rfl) rfl (fun _ => rfl) rfl
      · exact One.ex (fun H' τ w hled hM => Ex.load1 hM 3 to22 rfl rfl rfl) rfl (fun _ => rfl) rfl
      · exact One.ex (fun H' τ w hled hM => Ex.move (.int .i64 ((k : Int))) rfl) rfl (fun _ => rfl) rfl
      · exact One.ex (fun H' τ w hled hM => Ex.index st22 rfl rfl k (hr2.ne (by omega)) (by omega) (by omega)) rfl (fun _ => rfl) rfl
      · exact One.ex (fun H' τ w hled hM => Ex.loadE hM hled hr2 to55 rfl (getW (by omega))) rfl (fun _ => rfl) rfl
      · exact One.ex (fun H' τ w hled hM => Ex.or64 (a := ws.getD k 0#64) (b := vs.getD k 0#64) rfl rfl) rfl (fun _ => rfl) rfl
      intro τ w hM
      change RW _ _ _ _ _ _ _ _ (sl [(2, .pointer (some ⟨b1, 0, none⟩)), (3, .pointer (some ⟨b2, 0, none⟩)), (4, .pointer (some ⟨b3, 0, none⟩)), (5, .int .i64 (0)), (7, .pointer (some ⟨b7, 0, none⟩)), (8, .int .i64 ((k : Int))), (18, .int .i64 ((k : Int))), (19, .pointer (some ⟨b7, 1, none⟩)), (20, .slice A5 ws.length c6), (21, .int .i64 ((ws.length : Int))), (22, .bool (decide ((k : Int) < (ws.length : Int)))), (25, .pointer (some ⟨b7, 1, none⟩)), (26, .slice A5 ws.length c6), (27, .int .i64 ((k : Int))), (28, .pointer (some ⟨b1, 1, none⟩)), (29, .slice A1 ws.length c1), (30, .int .i64 ((k : Int))), (31, elp A1 (k * 1 + 0)), (32, u64 (ws.getD k 0#64)), (33, .pointer (some ⟨b2, 1, none⟩)), (34, .slice A2 vs.length c2), (35, .int .i64 ((k : Int))), (36, elp A2 (k * 1 + 0)), (37, u64 (vs.getD k 0#64)), (38, u64 ((ws.getD k 0#64) ||| (vs.getD k 0#64)))] τ) _
      refine RW.step (Ex.index st22 rfl rfl k (hM.rowNe (k := 1) rfl (by omega)) (by omega) (by omega)) rfl rfl rfl ?_
      refine RW.storeR hM 1 (k * 1 + 0) (u64 ((ws.getD k 0#64) ||| (vs.getD k 0#64))) [u64 ((ws.getD k 0#64) ||| (vs.getD k 0#64))] (((mixK (List.zipWith (fun a b => a ||| b) ws vs) ws k).set k ((ws.getD k 0#64) ||| (vs.getD k 0#64))).map u64) sz55 rfl (hM.rowNe (k := 1) rfl (by omega)) rfl rfl (oneAll ⟨rfl, trivial⟩) rfl (by simp only [List.length_map, List.length_cons, List.length_nil]; first | omega | (rw [chK_length]; omega) | (rw [chW_length]; omega) | (rw [List.length_replicate]; omega) | (rw [mixK_length (by rw [List.length_zipWith, List.length_replicate]; omega)]; first | omega | (rw [List.length_replicate]; omega)) | (rw [mixK_length (by rw [List.length_zipWith]; omega)]; omega)) (setW (by first | omega | (rw [chK_length]; omega) | (rw [chW_length]; omega) | (rw [List.length_replicate]; omega) | (rw [mixK_length (by rw [List.length_zipWith, List.length_replicate]; omega)]; first | omega | (rw [List.length_replicate]; omega)) | (rw [mixK_length (by rw [List.length_zipWith]; omega)]; omega))) [.box b7 24 [.int .i64 (n), .slice A5 ws.length c6], .row (.slice A5 ws.length c6) 55 1 ws.length (((mixK (List.zipWith (fun a b => a ||| b) ws vs) ws k).set k ((ws.getD k 0#64) ||| (vs.getD k 0#64))).map u64), .box b3 24 [.int .i64 (0), .slice none 0 0], .box b2 24 [.int .i64 (m), .slice A2 vs.length c2], .box b1 24 [.int .i64 (n), .slice A1 ws.length c1]] rfl rfl rfl ?_; intro w hM
      refine RW.nil ?_
      refine CW.region ?_
      refine RW.step (Ex.move (.int .i64 ((k : Int))) rfl) rfl rfl rfl ?_
      refine RW.step (Ex.add rfl rfl (by omega) (by omega)) rfl rfl rfl ?_
      refine RW.step (Ex.assign (.int .i64 ((k : Int) + 1)) rfl) rfl rfl rfl ?_
      refine RW.nil ?_
      refine And.intro rfl (Exists.intro (k + 1) (And.intro ⟨sl_canon ⟨rfl, rfl, rfl, rfl, rfl, (show Value.int _ _ = Value.int _ _ from congrArg (Value.int _) (by omega)), trivial⟩, (by rw [← mixK_step (x := (fun a b => a ||| b) (ws.getD k 0#64) (vs.getD k 0#64)) (by rw [List.length_zipWith]; first | omega | (rw [List.length_replicate]; omega)) (zip_get (by omega) (by omega))]; exact hM), (by omega), trivial⟩ (by omega)))
    · -- no: (k : Int) < (ws.length : Int)
      refine CW.exit ?_
      refine CW.seq ?_
      refine CW.region ?_
      refine RW.step (Ex.loadA hM 0 [.int .i64 (n), .slice A5 ws.length c6] ta24 rfl rfl rfl rfl) rfl rfl rfl ?_
      refine RW.store hM 2 (.agg #[.int .i64 (n), .slice A5 ws.length c6]) [.int .i64 (n), .slice A5 ws.length c6] [.int .i64 (n), .slice A5 ws.length c6] sz24 rfl rfl rfl (oneAll ⟨rfl, rfl, trivial⟩) rfl (Nat.le_of_ble_eq_true rfl) rfl [.box b7 24 [.int .i64 (n), .slice A5 ws.length c6], .row (.slice A5 ws.length c6) 55 1 ws.length ((mixK (List.zipWith (fun a b => a ||| b) ws vs) ws k).map u64), .box b3 24 [.int .i64 (n), .slice A5 ws.length c6], .box b2 24 [.int .i64 (m), .slice A2 vs.length c2], .box b1 24 [.int .i64 (n), .slice A1 ws.length c1]] rfl rfl rfl ?_; intro w hM
      refine RW.step (Ex.assign (.int .i64 (0)) rfl) rfl rfl rfl ?_
      refine RW.nil ?_
      refine CW.ret ?_
      refine end_cell_tmp (k := 2) (.inl rfl) rfl hM rfl (.int .i64 (0)) rfl ta24 [.int .i64 (n), .slice A5 ws.length c6] rfl rfl ?_
      have hzl : (List.zipWith (fun a b => a ||| b) ws vs).length = ws.length := by rw [List.length_zipWith]; first | omega | (rw [List.length_replicate]; omega)
      obtain ⟨H9, hM9, hle9, hr9⟩ := hM.giveRow (k := 1) rfl
      exact ⟨_, _, hM9, BRv.ok (by rw [mixK_full hzl (by first | omega | (rw [List.length_replicate]; omega))]; exact bothR_ok hb) (by first | rw [mixK_length hzl, List.length_replicate] | rw [mixK_length hzl]) hr9⟩

theorem both_and_ret (H : Hp) (A1 : Option Addr) (n : Int) (c1 : Nat) (ws : List (BitVec 64)) (hr1 : RdC H A1 ws.length c1 1 (ws.map u64)) (A2 : Option Addr) (m : Int) (c2 : Nat) (vs : List (BitVec 64)) (hr2 : RdC H A2 vs.length c2 1 (vs.map u64)) : Ret Tryd.prog 47 #[.agg #[.int .i64 n, .slice A1 ws.length c1], .agg #[.int .i64 m, .slice A2 vs.length c2], .func (.func 51) #[] #[]] H (BRv (bothR (fun a b => a &&& b) n ws m vs)) := by
  have hL := hr1.2.2.1
  have hL1 := hr1.2.1
  unfold maxLen at hL
  have hK := hr2.2.2.1
  have hK1 := hr2.2.1
  unfold maxLen at hK
  refine Ret.of_code Tryd.func47 rfl (Nat.le_of_ble_eq_true rfl) fun w0 hM => ?_
  refine CW.seq ?_
  refine CW.region ?_
  refine RW.box hM (.agg #[.int .i64 (n), .slice A1 ws.length c1]) [.int .i64 (n), .slice A1 ws.length c1] rfl rfl rfl rfl ?_; intro b1 w hM
  refine RW.box hM (.agg #[.int .i64 (m), .slice A2 vs.length c2]) [.int .i64 (m), .slice A2 vs.length c2] rfl rfl rfl rfl ?_; intro b2 w hM
  refine RW.alloc hM tz24 [.int .i64 (0), .slice none 0 0] rfl rfl rfl ?_; intro b3 w hM
  refine RW.step (Ex.assign (.int .i64 (0)) rfl) rfl rfl rfl ?_
  refine RW.nil ?_
  refine CW.seq ?_
  refine CW.seq ?_
  refine CW.region ?_
  refine RW.step (Ex.loadA hM 2 [.int .i64 (n), .slice A1 ws.length c1] ta24 rfl rfl rfl rfl) rfl rfl rfl ?_
  refine RW.callV hM (check_ret _ _ n _ ws hr1) en20 rfl rfl rfl rfl ?_; intro w hM
  refine RW.step (Ex.assign (.int .i64 (chk n ws)) rfl) rfl rfl rfl ?_
  refine RW.nil ?_
  refine CW.seq ?_
  refine CW.region ?_
  refine RW.step (Ex.move (.int .i64 (chk n ws)) rfl) rfl rfl rfl ?_
  refine RW.step (Ex.neq rfl rfl) rfl rfl rfl ?_
  refine RW.nil ?_
  refine CW.cond_dec rfl (fun hc4 => ?_) (fun hc4 => ?_)
  · -- yes: (chk n ws) ≠ 0
    refine CW.seq ?_
    refine CW.region ?_
    refine RW.step (Ex.build bs24 [] [.int .i64 (0), .slice none 0 0] rfl rfl) rfl rfl rfl ?_
    refine RW.step (Ex.move (.int .i64 (chk n ws)) rfl) rfl rfl rfl ?_
    refine RW.store hM 0 (.agg #[.int .i64 (0), .slice none 0 0]) [.int .i64 (0), .slice none 0 0] [.int .i64 (0), .slice none 0 0] sz24 rfl rfl rfl (oneAll ⟨rfl, rfl, trivial⟩) rfl (Nat.le_of_ble_eq_true rfl) rfl [.box b3 24 [.int .i64 (0), .slice none 0 0], .box b2 24 [.int .i64 (m), .slice A2 vs.length c2], .box b1 24 [.int .i64 (n), .slice A1 ws.length c1]] rfl rfl rfl ?_; intro w hM
    refine RW.step (Ex.assign (.int .i64 (chk n ws)) rfl) rfl rfl rfl ?_
    refine RW.nil ?_
    refine CW.ret ?_
    refine thenQ_ret ?_
    refine end_cell_tmp (k := 0) (.inl rfl) rfl hM rfl (.int .i64 (chk n ws)) rfl ta24 [.int .i64 (0), .slice none 0 0] rfl rfl ?_
    exact ⟨_, _, hM, BRv.bad (bothR_bad (bothE_1 hc4) (by decide)) (chk_ne hc4)⟩
  · -- no: (chk n ws) ≠ 0
    have hwl := wf_len (Classical.not_not.1 hc4)
    refine CW.skip ?_
    refine CW.seq ?_
    refine CW.seq ?_
    refine CW.region ?_
    refine RW.step (Ex.loadA hM 1 [.int .i64 (m), .slice A2 vs.length c2] ta24 rfl rfl rfl rfl) rfl rfl rfl ?_
    refine RW.callV hM (check_ret _ _ m _ vs hr2) en20 rfl rfl rfl rfl ?_; intro w hM
    refine RW.step (Ex.assign (.int .i64 (chk m vs)) rfl) rfl rfl rfl ?_
    refine RW.nil ?_
    refine CW.seq ?_
    refine CW.region ?_
    refine RW.step (Ex.move (.int .i64 (chk m vs)) rfl) rfl rfl rfl ?_
    refine RW.step (Ex.neq rfl rfl) rfl rfl rfl ?_
    refine RW.nil ?_
    refine CW.cond_dec rfl (fun hc5 => ?_) (fun hc5 => ?_)
    · -- yes: (chk m vs) ≠ 0
      refine CW.seq ?_
      refine CW.region ?_
      refine RW.step (Ex.build bs24 [] [.int .i64 (0), .slice none 0 0] rfl rfl) rfl rfl rfl ?_
      refine RW.step (Ex.move (.int .i64 (chk m vs)) rfl) rfl rfl rfl ?_
      refine RW.store hM 0 (.agg #[.int .i64 (0), .slice none 0 0]) [.int .i64 (0), .slice none 0 0] [.int .i64 (0), .slice none 0 0] sz24 rfl rfl rfl (oneAll ⟨rfl, rfl, trivial⟩) rfl (Nat.le_of_ble_eq_true rfl) rfl [.box b3 24 [.int .i64 (0), .slice none 0 0], .box b2 24 [.int .i64 (m), .slice A2 vs.length c2], .box b1 24 [.int .i64 (n), .slice A1 ws.length c1]] rfl rfl rfl ?_; intro w hM
      refine RW.step (Ex.assign (.int .i64 (chk m vs)) rfl) rfl rfl rfl ?_
      refine RW.nil ?_
      refine CW.ret ?_
      refine thenQ_ret ?_
      refine end_cell_tmp (k := 0) (.inl rfl) rfl hM rfl (.int .i64 (chk m vs)) rfl ta24 [.int .i64 (0), .slice none 0 0] rfl rfl ?_
      exact ⟨_, _, hM, BRv.bad (bothR_bad (bothE_2 hc4 hc5) (by decide)) (chk_ne hc5)⟩
    · -- no: (chk m vs) ≠ 0
      have hwl2 := wf_len (Classical.not_not.1 hc5)
      refine CW.skip ?_
      refine CW.seq ?_
      refine CW.seq ?_
      refine CW.region ?_
      refine RW.step (Ex.fieldAddr fa24_0 rfl) rfl rfl rfl ?_
      refine RW.step (Ex.load1 hM 2 to3 rfl rfl rfl) rfl rfl rfl ?_
      refine RW.step (Ex.fieldAddr fa24_0 rfl) rfl rfl rfl ?_
      refine RW.step (Ex.load1 hM 1 to3 rfl rfl rfl) rfl rfl rfl ?_
      refine RW.step (Ex.neq rfl rfl) rfl rfl rfl ?_
      refine RW.nil ?_
      refine CW.cond_dec rfl (fun hc6 => ?_) (fun hc6 => ?_)
      · -- yes: n ≠ m
        refine CW.seq ?_
        refine CW.region ?_
        refine RW.step (Ex.build bs24 [] [.int .i64 (0), .slice none 0 0] rfl rfl) rfl rfl rfl ?_
        refine RW.store hM 0 (.agg #[.int .i64 (0), .slice none 0 0]) [.int .i64 (0), .slice none 0 0] [.int .i64 (0), .slice none 0 0] sz24 rfl rfl rfl (oneAll ⟨rfl, rfl, trivial⟩) rfl (Nat.le_of_ble_eq_true rfl) rfl [.box b3 24 [.int .i64 (0), .slice none 0 0], .box b2 24 [.int .i64 (m), .slice A2 vs.length c2], .box b1 24 [.int .i64 (n), .slice A1 ws.length c1]] rfl rfl rfl ?_; intro w hM
        refine RW.step (Ex.assign (.int .i64 (22)) rfl) rfl rfl rfl ?_
        refine RW.nil ?_
        refine CW.ret ?_
        refine thenQ_ret ?_
        refine end_cell_tmp (k := 0) (.inl rfl) rfl hM rfl (.int .i64 (22)) rfl ta24 [.int .i64 (0), .slice none 0 0] rfl rfl ?_
        exact ⟨_, _, hM, BRv.bad (bothR_bad (bothE_3 hc4 hc5 hc6) (by decide)) rfl⟩
      · -- no: n ≠ m
        have hnm := Classical.not_not.1 hc6
        have hll : ws.length = vs.length := by omega
        refine CW.skip ?_
        refine CW.seq ?_
        refine CW.region ?_
        refine RW.step (Ex.fieldAddr fa24_1 rfl) rfl rfl rfl ?_
        refine RW.step (Ex.load1 hM 2 to22 rfl rfl rfl) rfl rfl rfl ?_
        refine RW.step (Ex.len st22.1 rfl) rfl rfl rfl ?_
        refine RW.make hM st22 tz55 ws.length rfl rfl (by omega) (by omega) (by unfold maxLen; omega) rfl rfl ?_; intro b7 w hM
        rw [madeW] at hM
        refine RW.step (Ex.assign (.slice (some ⟨b7, 0, none⟩) ws.length ws.length) rfl) rfl rfl rfl ?_
        refine RW.nil ?_
        refine CW.seq ?_
        refine CW.seq ?_
        refine CW.region ?_
        refine RW.step (Ex.move (.slice (some ⟨b7, 0, none⟩) ws.length ws.length) rfl) rfl rfl rfl ?_
        refine RW.step (Ex.len st22.1 rfl) rfl rfl rfl ?_
        refine RW.step (Ex.move (.int .i64 (0)) rfl) rfl rfl rfl ?_
        refine RW.nil ?_
        refine CW.block ?_
        refine CW.loop (β := Nat) (fun (k : Nat) σ w => (∃ τ, σ = sl [(2, .func (.func 51) #[] #[]), (3, .pointer (some ⟨b1, 0, none⟩)), (4, .pointer (some ⟨b2, 0, none⟩)), (6, .pointer (some ⟨b3, 0, none⟩)), (7, .int .i64 (0)), (10, .slice (some ⟨b7, 0, none⟩) ws.length ws.length), (35, .int .i64 ((ws.length : Int))), (36, .int .i64 ((k : Int)))] τ) ∧ Mem w0 H w H [.row (.slice (some ⟨b7, 0, none⟩) ws.length ws.length) 55 1 ws.length ((mixK (List.zipWith (fun a b => a &&& b) ws vs) (List.replicate ws.length 0#64) k).map u64), .box b3 24 [.int .i64 (0), .slice none 0 0], .box b2 24 [.int .i64 (m), .slice A2 vs.length c2], .box b1 24 [.int .i64 (n), .slice A1 ws.length c1]] ∧ (k ≤ ws.length) ∧ True) (fun k => ws.length - k) (0) ⟨sl_canon ⟨rfl, rfl, rfl, rfl, rfl, rfl, rfl, (show Value.int _ _ = Value.int _ _ from congrArg (Value.int _) (by omega)), trivial⟩, (by rw [mixK_zero]; exact hM), (by omega), trivial⟩ ?_
        rintro k _ w ⟨⟨τ, rfl⟩, hM, hk, -⟩
        refine CW.seq ?_
        refine CW.region ?_
        refine RW.step (Ex.lss rfl rfl) rfl rfl rfl ?_
        refine RW.nil ?_
        refine CW.seq ?_
        refine CW.cond_dec rfl (fun hc8 => ?_) (fun hc8 => ?_)
        · -- yes: (k : Int) < (ws.length : Int)
          refine CW.skip ?_
          refine CW.seq ?_
          refine CW.block ?_
          refine CW.seq ?_
          refine CW.region ?_
          refine RW.step (Ex.move (.int .i64 ((k : Int))) rfl) rfl rfl rfl ?_
          refine RW.step (Ex.assign (.int .i64 ((k : Int))) rfl) rfl rfl rfl ?_
          refine RW.nil ?_
          refine CW.drawE 14 [.slice (some ⟨b7, 0, none⟩) ws.length ws.length, .int .i64 ((k : Int)), .func (.func 51) #[] #[], .pointer (some ⟨b1, 1, none⟩), .slice A1 ws.length c1, .int .i64 ((k : Int)), elp A1 (k * 1 + 0), u64 (ws.getD k 0#64), .pointer (some ⟨b2, 1, none⟩), .slice A2 vs.length c2, .int .i64 ((k : Int)), elp A2 (k * 1 + 0), u64 (vs.getD k 0#64), u64 ((ws.getD k 0#64) &&& (vs.getD k 0#64))]
            [[(10, none)], [(11, none)], [(2, none)], [(3, none)], [(42, some 3)], [(11, none)], [(43, some 4), (44, some 5)], [(45, some 6)], [(4, none)], [(47, some 8)], [(11, none)], [(48, some 9), (49, some 10)], [(50, some 11)], [(41, some 2), (46, some 7), (51, some 12)]] [(2, none), (3, none), (4, none), (6, none), (7, none), (10, none), (11, none), (35, none), (36, none), (37, none), (38, none), (39, some 0), (40, some 1), (41, some 2), (42, some 3), (43, some 4), (44, some 5), (45, some 6), (46, some 7), (47, some 8), (48, some 9), (49, some 10), (50, some 11), (51, some 12), (52, some 13)] (by kernel_rfl) hM (by kernel_rfl) ⟨?_, ?_, ?_, ?_, ?_, ?_, ?_, ?_, ?_, ?_, ?_, ?_, ?_, ?_, trivial⟩ ?_
          · exact One.ex (fun H' τ w hled hM => Ex.move (.slice (some ⟨b7, 0, none⟩) ws.length ws.length) rfl) rfl (fun _ => rfl) rfl
          · exact One.ex (fun H' τ w hled hM => Ex.move (.int .i64 ((k : Int))) rfl) rfl (fun _ => rfl) rfl
          · exact One.ex (fun H' τ w hled hM => Ex.move (.func (.func 51) #[] #[]) rfl) rfl (fun _ => rfl) rfl
          · exact One.ex (fun H' τ w hled hM => Ex.fieldAddr fa24_1 rfl) rfl (fun _ => rfl) rfl
          · exact One.ex (fun H' τ w hled hM => Ex.load1 hM 3 to22 rfl rfl rfl) rfl (fun _ => rfl) rfl
          · exact One.ex (fun H' τ w hled hM => Ex.move (.int .i64 ((k : Int))) rfl) rfl (fun _ => rfl) rfl
          · exact One.ex (fun H' τ w hled hM => Ex.index st22 rfl rfl k (hr1.ne (by omega)) (by omega) (by omega)) rfl (fun _ => rfl) rfl
          · exact One.ex (fun H' τ w hled hM => Ex.loadE hM hled hr1 to55 rfl (getW (by omega))) rfl (fun _ => rfl) rfl
          · exact One.ex (fun H' τ w hled hM => Ex.fieldAddr fa24_1 rfl) rfl (fun _ => rfl) rfl
          · exact One.ex (fun H' τ w hled hM => Ex.load1 hM 2 to22 rfl rfl rfl) rfl (fun _ => rfl) rfl
          · exact One.ex (fun H' τ w hled hM => Ex.move (.int .i64 ((k : Int))) rfl) rfl (fun _ => rfl) rfl
          · exact One.ex (fun H' τ w hled hM => Ex.index st22 rfl rfl k (hr2.ne (by omega)) (by omega) (by omega)) rfl (fun _ => rfl) rfl
          · exact One.ex (fun H' τ w hled hM => Ex.loadE hM hled hr2 to55 rfl (getW (by omega))) rfl (fun _ => rfl) rfl
          · exact One.call (and1_ret _ (ws.getD k 0#64) (vs.getD k 0#64)) en51 (fun _ => rfl) (fun _ => rfl) (fun _ => rfl) rfl
          intro τ w hM
          change RW _ _ _ _ _ _ _ _ (sl [(2, .func (.func 51) #[] #[]), (3, .pointer (some ⟨b1, 0, none⟩)), (4, .pointer (some ⟨b2, 0, none⟩)), (6, .pointer (some ⟨b3, 0, none⟩)), (7, .int .i64 (0)), (10, .slice (some ⟨b7, 0, none⟩) ws.length ws.length), (11, .int .i64 ((k : Int))), (35, .int .i64 ((ws.length : Int))), (36, .int .i64 ((k : Int))), (37, .bool (decide ((k : Int) < (ws.length : Int)))), (38, .int .i64 ((k : Int))), (39, .slice (some ⟨b7, 0, none⟩) ws.length ws.length), (40, .int .i64 ((k : Int))), (41, .func (.func 51) #[] #[]), (42, .pointer (some ⟨b1, 1, none⟩)), (43, .slice A1 ws.length c1), (44, .int .i64 ((k : Int))), (45, elp A1 (k * 1 + 0)), (46, u64 (ws.getD k 0#64)), (47, .pointer (some ⟨b2, 1, none⟩)), (48, .slice A2 vs.length c2), (49, .int .i64 ((k : Int))), (50, elp A2 (k * 1 + 0)), (51, u64 (vs.getD k 0#64)), (52, u64 ((ws.getD k 0#64) &&& (vs.getD k 0#64)))] τ) _
          refine RW.step (Ex.index st22 rfl rfl k (hM.rowNe (k := 0) rfl (by omega)) (by omega) (by omega)) rfl rfl rfl ?_
          refine RW.storeR hM 0 (k * 1 + 0) (u64 ((ws.getD k 0#64) &&& (vs.getD k 0#64))) [u64 ((ws.getD k 0#64) &&& (vs.getD k 0#64))] (((mixK (List.zipWith (fun a b => a &&& b) ws vs) (List.replicate ws.length 0#64) k).set k ((ws.getD k 0#64) &&& (vs.getD k 0#64))).map u64) sz55 rfl (hM.rowNe (k := 0) rfl (by omega)) rfl rfl (oneAll ⟨rfl, trivial⟩) rfl (by simp only [List.length_map, List.length_cons, List.length_nil]; first | omega | (rw [chK_length]; omega) | (rw [chW_length]; omega) | (rw [List.length_replicate]; omega) | (rw [mixK_length (by rw [List.length_zipWith, List.length_replicate]; omega)]; first | omega | (rw [List.length_replicate]; omega)) | (rw [mixK_length (by rw [List.length_zipWith]; omega)]; omega)) (setW (by first | omega | (rw [chK_length]; omega) | (rw [chW_length]; omega) | (rw [List.length_replicate]; omega) | (rw [mixK_length (by rw [List.length_zipWith, List.length_replicate]; omega)]; first | omega | (rw [List.length_replicate]; omega)) | (rw [mixK_length (by rw [List.length_zipWith]; omega)]; omega))) [.row (.slice (some ⟨b7, 0, none⟩) ws.length ws.length) 55 1 ws.length (((mixK (List.zipWith (fun a b => a &&& b) ws vs) (List.replicate ws.length 0#64) k).set k ((ws.getD k 0#64) &&& (vs.getD k 0#64))).map u64), .box b3 24 [.int .i64 (0), .slice none 0 0], .box b2 24 [.int .i64 (m), .slice A2 vs.length c2], .box b1 24 [.int .i64 (n), .slice A1 ws.length c1]] rfl rfl rfl ?_; intro w hM
          refine RW.nil ?_
          refine CW.region ?_
          refine RW.step (Ex.add rfl rfl (by omega) (by omega)) rfl rfl rfl ?_
          refine RW.step (Ex.move (.int .i64 ((k : Int) + 1)) rfl) rfl rfl rfl ?_
          refine RW.nil ?_
          refine And.intro rfl (Exists.intro (k + 1) (And.intro ⟨sl_canon ⟨rfl, rfl, rfl, rfl, rfl, rfl, rfl, (show Value.int _ _ = Value.int _ _ from congrArg (Value.int _) (by omega)), trivial⟩, (by rw [← mixK_step (x := (fun a b => a &&& b) (ws.getD k 0#64) (vs.getD k 0#64)) (by rw [List.length_zipWith]; first | omega | (rw [List.length_replicate]; omega)) (zip_get (by omega) (by omega))]; exact hM), (by omega), trivial⟩ (by omega)))
        · -- no: (k : Int) < (ws.length : Int)
          refine CW.exit ?_
          refine CW.seq ?_
          refine CW.region ?_
          refine RW.step (Ex.fieldAddr fa24_0 rfl) rfl rfl rfl ?_
          refine RW.step (Ex.load1 hM 3 to3 rfl rfl rfl) rfl rfl rfl ?_
          refine RW.step (Ex.move (.slice (some ⟨b7, 0, none⟩) ws.length ws.length) rfl) rfl rfl rfl ?_
          refine RW.step (Ex.build bs24 [(0, .int .i64 (n)), (1, .slice (some ⟨b7, 0, none⟩) ws.length ws.length)] [.int .i64 (n), .slice (some ⟨b7, 0, none⟩) ws.length ws.length] rfl rfl) rfl rfl rfl ?_
          refine RW.store hM 1 (.agg #[.int .i64 (n), .slice (some ⟨b7, 0, none⟩) ws.length ws.length]) [.int .i64 (n), .slice (some ⟨b7, 0, none⟩) ws.length ws.length] [.int .i64 (n), .slice (some ⟨b7, 0, none⟩) ws.length ws.length] sz24 rfl rfl rfl (oneAll ⟨rfl, rfl, trivial⟩) rfl (Nat.le_of_ble_eq_true rfl) rfl [.row (.slice (some ⟨b7, 0, none⟩) ws.length ws.length) 55 1 ws.length ((mixK (List.zipWith (fun a b => a &&& b) ws vs) (List.replicate ws.length 0#64) k).map u64), .box b3 24 [.int .i64 (n), .slice (some ⟨b7, 0, none⟩) ws.length ws.length], .box b2 24 [.int .i64 (m), .slice A2 vs.length c2], .box b1 24 [.int .i64 (n), .slice A1 ws.length c1]] rfl rfl rfl ?_; intro w hM
          refine RW.step (Ex.assign (.int .i64 (0)) rfl) rfl rfl rfl ?_
          refine RW.nil ?_
          refine CW.ret ?_
          refine end_cell_tmp (k := 1) (.inl rfl) rfl hM rfl (.int .i64 (0)) rfl ta24 [.int .i64 (n), .slice (some ⟨b7, 0, none⟩) ws.length ws.length] rfl rfl ?_
          have hzl : (List.zipWith (fun a b => a &&& b) ws vs).length = (List.replicate ws.length 0#64).length := by rw [List.length_zipWith]; first | omega | (rw [List.length_replicate]; omega)
          obtain ⟨H9, hM9, hle9, hr9⟩ := hM.giveRow (k := 0) rfl
          exact ⟨_, _, hM9, BRv.ok (by rw [mixK_full hzl (by first | omega | (rw [List.length_replicate]; omega))]; exact bothR_ok (bothE_4 hc4 hc5 hc6)) (by first | rw [mixK_length hzl, List.length_replicate] | rw [mixK_length hzl]) hr9⟩

theorem rAnd_ret (H : Hp) (A1 : Option Addr) (n : Int) (c1 : Nat) (ws : List (BitVec 64)) (hr1 : RdC H A1 ws.length c1 1 (ws.map u64)) (A2 : Option Addr) (m : Int) (c2 : Nat) (vs : List (BitVec 64)) (hr2 : RdC H A2 vs.length c2 1 (vs.map u64)) : Ret Tryd.prog 36 #[.agg #[.int .i64 n, .slice A1 ws.length c1], .agg #[.int .i64 m, .slice A2 vs.length c2]] H (BRv (bothR (fun a b => a &&& b) n ws m vs)) := by
  have hL := hr1.2.2.1
  have hL1 := hr1.2.1
  unfold maxLen at hL
  have hK := hr2.2.2.1
  have hK1 := hr2.2.1
  unfold maxLen at hK
  refine Ret.of_code Tryd.func36 rfl (Nat.le_of_ble_eq_true rfl) fun w0 hM => ?_
  refine CW.seq ?_
  refine CW.region ?_
  refine RW.box hM (.agg #[.int .i64 (n), .slice A1 ws.length c1]) [.int .i64 (n), .slice A1 ws.length c1] rfl rfl rfl rfl ?_; intro b1 w hM
  refine RW.box hM (.agg #[.int .i64 (m), .slice A2 vs.length c2]) [.int .i64 (m), .slice A2 vs.length c2] rfl rfl rfl rfl ?_; intro b2 w hM
  refine RW.alloc hM tz24 [.int .i64 (0), .slice none 0 0] rfl rfl rfl ?_; intro b3 w hM
  refine RW.step (Ex.assign (.int .i64 (0)) rfl) rfl rfl rfl ?_
  refine RW.nil ?_
  refine CW.seq ?_
  refine CW.seq ?_
  refine CW.region ?_
  refine RW.step (Ex.loadA hM 2 [.int .i64 (n), .slice A1 ws.length c1] ta24 rfl rfl rfl rfl) rfl rfl rfl ?_
  refine RW.step (Ex.loadA hM 1 [.int .i64 (m), .slice A2 vs.length c2] ta24 rfl rfl rfl rfl) rfl rfl rfl ?_
  refine RW.callV hM (rboth_ret _ _ n _ ws hr1 _ m _ vs hr2) en49 rfl rfl rfl rfl ?_; intro w hM
  refine RW.step (Ex.assign (.int .i64 (bothE n ws m vs)) rfl) rfl rfl rfl ?_
  refine RW.nil ?_
  refine CW.seq ?_
  refine CW.region ?_
  refine RW.step (Ex.move (.int .i64 (bothE n ws m vs)) rfl) rfl rfl rfl ?_
  refine RW.step (Ex.neq rfl rfl) rfl rfl rfl ?_
  refine RW.nil ?_
  refine CW.cond_dec rfl (fun hc4 => ?_) (fun hc4 => ?_)
  · -- yes: (bothE n ws m vs) ≠ 0
    refine CW.seq ?_
    refine CW.region ?_
    refine RW.step (Ex.build bs24 [] [.int .i64 (0), .slice none 0 0] rfl rfl) rfl rfl rfl ?_
    refine RW.step (Ex.move (.int .i64 (bothE n ws m vs)) rfl) rfl rfl rfl ?_
    refine RW.store hM 0 (.agg #[.int .i64 (0), .slice none 0 0]) [.int .i64 (0), .slice none 0 0] [.int .i64 (0), .slice none 0 0] sz24 rfl rfl rfl (oneAll ⟨rfl, rfl, trivial⟩) rfl (Nat.le_of_ble_eq_true rfl) rfl [.box b3 24 [.int .i64 (0), .slice none 0 0], .box b2 24 [.int .i64 (m), .slice A2 vs.length c2], .box b1 24 [.int .i64 (n), .slice A1 ws.length c1]] rfl rfl rfl ?_; intro w hM
    refine RW.step (Ex.assign (.int .i64 (bothE n ws m vs)) rfl) rfl rfl rfl ?_
    refine RW.nil ?_
    refine CW.ret ?_
    refine thenQ_ret ?_
    refine end_cell_tmp (k := 0) (.inl rfl) rfl hM rfl (.int .i64 (bothE n ws m vs)) rfl ta24 [.int .i64 (0), .slice none 0 0] rfl rfl ?_
    exact ⟨_, _, hM, BRv.bad (bothR_bad rfl hc4) rfl⟩
  · -- no: (bothE n ws m vs) ≠ 0
    have hb := Classical.not_not.1 hc4
    have hbo := bothE_ok hb
    have hwl := wf_len hbo.1
    have hwl2 := wf_len hbo.2.1
    have hll : ws.length = vs.length := by have := hbo.2.2; omega
    refine CW.skip ?_
    refine CW.seq ?_
    refine CW.region ?_
    refine RW.step (Ex.loadA hM 2 [.int .i64 (n), .slice A1 ws.length c1] ta24 rfl rfl rfl rfl) rfl rfl rfl ?_
    refine RW.callO hM (copy_ret _ _ n _ ws hr1 (by omega)) en50 rfl rfl rfl rfl ?_; rintro _ w _ ⟨A5, c6, rfl, rfl⟩ hM
    replace hM : Mem w0 H w H [.row (.slice A5 ws.length c6) 55 1 ws.length (ws.map u64), .box b3 24 [.int .i64 (0), .slice none 0 0], .box b2 24 [.int .i64 (m), .slice A2 vs.length c2], .box b1 24 [.int .i64 (n), .slice A1 ws.length c1]] := hM
    refine RW.alloc hM tz24 [.int .i64 (0), .slice none 0 0] rfl rfl rfl ?_; intro b7 w hM
    refine RW.store hM 0 (.agg #[.int .i64 (n), .slice A5 ws.length c6]) [.int .i64 (n), .slice A5 ws.length c6] [.int .i64 (n), .slice A5 ws.length c6] sz24 rfl rfl rfl (oneAll ⟨rfl, rfl, trivial⟩) rfl (Nat.le_of_ble_eq_true rfl) rfl [.box b7 24 [.int .i64 (n), .slice A5 ws.length c6], .row (.slice A5 ws.length c6) 55 1 ws.length (ws.map u64), .box b3 24 [.int .i64 (0), .slice none 0 0], .box b2 24 [.int .i64 (m), .slice A2 vs.length c2], .box b1 24 [.int .i64 (n), .slice A1 ws.length c1]] rfl rfl rfl ?_; intro w hM
    refine RW.nil ?_
    refine CW.seq ?_
    refine CW.seq ?_
    refine CW.region ?_
    refine RW.step (Ex.assign (.int .i64 (0)) rfl) rfl rfl rfl ?_
    refine RW.nil ?_
    refine CW.block ?_
    refine CW.loop (β := Nat) (fun (k : Nat) σ w => (∃ τ, σ = sl [(2, .pointer (some ⟨b1, 0, none⟩)), (3, .pointer (some ⟨b2, 0, none⟩)), (4, .pointer (some ⟨b3, 0, none⟩)), (5, .int .i64 (0)), (7, .pointer (some ⟨b7, 0, none⟩)), (8, .int .i64 ((k : Int)))] τ) ∧ Mem w0 H w H [.box b7 24 [.int .i64 (n), .slice A5 ws.length c6], .row (.slice A5 ws.length c6) 55 1 ws.length ((mixK (List.zipWith (fun a b => a &&& b) ws vs) ws k).map u64), .box b3 24 [.int .i64 (0), .slice none 0 0], .box b2 24 [.int .i64 (m), .slice A2 vs.length c2], .box b1 24 [.int .i64 (n), .slice A1 ws.length c1]] ∧ (k ≤ ws.length) ∧ True) (fun k => ws.length - k) (0) ⟨sl_canon ⟨rfl, rfl, rfl, rfl, rfl, (show Value.int _ _ = Value.int _ _ from congrArg (Value.int _) (by omega)), trivial⟩, (by rw [mixK_zero]; exact hM), (by omega), trivial⟩ ?_
    rintro k _ w ⟨⟨τ, rfl⟩, hM, hk, -⟩
    refine CW.seq ?_
    refine CW.seq ?_
    refine CW.region ?_
    refine RW.step (Ex.move (.int .i64 ((k : Int))) rfl) rfl rfl rfl ?_
    refine RW.step (Ex.fieldAddr fa24_1 rfl) rfl rfl rfl ?_
    refine RW.step (Ex.load1 hM 0 to22 rfl rfl rfl) rfl rfl rfl ?_
    refine RW.step (Ex.len st22.1 rfl) rfl rfl rfl ?_
    refine RW.step (Ex.lss rfl rfl) rfl rfl rfl ?_
    refine RW.nil ?_
    refine CW.cond_dec rfl (fun hc8 => ?_) (fun hc8 => ?_)
    · -- yes: (k : Int) < (ws.length : Int)
      refine CW.skip ?_
      refine CW.seq ?_
      refine CW.block ?_
      refine CW.drawE 14 [.pointer (some ⟨b7, 1, none⟩), .slice A5 ws.length c6, .int .i64 ((k : Int)), .pointer (some ⟨b1, 1, none⟩), .slice A1 ws.length c1, .int .i64 ((k : Int)), elp A1 (k * 1 + 0), u64 (ws.getD k 0#64), .pointer (some ⟨b2, 1, none⟩), .slice A2 vs.length c2, .int .i64 ((k : Int)), elp A2 (k * 1 + 0), u64 (vs.getD k 0#64), u64 ((ws.getD k 0#64) &&& (vs.getD k 0#64))]
        [[(7, none)], [(25, some 0)], [(8, none)], [(2, none)], [(28, some 3)], [(8, none)], [(29, some 4), (30, some 5)], [(31, some 6)], [(3, none)], [(33, some 8)], [(8, none)], [(34, some 9), (35, some 10)], [(36, some 11)], [(32, some 7), (37, some 12)]] [(2, none), (3, none), (4, none), (5, none), (7, none), (8, none), (18, none), (19, none), (20, none), (21, none), (22, none), (25, some 0), (26, some 1), (27, some 2), (28, some 3), (29, some 4), (30, some 5), (31, some 6), (32, some 7), (33, some 8), (34, some 9), (35, some 10), (36, some 11), (37, some 12), (38, some 13)] (by kernel_rfl) hM (by kernel_rfl) ⟨?_, ?_, ?_, ?_, ?_, ?_, ?_, ?_, ?_, ?_, ?_, ?_, ?_, ?_, trivial⟩ ?_
      · exact One.ex (fun H' τ w hled hM => Ex.fieldAddr fa24_1 rfl) rfl (fun _ => rfl) rfl
      · exact One.ex (fun H' τ w hled hM => Ex.load1 hM 0 to22 rfl rfl rfl) rfl (fun _ => rfl) rfl
      · exact One.ex (fun H' τ w hled hM => Ex.move (.int .i64 ((k : Int))) rfl) rfl (fun _ => rfl) rfl
      · exact One.ex (fun H' τ w hled hM => Ex.fieldAddr fa24_1 rfl) rfl (fun _ => rfl) rfl
      · exact One.ex (fun H' τ w hled hM => Ex.load1 hM 4 to22 rfl rfl rfl) rfl (fun _ => rfl) rfl
      · exact One.ex (fun H' τ w hled hM => Ex.move (.int .i64 ((k : Int))) rfl) rfl (fun _ => rfl) rfl
      · exact One.ex (fun H' τ w hled hM => Ex.index st22 rfl rfl k (hr1.ne (by omega)) (by omega) (by omega)) rfl (fun _ => rfl) rfl
      · exact One.ex (fun H' τ w hled hM => Ex.loadE hM hled hr1 to55 rfl (getW (by omega))) rfl (fun _ => rfl) rfl
      · exact One.ex (fun H' τ w hled hM => Ex.fieldAddr fa24_1 rfl) rfl (fun _ => rfl) rfl
      · exact One.ex (fun H' τ w hled hM => Ex.load1 hM 3 to22 rfl rfl rfl) rfl (fun _ => rfl) rfl
      · exact One.ex (fun H' τ w hled hM => Ex.move (.int .i64 ((k : Int))) rfl) rfl (fun _ => rfl) rfl
      · exact One.ex (fun H' τ w hled hM => Ex.index st22 rfl rfl k (hr2.ne (by omega)) (by omega) (by omega)) rfl (fun _ => rfl) rfl
      · exact One.ex (fun H' τ w hled hM => Ex.loadE hM hled hr2 to55 rfl (getW (by omega))) rfl (fun _ => rfl) rfl
      · exact One.ex (fun H' τ w hled hM => Ex.and64 (a := ws.getD k 0#64) (b := vs.getD k 0#64) rfl rfl) rfl (fun _ => rfl) rfl
      intro τ w hM
      change RW _ _ _ _ _ _ _ _ (sl [(2, .pointer (some ⟨b1, 0, none⟩)), (3, .pointer (some ⟨b2, 0, none⟩)), (4, .pointer (some ⟨b3, 0, none⟩)), (5, .int .i64 (0)), (7, .pointer (some ⟨b7, 0, none⟩)), (8, .int .i64 ((k : Int))), (18, .int .i64 ((k : Int))), (19, .pointer (some ⟨b7, 1, none⟩)), (20, .slice A5 ws.length c6), (21, .int .i64 ((ws.length : Int))), (22, .bool (decide ((k : Int) < (ws.length : Int)))), (25, .pointer (some ⟨b7, 1, none⟩)), (26, .slice A5 ws.length c6), (27, .int .i64 ((k : Int))), (28, .pointer (some ⟨b1, 1, none⟩)), (29, .slice A1 ws.length c1), (30, .int .i64 ((k : Int))), (31, elp A1 (k * 1 + 0)), (32, u64 (ws.getD k 0#64)), (33, .pointer (some ⟨b2, 1, none⟩)), (34, .slice A2 vs.length c2), (35, .int .i64 ((k : Int))), (36, elp A2 (k * 1 + 0)), (37, u64 (vs.getD k 0#64)), (38, u64 ((ws.getD k 0#64) &&& (vs.getD k 0#64)))] τ) _
      refine RW.step (Ex.index st22 rfl rfl k (hM.rowNe (k := 1) rfl (by omega)) (by omega) (by omega)) rfl rfl rfl ?_
      refine RW.storeR hM 1 (k * 1 + 0) (u64 ((ws.getD k 0#64) &&& (vs.getD k 0#64))) [u64 ((ws.getD k 0#64) &&& (vs.getD k 0#64))] (((mixK (List.zipWith (fun a b => a &&& b) ws vs) ws k).set k ((ws.getD k 0#64) &&& (vs.getD k 0#64))).map u64) sz55 rfl (hM.rowNe (k := 1) rfl (by omega)) rfl rfl (oneAll ⟨rfl, trivial⟩) rfl (by simp only [List.length_map, List.length_cons, List.length_nil]; first | omega | (rw [chK_length]; omega) | (rw [chW_length]; omega) | (rw [List.length_replicate]; omega) | (rw [mixK_length (by rw [List.length_zipWith, List.length_replicate]; omega)]; first | omega | (rw [List.length_replicate]; omega)) | (rw [mixK_length (by rw [List.length_zipWith]; omega)]; omega)) (setW (by first | omega | (rw [chK_length]; omega) | (rw [chW_length]; omega) | (rw [List.length_replicate]; omega) | (rw [mixK_length (by rw [List.length_zipWith, List.length_replicate]; omega)]; first | omega | (rw [List.length_replicate]; omega)) | (rw [mixK_length (by rw [List.length_zipWith]; omega)]; omega))) [.box b7 24 [.int .i64 (n), .slice A5 ws.length c6], .row (.slice A5 ws.length c6) 55 1 ws.length (((mixK (List.zipWith (fun a b => a &&& b) ws vs) ws k).set k ((ws.getD k 0#64) &&& (vs.getD k 0#64))).map u64), .box b3 24 [.int .i64 (0), .slice none 0 0], .box b2 24 [.int .i64 (m), .slice A2 vs.length c2], .box b1 24 [.int .i64 (n), .slice A1 ws.length c1]] rfl rfl rfl ?_; intro w hM
      refine RW.nil ?_
      refine CW.region ?_
      refine RW.step (Ex.move (.int .i64 ((k : Int))) rfl) rfl rfl rfl ?_
      refine RW.step (Ex.add rfl rfl (by omega) (by omega)) rfl rfl rfl ?_
      refine RW.step (Ex.assign (.int .i64 ((k : Int) + 1)) rfl) rfl rfl rfl ?_
      refine RW.nil ?_
      refine And.intro rfl (Exists.intro (k + 1) (And.intro ⟨sl_canon ⟨rfl, rfl, rfl, rfl, rfl, (show Value.int _ _ = Value.int _ _ from congrArg (Value.int _) (by omega)), trivial⟩, (by rw [← mixK_step (x := (fun a b => a &&& b) (ws.getD k 0#64) (vs.getD k 0#64)) (by rw [List.length_zipWith]; first | omega | (rw [List.length_replicate]; omega)) (zip_get (by omega) (by omega))]; exact hM), (by omega), trivial⟩ (by omega)))
    · -- no: (k : Int) < (ws.length : Int)
      refine CW.exit ?_
      refine CW.seq ?_
      refine CW.region ?_
      refine RW.step (Ex.loadA hM 0 [.int .i64 (n), .slice A5 ws.length c6] ta24 rfl rfl rfl rfl) rfl rfl rfl ?_
      refine RW.store hM 2 (.agg #[.int .i64 (n), .slice A5 ws.length c6]) [.int .i64 (n), .slice A5 ws.length c6] [.int .i64 (n), .slice A5 ws.length c6] sz24 rfl rfl rfl (oneAll ⟨rfl, rfl, trivial⟩) rfl (Nat.le_of_ble_eq_true rfl) rfl [.box b7 24 [.int .i64 (n), .slice A5 ws.length c6], .row (.slice A5 ws.length c6) 55 1 ws.length ((mixK (List.zipWith (fun a b => a &&& b) ws vs) ws k).map u64), .box b3 24 [.int .i64 (n), .slice A5 ws.length c6], .box b2 24 [.int .i64 (m), .slice A2 vs.length c2], .box b1 24 [.int .i64 (n), .slice A1 ws.length c1]] rfl rfl rfl ?_; intro w hM
      refine RW.step (Ex.assign (.int .i64 (0)) rfl) rfl rfl rfl ?_
      refine RW.nil ?_
      refine CW.ret ?_
      refine end_cell_tmp (k := 2) (.inl rfl) rfl hM rfl (.int .i64 (0)) rfl ta24 [.int .i64 (n), .slice A5 ws.length c6] rfl rfl ?_
      have hzl : (List.zipWith (fun a b => a &&& b) ws vs).length = ws.length := by rw [List.length_zipWith]; first | omega | (rw [List.length_replicate]; omega)
      obtain ⟨H9, hM9, hle9, hr9⟩ := hM.giveRow (k := 1) rfl
      exact ⟨_, _, hM9, BRv.ok (by rw [mixK_full hzl (by first | omega | (rw [List.length_replicate]; omega))]; exact bothR_ok hb) (by first | rw [mixK_length hzl, List.length_replicate] | rw [mixK_length hzl]) hr9⟩

theorem both_andNot_ret (H : Hp) (A1 : Option Addr) (n : Int) (c1 : Nat) (ws : List (BitVec 64)) (hr1 : RdC H A1 ws.length c1 1 (ws.map u64)) (A2 : Option Addr) (m : Int) (c2 : Nat) (vs : List (BitVec 64)) (hr2 : RdC H A2 vs.length c2 1 (vs.map u64)) : Ret Tryd.prog 47 #[.agg #[.int .i64 n, .slice A1 ws.length c1], .agg #[.int .i64 m, .slice A2 vs.length c2], .func (.func 52) #[] #[]] H (BRv (bothR (fun a b => a &&& ~~~b) n ws m vs)) := by
  have hL := hr1.2.2.1
  have hL1 := hr1.2.1
  unfold maxLen at hL
  have hK := hr2.2.2.1
  have hK1 := hr2.2.1
  unfold maxLen at hK
  refine Ret.of_code Tryd.func47 rfl (Nat.le_of_ble_eq_true rfl) fun w0 hM => ?_
  refine CW.seq ?_
  refine CW.region ?_
  refine RW.box hM (.agg #[.int .i64 (n), .slice A1 ws.length c1]) [.int .i64 (n), .slice A1 ws.length c1] rfl rfl rfl rfl ?_; intro b1 w hM
  refine RW.box hM (.agg #[.int .i64 (m), .slice A2 vs.length c2]) [.int .i64 (m), .slice A2 vs.length c2] rfl rfl rfl rfl ?_; intro b2 w hM
  refine RW.alloc hM tz24 [.int .i64 (0), .slice none 0 0] rfl rfl rfl ?_; intro b3 w hM
  refine RW.step (Ex.assign (.int .i64 (0)) rfl) rfl rfl rfl ?_
  refine RW.nil ?_
  refine CW.seq ?_
  refine CW.seq ?_
  refine CW.region ?_
  refine RW.step (Ex.loadA hM 2 [.int .i64 (n), .slice A1 ws.length c1] ta24 rfl rfl rfl rfl) rfl rfl rfl ?_
  refine RW.callV hM (check_ret _ _ n _ ws hr1) en20 rfl rfl rfl rfl ?_; intro w hM
  refine RW.step (Ex.assign (.int .i64 (chk n ws)) rfl) rfl rfl rfl ?_
  refine RW.nil ?_
  refine CW.seq ?_
  refine CW.region ?_
  refine RW.step (Ex.move (.int .i64 (chk n ws)) rfl) rfl rfl rfl ?_
  refine RW.step (Ex.neq rfl rfl) rfl rfl rfl ?_
  refine RW.nil ?_
  refine CW.cond_dec rfl (fun hc4 => ?_) (fun hc4 => ?_)
  · -- yes: (chk n ws) ≠ 0
    refine CW.seq ?_
    refine CW.region ?_
    refine RW.step (Ex.build bs24 [] [.int .i64 (0), .slice none 0 0] rfl rfl) rfl rfl rfl ?_
    refine RW.step (Ex.move (.int .i64 (chk n ws)) rfl) rfl rfl rfl ?_
    refine RW.store hM 0 (.agg #[.int .i64 (0), .slice none 0 0]) [.int .i64 (0), .slice none 0 0] [.int .i64 (0), .slice none 0 0] sz24 rfl rfl rfl (oneAll ⟨rfl, rfl, trivial⟩) rfl (Nat.le_of_ble_eq_true rfl) rfl [.box b3 24 [.int .i64 (0), .slice none 0 0], .box b2 24 [.int .i64 (m), .slice A2 vs.length c2], .box b1 24 [.int .i64 (n), .slice A1 ws.length c1]] rfl rfl rfl ?_; intro w hM
    refine RW.step (Ex.assign (.int .i64 (chk n ws)) rfl) rfl rfl rfl ?_
    refine RW.nil ?_
    refine CW.ret ?_
    refine thenQ_ret ?_
    refine end_cell_tmp (k := 0) (.inl rfl) rfl hM rfl (.int .i64 (chk n ws)) rfl ta24 [.int .i64 (0), .slice none 0 0] rfl rfl ?_
    exact ⟨_, _, hM, BRv.bad (bothR_bad (bothE_1 hc4) (by decide)) (chk_ne hc4)⟩
  · -- no: (chk n ws) ≠ 0
    have hwl := wf_len (Classical.not_not.1 hc4)
    refine CW.skip ?_
    refine CW.seq ?_
    refine CW.seq ?_
    refine CW.region ?_
    refine RW.step (Ex.loadA hM 1 [.int .i64 (m), .slice A2 vs.length c2] ta24 rfl rfl rfl rfl) rfl rfl rfl ?_
    refine RW.callV hM (check_ret _ _ m _ vs hr2) en20 rfl rfl rfl rfl ?_; intro w hM
    refine RW.step (Ex.assign (.int .i64 (chk m vs)) rfl) rfl rfl rfl ?_
    refine RW.nil ?_
    refine CW.seq ?_
    refine CW.region ?_
    refine RW.step (Ex.move (.int .i64 (chk m vs)) rfl) rfl rfl rfl ?_
    refine RW.step (Ex.neq rfl rfl) rfl rfl rfl ?_
    refine RW.nil ?_
    refine CW.cond_dec rfl (fun hc5 => ?_) (fun hc5 => ?_)
    · -- yes: (chk m vs) ≠ 0
      refine CW.seq ?_
      refine CW.region ?_
      refine RW.step (Ex.build bs24 [] [.int .i64 (0), .slice none 0 0] rfl rfl) rfl rfl rfl ?_
      refine RW.step (Ex.move (.int .i64 (chk m vs)) rfl) rfl rfl rfl ?_
      refine RW.store hM 0 (.agg #[.int .i64 (0), .slice none 0 0]) [.int .i64 (0), .slice none 0 0] [.int .i64 (0), .slice none 0 0] sz24 rfl rfl rfl (oneAll ⟨rfl, rfl, trivial⟩) rfl (Nat.le_of_ble_eq_true rfl) rfl [.box b3 24 [.int .i64 (0), .slice none 0 0], .box b2 24 [.int .i64 (m), .slice A2 vs.length c2], .box b1 24 [.int .i64 (n), .slice A1 ws.length c1]] rfl rfl rfl ?_; intro w hM
      refine RW.step (Ex.assign (.int .i64 (chk m vs)) rfl) rfl rfl rfl ?_
      refine RW.nil ?_
      refine CW.ret ?_
      refine thenQ_ret ?_
      refine end_cell_tmp (k := 0) (.inl rfl) rfl hM rfl (.int .i64 (chk m vs)) rfl ta24 [.int .i64 (0), .slice none 0 0] rfl rfl ?_
      exact ⟨_, _, hM, BRv.bad (bothR_bad (bothE_2 hc4 hc5) (by decide)) (chk_ne hc5)⟩
    · -- no: (chk m vs) ≠ 0
      have hwl2 := wf_len (Classical.not_not.1 hc5)
      refine CW.skip ?_
      refine CW.seq ?_
      refine CW.seq ?_
      refine CW.region ?_
      refine RW.step (Ex.fieldAddr fa24_0 rfl) rfl rfl rfl ?_
      refine RW.step (Ex.load1 hM 2 to3 rfl rfl rfl) rfl rfl rfl ?_
      refine RW.step (Ex.fieldAddr fa24_0 rfl) rfl rfl rfl ?_
      refine RW.step (Ex.load1 hM 1 to3 rfl rfl rfl) rfl rfl rfl ?_
      refine RW.step (Ex.neq rfl rfl) rfl rfl rfl ?_
      refine RW.nil ?_
      refine CW.cond_dec rfl (fun hc6 => ?_) (fun hc6 => ?_)
      · -- yes: n ≠ m
        refine CW.seq ?_
        refine CW.region ?_
        refine RW.step (Ex.build bs24 [] [.int .i64 (0), .slice none 0 0] rfl rfl) rfl rfl rfl ?_
        refine RW.store hM 0 (.agg #[.int .i64 (0), .slice none 0 0]) [.int .i64 (0), .slice none 0 0] [.int .i64 (0), .slice none 0 0] sz24 rfl rfl rfl (oneAll ⟨rfl, rfl, trivial⟩) rfl (Nat.le_of_ble_eq_true rfl) rfl [.box b3 24 [.int .i64 (0), .slice none 0 0], .box b2 24 [.int .i64 (m), .slice A2 vs.length c2], .box b1 24 [.int .i64 (n), .slice A1 ws.length c1]] rfl rfl rfl ?_; intro w hM
        refine RW.step (Ex.assign (.int .i64 (22)) rfl) rfl rfl rfl ?_
        refine RW.nil ?_
        refine CW.ret ?_
        refine thenQ_ret ?_
        refine end_cell_tmp (k := 0) (.inl rfl) rfl hM rfl (.int .i64 (22)) rfl ta24 [.int .i64 (0), .slice none 0 0] rfl rfl ?_
        exact ⟨_, _, hM, BRv.bad (bothR_bad (bothE_3 hc4 hc5 hc6) (by decide)) rfl⟩
      · -- no: n ≠ m
        have hnm := Classical.not_not.1 hc6
        have hll : ws.length = vs.length := by omega
        refine CW.skip ?_
        refine CW.seq ?_
        refine CW.region ?_
        refine RW.step (Ex.fieldAddr fa24_1 rfl) rfl rfl rfl ?_
        refine RW.step (Ex.load1 hM 2 to22 rfl rfl rfl) rfl rfl rfl ?_
        refine RW.step (Ex.len st22.1 rfl) rfl rfl rfl ?_
        refine RW.make hM st22 tz55 ws.length rfl rfl (by omega) (by omega) (by unfold maxLen; omega) rfl rfl ?_; intro b7 w hM
        rw [madeW] at hM
        refine RW.step (Ex.assign (.slice (some ⟨b7, 0, none⟩) ws.length ws.length) rfl) rfl rfl rfl ?_
        refine RW.nil ?_
        refine CW.seq ?_
        refine CW.seq ?_
        refine CW.region ?_
        refine RW.step (Ex.move (.slice (some ⟨b7, 0, none⟩) ws.length ws.length) rfl) rfl rfl rfl ?_
        refine RW.step (Ex.len st22.1 rfl) rfl rfl rfl ?_
        refine RW.step (Ex.move (.int .i64 (0)) rfl) rfl rfl rfl ?_
        refine RW.nil ?_
        refine CW.block ?_
        refine CW.loop (β := Nat) (fun (k : Nat) σ w => (∃ τ, σ = sl [(2, .func (.func 52) #[] #[]), (3, .pointer (some ⟨b1, 0, none⟩)), (4, .pointer (some ⟨b2, 0, none⟩)), (6, .pointer (some ⟨b3, 0, none⟩)), (7, .int .i64 (0)), (10, .slice (some ⟨b7, 0, none⟩) ws.length ws.length), (35, .int .i64 ((ws.length : Int))), (36, .int .i64 ((k : Int)))] τ) ∧ Mem w0 H w H [.row (.slice (some ⟨b7, 0, none⟩) ws.length ws.length) 55 1 ws.length ((mixK (List.zipWith (fun a b => a &&& ~~~b) ws vs) (List.replicate ws.length 0#64) k).map u64), .box b3 24 [.int .i64 (0), .slice none 0 0], .box b2 24 [.int .i64 (m), .slice A2 vs.length c2], .box b1 24 [.int .i64 (n), .slice A1 ws.length c1]] ∧ (k ≤ ws.length) ∧ True) (fun k => ws.length - k) (0) ⟨sl_canon ⟨rfl, rfl, rfl, rfl, rfl, rfl, rfl, (show Value.int _ _ = Value.int _ _ from congrArg (Value.int _) (by omega)), trivial⟩, (by rw [mixK_zero]; exact hM), (by omega), trivial⟩ ?_
        rintro k _ w ⟨⟨τ, rfl⟩, hM, hk, -⟩
        refine CW.seq ?_
        refine CW.region ?_
        refine RW.step (Ex.lss rfl rfl) rfl rfl rfl ?_
        refine RW.nil ?_
        refine CW.seq ?_
        refine CW.cond_dec rfl (fun hc8 => ?_) (fun hc8 => ?_)
        · -- yes: (k : Int) < (ws.length : Int)
          refine CW.skip ?_
          refine CW.seq ?_
          refine CW.block ?_
          refine CW.seq ?_
          refine CW.region ?_
          refine RW.step (Ex.move (.int .i64 ((k : Int))) rfl) rfl rfl rfl ?_
          refine RW.step (Ex.assign (.int .i64 ((k : Int))) rfl) rfl rfl rfl ?_
          refine RW.nil ?_
          refine CW.drawE 14 [.slice (some ⟨b7, 0, none⟩) ws.length ws.length, .int .i64 ((k : Int)), .func (.func 52) #[] #[], .pointer (some ⟨b1, 1, none⟩), .slice A1 ws.length c1, .int .i64 ((k : Int)), elp A1 (k * 1 + 0), u64 (ws.getD k 0#64), .pointer (some ⟨b2, 1, none⟩), .slice A2 vs.length c2, .int .i64 ((k : Int)), elp A2 (k * 1 + 0), u64 (vs.getD k 0#64), u64 ((ws.getD k 0#64) &&& ~~~(vs.getD k 0#64))]
            [[(10, none)], [(11, none)], [(2, none)], [(3, none)], [(42, some 3)], [(11, none)], [(43, some 4), (44, some 5)], [(45, some 6)], [(4, none)], [(47, some 8)], [(11, none)], [(48, some 9), (49, some 10)], [(50, some 11)], [(41, some 2), (46, some 7), (51, some 12)]] [(2, none), (3, none), (4, none), (6, none), (7, none), (10, none), (11, none), (35, none), (36, none), (37, none), (38, none), (39, some 0), (40, some 1), (41, some 2), (42, some 3), (43, some 4), (44, some 5), (45, some 6), (46, some 7), (47, some 8), (48, some 9), (49, some 10), (50, some 11), (51, some 12), (52, some 13)] (by kernel_rfl) hM (by kernel_rfl) ⟨?_, ?_, ?_, ?_, ?_, ?_, ?_, ?_, ?_, ?_, ?_, ?_, ?_, ?_, trivial⟩ ?_
          · exact One.ex (fun H' τ w hled hM => Ex.move (.slice (some ⟨b7, 0, none⟩) ws.length ws.length) rfl) rfl (fun _ => rfl) rfl
          · exact One.ex (fun H' τ w hled hM => Ex.move (.int .i64 ((k : Int))) rfl) rfl (fun _ => rfl) rfl
          · exact One.ex (fun H' τ w hled hM => Ex.move (.func (.func 52) #[] #[]) rfl) rfl (fun _ => rfl) rfl
          · exact One.ex (fun H' τ w hled hM => Ex.fieldAddr fa24_1 rfl) rfl (fun _ => rfl) rfl
          · exact One.ex (fun H' τ w hled hM => Ex.load1 hM 3 to22 rfl rfl rfl) rfl (fun _ => rfl) rfl
          · exact One.ex (fun H' τ w hled hM => Ex.move (.int .i64 ((k : Int))) rfl) rfl (fun _ => rfl) rfl
          · exact One.ex (fun H' τ w hled hM => Ex.index st22 rfl rfl k (hr1.ne (by omega)) (by omega) (by omega)) rfl (fun _ => rfl) rfl
          · exact One.ex (fun H' τ w hled hM => Ex.loadE hM hled hr1 to55 rfl (getW (by omega))) rfl (fun _ => rfl) rfl
          · exact One.ex (fun H' τ w hled hM => Ex.fieldAddr fa24_1 rfl) rfl (fun _ => rfl) rfl
          · exact One.ex (fun H' τ w hled hM => Ex.load1 hM 2 to22 rfl rfl rfl) rfl (fun _ => rfl) rfl
          · exact One.ex (fun H' τ w hled hM => Ex.move (.int .i64 ((k : Int))) rfl) rfl (fun _ => rfl) rfl
          · exact One.ex (fun H' τ w hled hM => Ex.index st22 rfl rfl k (hr2.ne (by omega)) (by omega) (by omega)) rfl (fun _ => rfl) rfl
          · exact One.ex (fun H' τ w hled hM => Ex.loadE hM hled hr2 to55 rfl (getW (by omega))) rfl (fun _ => rfl) rfl
          · exact One.call (andNot1_ret _ (ws.getD k 0#64) (vs.getD k 0#64)) en52 (fun _ => rfl) (fun _ => rfl) (fun _ => rfl) rfl
          intro τ w hM
          change RW _ _ _ _ _ _ _ _ (sl [(2, .func (.func 52) #[] #[]), (3, .pointer (some ⟨b1, 0, none⟩)), (4, .pointer (some ⟨b2, 0, none⟩)), (6, .pointer (some ⟨b3, 0, none⟩)), (7, .int .i64 (0)), (10, .slice (some ⟨b7, 0, none⟩) ws.length ws.length), (11, .int .i64 ((k : Int))), (35, .int .i64 ((ws.length : Int))), (36, .int .i64 ((k : Int))), (37, .bool (decide ((k : Int) < (ws.length : Int)))), (38, .int .i64 ((k : Int))), (39, .slice (some ⟨b7, 0, none⟩) ws.length ws.length), (40, .int .i64 ((k : Int))), (41, .func (.func 52) #[] #[]), (42, .pointer (some ⟨b1, 1, none⟩)), (43, .slice A1 ws.length c1), (44, .int .i64 ((k : Int))), (45, elp A1 (k * 1 + 0)), (46, u64 (ws.getD k 0#64)), (47, .pointer (some ⟨b2, 1, none⟩)), (48, .slice A2 vs.length c2), (49, .int .i64 ((k : Int))), (50, elp A2 (k * 1 + 0)), (51, u64 (vs.getD k 0#64)), (52, u64 ((ws.getD k 0#64) &&& ~~~(vs.getD k 0#64)))] τ) _
          refine RW.step (Ex.index st22 rfl rfl k (hM.rowNe (k := 0) rfl (by omega)) (by omega) (by omega)) rfl rfl rfl ?_
          refine RW.storeR hM 0 (k * 1 + 0) (u64 ((ws.getD k 0#64) &&& ~~~(vs.getD k 0#64))) [u64 ((ws.getD k 0#64) &&& ~~~(vs.getD k 0#64))] (((mixK (List.zipWith (fun a b => a &&& ~~~b) ws vs) (List.replicate ws.length 0#64) k).set k ((ws.getD k 0#64) &&& ~~~(vs.getD k 0#64))).map u64) sz55 rfl (hM.rowNe (k := 0) rfl (by omega)) rfl rfl (oneAll ⟨rfl, trivial⟩) rfl (by simp only [List.length_map, List.length_cons, List.length_nil]; first | omega | (rw [chK_length]; omega) | (rw [chW_length]; omega) | (rw [List.length_replicate]; omega) | (rw [mixK_length (by rw [List.length_zipWith, List.length_replicate]; omega)]; first | omega | (rw [List.length_replicate]; omega)) | (rw [mixK_length (by rw [List.length_zipWith]; omega)]; omega)) (setW (by first | omega | (rw [chK_length]; omega) | (rw [chW_length]; omega) | (rw [List.length_replicate]; omega) | (rw [mixK_length (by rw [List.length_zipWith, List.length_replicate]; omega)]; first | omega | (rw [List.length_replicate]; omega)) | (rw [mixK_length (by rw [List.length_zipWith]; omega)]; omega))) [.row (.slice (some ⟨b7, 0, none⟩) ws.length ws.length) 55 1 ws.length (((mixK (List.zipWith (fun a b => a &&& ~~~b) ws vs) (List.replicate ws.length 0#64) k).set k ((ws.getD k 0#64) &&& ~~~(vs.getD k 0#64))).map u64), .box b3 24 [.int .i64 (0), .slice none 0 0], .box b2 24 [.int .i64 (m), .slice A2 vs.length c2], .box b1 24 [.int .i64 (n), .slice A1 ws.length c1]] rfl rfl rfl ?_; intro w hM
          refine RW.nil ?_
          refine CW.region ?_
          refine RW.step (Ex.add rfl rfl (by omega) (by omega)) rfl rfl rfl ?_
          refine RW.step (Ex.move (.int .i64 ((k : Int) + 1)) rfl) rfl rfl rfl ?_
          refine RW.nil ?_
          refine And.intro rfl (Exists.intro (k + 1) (And.intro ⟨sl_canon ⟨rfl, rfl, rfl, rfl, rfl, rfl, rfl, (show Value.int _ _ = Value.int _ _ from congrArg (Value.int _) (by omega)), trivial⟩, (by rw [← mixK_step (x := (fun a b => a &&& ~~~b) (ws.getD k 0#64) (vs.getD k 0#64)) (by rw [List.length_zipWith]; first | omega | (rw [List.length_replicate]; omega)) (zip_get (by omega) (by omega))]; exact hM), (by omega), trivial⟩ (by omega)))
        · -- no: (k : Int) < (ws.length : Int)
          refine CW.exit ?_
          refine CW.seq ?_
          refine CW.region ?_
          refine RW.step (Ex.fieldAddr fa24_0 rfl) rfl rfl rfl ?_
          refine RW.step (Ex.load1 hM 3 to3 rfl rfl rfl) rfl rfl rfl ?_
          refine RW.step (Ex.move (.slice (some ⟨b7, 0, none⟩) ws.length ws.length) rfl) rfl rfl rfl ?_
          refine RW.step (Ex.build bs24 [(0, .int .i64 (n)), (1, .slice (some ⟨b7, 0, none⟩) ws.length ws.length)] [.int .i64 (n), .slice (some ⟨b7, 0, none⟩) ws.length ws.length] rfl rfl) rfl rfl rfl ?_
          refine RW.store hM 1 (.agg #[.int .i64 (n), .slice (some ⟨b7, 0, none⟩) ws.length ws.length]) [.int .i64 (n), .slice (some ⟨b7, 0, none⟩) ws.length ws.length] [.int .i64 (n), .slice (some ⟨b7, 0, none⟩) ws.length ws.length] sz24 rfl rfl rfl (oneAll ⟨rfl, rfl, trivial⟩) rfl (Nat.le_of_ble_eq_true rfl) rfl [.row (.slice (some ⟨b7, 0, none⟩) ws.length ws.length) 55 1 ws.length ((mixK (List.zipWith (fun a b => a &&& ~~~b) ws vs) (List.replicate ws.length 0#64) k).map u64), .box b3 24 [.int .i64 (n), .slice (some ⟨b7, 0, none⟩) ws.length ws.length], .box b2 24 [.int .i64 (m), .slice A2 vs.length c2], .box b1 24 [.int .i64 (n), .slice A1 ws.length c1]] rfl rfl rfl ?_; intro w hM
          refine RW.step (Ex.assign (.int .i64 (0)) rfl) rfl rfl rfl ?_
          refine RW.nil ?_
          refine CW.ret ?_
          refine end_cell_tmp (k := 1) (.inl rfl) rfl hM rfl (.int .i64 (0)) rfl ta24 [.int .i64 (n), .slice (some ⟨b7, 0, none⟩) ws.length ws.length] rfl rfl ?_
          have hzl : (List.zipWith (fun a b => a &&& ~~~b) ws vs).length = (List.replicate ws.length 0#64).length := by rw [List.length_zipWith]; first | omega | (rw [List.length_replicate]; omega)
          obtain ⟨H9, hM9, hle9, hr9⟩ := hM.giveRow (k := 0) rfl
          exact ⟨_, _, hM9, BRv.ok (by rw [mixK_full hzl (by first | omega | (rw [List.length_replicate]; omega))]; exact bothR_ok (bothE_4 hc4 hc5 hc6)) (by first | rw [mixK_length hzl, List.length_replicate] | rw [mixK_length hzl]) hr9⟩

theorem rAndNot_ret (H : Hp) (A1 : Option Addr) (n : Int) (c1 : Nat) (ws : List (BitVec 64)) (hr1 : RdC H A1 ws.length c1 1 (ws.map u64)) (A2 : Option Addr) (m : Int) (c2 : Nat) (vs : List (BitVec 64)) (hr2 : RdC H A2 vs.length c2 1 (vs.map u64)) : Ret Tryd.prog 38 #[.agg #[.int .i64 n, .slice A1 ws.length c1], .agg #[.int .i64 m, .slice A2 vs.length c2]] H (BRv (bothR (fun a b => a &&& ~~~b) n ws m vs)) := by
  have hL := hr1.2.2.1
  have hL1 := hr1.2.1
  unfold maxLen at hL
  have hK := hr2.2.2.1
  have hK1 := hr2.2.1
  unfold maxLen at hK
  refine Ret.of_code Tryd.func38 rfl (Nat.le_of_ble_eq_true rfl) fun w0 hM => ?_
  refine CW.seq ?_
  refine CW.region ?_
  refine RW.box hM (.agg #[.int .i64 (n), .slice A1 ws.length c1]) [.int .i64 (n), .slice A1 ws.length c1] rfl rfl rfl rfl ?_; intro b1 w hM
  refine RW.box hM (.agg #[.int .i64 (m), .slice A2 vs.length c2]) [.int .i64 (m), .slice A2 vs.length c2] rfl rfl rfl rfl ?_; intro b2 w hM
  refine RW.alloc hM tz24 [.int .i64 (0), .slice none 0 0] rfl rfl rfl ?_; intro b3 w hM
  refine RW.step (Ex.assign (.int .i64 (0)) rfl) rfl rfl rfl ?_
  refine RW.nil ?_
  refine CW.seq ?_
  refine CW.seq ?_
  refine CW.region ?_
  refine RW.step (Ex.loadA hM 2 [.int .i64 (n), .slice A1 ws.length c1] ta24 rfl rfl rfl rfl) rfl rfl rfl ?_
  refine RW.step (Ex.loadA hM 1 [.int .i64 (m), .slice A2 vs.length c2] ta24 rfl rfl rfl rfl) rfl rfl rfl ?_
  refine RW.callV hM (rboth_ret _ _ n _ ws hr1 _ m _ vs hr2) en49 rfl rfl rfl rfl ?_; intro w hM
  refine RW.step (Ex.assign (.int .i64 (bothE n ws m vs)) rfl) rfl rfl rfl ?_
  refine RW.nil ?_
  refine CW.seq ?_
  refine CW.region ?_
  refine RW.step (Ex.move (.int .i64 (bothE n ws m vs)) rfl) rfl rfl rfl ?_
  refine RW.step (Ex.neq rfl rfl) rfl rfl rfl ?_
  refine RW.nil ?_
  refine CW.cond_dec rfl (fun hc4 => ?_) (fun hc4 => ?_)
  · -- yes: (bothE n ws m vs) ≠ 0
    refine CW.seq ?_
    refine CW.region ?_
    refine RW.step (Ex.build bs24 [] [.int .i64 (0), .slice none 0 0] rfl rfl) rfl rfl rfl ?_
    refine RW.step (Ex.move (.int .i64 (bothE n ws m vs)) rfl) rfl rfl rfl ?_
    refine RW.store hM 0 (.agg #[.int .i64 (0), .slice none 0 0]) [.int .i64 (0), .slice none 0 0] [.int .i64 (0), .slice none 0 0] sz24 rfl rfl rfl (oneAll ⟨rfl, rfl, trivial⟩) rfl (Nat.le_of_ble_eq_true rfl) rfl [.box b3 24 [.int .i64 (0), .slice none 0 0], .box b2 24 [.int .i64 (m), .slice A2 vs.length c2], .box b1 24 [.int .i64 (n), .slice A1 ws.length c1]] rfl rfl rfl ?_; intro w hM
    refine RW.step (Ex.assign (.int .i64 (bothE n ws m vs)) rfl) rfl rfl rfl ?_
    refine RW.nil ?_
    refine CW.ret ?_
    refine thenQ_ret ?_
    refine end_cell_tmp (k := 0) (.inl rfl) rfl hM rfl (.int .i64 (bothE n ws m vs)) rfl ta24 [.int .i64 (0), .slice none 0 0] rfl rfl ?_
    exact ⟨_, _, hM, BRv.bad (bothR_bad rfl hc4) rfl⟩
  · -- no: (bothE n ws m vs) ≠ 0
    have hb := Classical.not_not.1 hc4
    have hbo := bothE_ok hb
    have hwl := wf_len hbo.1
    have hwl2 := wf_len hbo.2.1
    have hll : ws.length = vs.length := by have := hbo.2.2; omega
    refine CW.skip ?_
    refine CW.seq ?_
    refine CW.region ?_
    refine RW.step (Ex.loadA hM 2 [.int .i64 (n), .slice A1 ws.length c1] ta24 rfl rfl rfl rfl) rfl rfl rfl ?_
    refine RW.callO hM (copy_ret _ _ n _ ws hr1 (by omega)) en50 rfl rfl rfl rfl ?_; rintro _ w _ ⟨A5, c6, rfl, rfl⟩ hM
    replace hM : Mem w0 H w H [.row (.slice A5 ws.length c6) 55 1 ws.length (ws.map u64), .box b3 24 [.int .i64 (0), .slice none 0 0], .box b2 24 [.int .i64 (m), .slice A2 vs.length c2], .box b1 24 [.int .i64 (n), .slice A1 ws.length c1]] := hM
    refine RW.alloc hM tz24 [.int .i64 (0), .slice none 0 0] rfl rfl rfl ?_; intro b7 w hM
    refine RW.store hM 0 (.agg #[.int .i64 (n), .slice A5 ws.length c6]) [.int .i64 (n), .slice A5 ws.length c6] [.int .i64 (n), .slice A5 ws.length c6] sz24 rfl rfl rfl (oneAll ⟨rfl, rfl, trivial⟩) rfl (Nat.le_of_ble_eq_true rfl) rfl [.box b7 24 [.int .i64 (n), .slice A5 ws.length c6], .row (.slice A5 ws.length c6) 55 1 ws.length (ws.map u64), .box b3 24 [.int .i64 (0), .slice none 0 0], .box b2 24 [.int .i64 (m), .slice A2 vs.length c2], .box b1 24 [.int .i64 (n), .slice A1 ws.length c1]] rfl rfl rfl ?_; intro w hM
    refine RW.nil ?_
    refine CW.seq ?_
    refine CW.seq ?_
    refine CW.region ?_
    refine RW.step (Ex.assign (.int .i64 (0)) rfl) rfl rfl rfl ?_
    refine RW.nil ?_
    refine CW.block ?_
    refine CW.loop (β := Nat) (fun (k : Nat) σ w => (∃ τ, σ = sl [(2, .pointer (some ⟨b1, 0, none⟩)), (3, .pointer (some ⟨b2, 0, none⟩)), (4, .pointer (some ⟨b3, 0, none⟩)), (5, .int .i64 (0)), (7, .pointer (some ⟨b7, 0, none⟩)), (8, .int .i64 ((k : Int)))] τ) ∧ Mem w0 H w H [.box b7 24 [.int .i64 (n), .slice A5 ws.length c6], .row (.slice A5 ws.length c6) 55 1 ws.length ((mixK (List.zipWith (fun a b => a &&& ~~~b) ws vs) ws k).map u64), .box b3 24 [.int .i64 (0), .slice none 0 0], .box b2 24 [.int .i64 (m), .slice A2 vs.length c2], .box b1 24 [.int .i64 (n), .slice A1 ws.length c1]] ∧ (k ≤ ws.length) ∧ True) (fun k => ws.length - k) (0) ⟨sl_canon ⟨rfl, rfl, rfl, rfl, rfl, (show Value.int _ _ = Value.int _ _ from congrArg (Value.int _) (by omega)), trivial⟩, (by rw [mixK_zero]; exact hM), (by omega), trivial⟩ ?_
    rintro k _ w ⟨⟨τ, rfl⟩, hM, hk, -⟩
    refine CW.seq ?_
    refine CW.seq ?_
    refine CW.region ?_
    refine RW.step (Ex.move (.int .i64 ((k : Int))) rfl) rfl rfl rfl ?_
    refine RW.step (Ex.fieldAddr fa24_1 rfl) rfl rfl rfl ?_
    refine RW.step (Ex.load1 hM 0 to22 rfl rfl rfl) rfl rfl rfl ?_
    refine RW.step (Ex.len st22.1 rfl) rfl rfl rfl ?_
    refine RW.step (Ex.lss rfl rfl) rfl rfl rfl ?_
    refine RW.nil ?_
    refine CW.cond_dec rfl (fun hc8 => ?_) (fun hc8 => ?_)
    · -- yes: (k : Int) < (ws.length : Int)
      refine CW.skip ?_
      refine CW.seq ?_
      refine CW.block ?_
      refine CW.drawE 14 [.pointer (some ⟨b7, 1, none⟩), .slice A5 ws.length c6, .int .i64 ((k : Int)), .pointer (some ⟨b1, 1, none⟩), .slice A1 ws.length c1, .int .i64 ((k : Int)), elp A1 (k * 1 + 0), u64 (ws.getD k 0#64), .pointer (some ⟨b2, 1, none⟩), .slice A2 vs.length c2, .int .i64 ((k : Int)), elp A2 (k * 1 + 0), u64 (vs.getD k 0#64), u64 ((ws.getD k 0#64) &&& ~~~(vs.getD k 0#64))]
        [[(7, none)], [(25, some 0)], [(8, none)], [(2, none)], [(28, some 3)], [(8, none)], [(29, some 4), (30, some 5)], [(31, some 6)], [(3, none)], [(33, some 8)], [(8, none)], [(34, some 9), (35, some 10)], [(36, some 11)], [(32, some 7), (37, some 12)]] [(2, none), (3, none), (4, none), (5, none), (7, none), (8, none), (18, none), (19, none), (20, none), (21, none), (22, none), (25, some 0), (26, some 1), (27, some 2), (28, some 3), (29, some 4), (30, some 5), (31, some 6), (32, some 7), (33, some 8), (34, some 9), (35, some 10), (36, some 11), (37, some 12), (38, some 13)] (by kernel_rfl) hM (by kernel_rfl) ⟨?_, ?_, ?_, ?_, ?_, ?_, ?_, ?_, ?_, ?_, ?_, ?_, ?_, ?_, trivial⟩ ?_
      · exact One.ex (fun H' τ w hled hM => Ex.fieldAddr fa24_1 rfl) rfl (fun _ => rfl) rfl
      · exact One.ex (fun H' τ w hled hM => Ex.load1 hM 0 to22 rfl rfl rfl) rfl (fun _ => rfl) rfl
      · exact One.ex (fun H' τ w hled hM => Ex.move (.int .i64 ((k : Int))) rfl) rfl (fun _ => rfl) rfl
      · exact One.ex (fun H' τ w hled hM => Ex.fieldAddr fa24_1 rfl) rfl (fun _ => rfl) rfl
      · exact One.ex (fun H' τ w hled hM => Ex.load1 hM 4 to22 rfl rfl rfl) rfl (fun _ => rfl) rfl
      · exact One.ex (fun H' τ w hled hM => Ex.move (.int .i64 ((k : Int))) rfl) rfl (fun _ => rfl) rfl
      · exact One.ex (fun H' τ w hled hM => Ex.index st22 rfl rfl k (hr1.ne (by omega)) (by omega) (by omega)) rfl (fun _ => rfl) rfl
      · exact One.ex (fun H' τ w hled hM => Ex.loadE hM hled hr1 to55 rfl (getW (by omega))) rfl (fun _ => rfl) rfl
      · exact One.ex (fun H' τ w hled hM => Ex.fieldAddr fa24_1 rfl) rfl (fun _ => rfl) rfl
      · exact One.ex (fun H' τ w hled hM => Ex.load1 hM 3 to22 rfl rfl rfl) rfl (fun _ => rfl) rfl
      · exact One.ex (fun H' τ w hled hM => Ex.move (.int .i64 ((k : Int))) rfl) rfl (fun _ => rfl) rfl
      · exact One.ex (fun H' τ w hled hM => Ex.index st22 rfl rfl k (hr2.ne (by omega)) (by omega) (by omega)) rfl (fun _ => rfl) rfl
      · exact One.ex (fun H' τ w hled hM => Ex.loadE hM hled hr2 to55 rfl (getW (by omega))) rfl (fun _ => rfl) rfl
      · exact One.ex (fun H' τ w hled hM => Ex.andNot64 (a := ws.getD k 0#64) (b := vs.getD k 0#64) rfl rfl) rfl (fun _ => rfl) rfl
      intro τ w hM
      change RW _ _ _ _ _ _ _ _ (sl [(2, .pointer (some ⟨b1, 0, none⟩)), (3, .pointer (some ⟨b2, 0, none⟩)), (4, .pointer (some ⟨b3, 0, none⟩)), (5, .int .i64 (0)), (7, .pointer (some ⟨b7, 0, none⟩)), (8, .int .i64 ((k : Int))), (18, .int .i64 ((k : Int))), (19, .pointer (some ⟨b7, 1, none⟩)), (20, .slice A5 ws.length c6), (21, .int .i64 ((ws.length : Int))), (22, .bool (decide ((k : Int) < (ws.length : Int)))), (25, .pointer (some ⟨b7, 1, none⟩)), (26, .slice A5 ws.length c6), (27, .int .i64 ((k : Int))), (28, .pointer (some ⟨b1, 1, none⟩)), (29, .slice A1 ws.length c1), (30, .int .i64 ((k : Int))), (31, elp A1 (k * 1 + 0)), (32, u64 (ws.getD k 0#64)), (33, .pointer (some ⟨b2, 1, none⟩)), (34, .slice A2 vs.length c2), (35, .int .i64 ((k : Int))), (36, elp A2 (k * 1 + 0)), (37, u64 (vs.getD k 0#64)), (38, u64 ((ws.getD k 0#64) &&& ~~~(vs.getD k 0#64)))] τ) _
      refine RW.step (Ex.index st22 rfl rfl k (hM.rowNe (k := 1) rfl (by omega)) (by omega) (by omega)) rfl rfl rfl ?_
      refine RW.storeR hM 1 (k * 1 + 0) (u64 ((ws.getD k 0#64) &&& ~~~(vs.getD k 0#64))) [u64 ((ws.getD k 0#64) &&& ~~~(vs.getD k 0#64))] (((mixK (List.zipWith (fun a b => a &&& ~~~b) ws vs) ws k).set k ((ws.getD k 0#64) &&& ~~~(vs.getD k 0#64))).map u64) sz55 rfl (hM.rowNe (k := 1) rfl (by omega)) rfl rfl (oneAll ⟨rfl, trivial⟩) rfl (by simp only [List.length_map, List.length_cons, List.length_nil]; first | omega | (rw [chK_length]; omega) | (rw [chW_length]; omega) | (rw [List.length_replicate]; omega) | (rw [mixK_length (by rw [List.length_zipWith, List.length_replicate]; omega)]; first | omega | (rw [List.length_replicate]; omega)) | (rw [mixK_length (by rw [List.length_zipWith]; omega)]; omega)) (setW (by first | omega | (rw [chK_length]; omega) | (rw [chW_length]; omega) | (rw [List.length_replicate]; omega) | (rw [mixK_length (by rw [List.length_zipWith, List.length_replicate]; omega)]; first | omega | (rw [List.length_replicate]; omega)) | (rw [mixK_length (by rw [List.length_zipWith]; omega)]; omega))) [.box b7 24 [.int .i64 (n), .slice A5 ws.length c6], .row (.slice A5 ws.length c6) 55 1 ws.length (((mixK (List.zipWith (fun a b => a &&& ~~~b) ws vs) ws k).set k ((ws.getD k 0#64) &&& ~~~(vs.getD k 0#64))).map u64), .box b3 24 [.int .i64 (0), .slice none 0 0], .box b2 24 [.int .i64 (m), .slice A2 vs.length c2], .box b1 24 [.int .i64 (n), .slice A1 ws.length c1]] rfl rfl rfl ?_; intro w hM
      refine RW.nil ?_
      refine CW.region ?_
      refine RW.step (Ex.move (.int .i64 ((k : Int))) rfl) rfl rfl rfl ?_
      refine RW.step (Ex.add rfl rfl (by omega) (by omega)) rfl rfl rfl ?_
      refine RW.step (Ex.assign (.int .i64 ((k : Int) + 1)) rfl) rfl rfl rfl ?_
      refine RW.nil ?_
      refine And.intro rfl (Exists.intro (k + 1) (And.intro ⟨sl_canon ⟨rfl, rfl, rfl, rfl, rfl, (show Value.int _ _ = Value.int _ _ from congrArg (Value.int _) (by omega)), trivial⟩, (by rw [← mixK_step (x := (fun a b => a &&& ~~~b) (ws.getD k 0#64) (vs.getD k 0#64)) (by rw [List.length_zipWith]; first | omega | (rw [List.length_replicate]; omega)) (zip_get (by omega) (by omega))]; exact hM), (by omega), trivial⟩ (by omega)))
    · -- no: (k : Int) < (ws.length : Int)
      refine CW.exit ?_
      refine CW.seq ?_
      refine CW.region ?_
      refine RW.step (Ex.loadA hM 0 [.int .i64 (n), .slice A5 ws.length c6] ta24 rfl rfl rfl rfl) rfl rfl rfl ?_
      refine RW.store hM 2 (.agg #[.int .i64 (n), .slice A5 ws.length c6]) [.int .i64 (n), .slice A5 ws.length c6] [.int .i64 (n), .slice A5 ws.length c6] sz24 rfl rfl rfl (oneAll ⟨rfl, rfl, trivial⟩) rfl (Nat.le_of_ble_eq_true rfl) rfl [.box b7 24 [.int .i64 (n), .slice A5 ws.length c6], .row (.slice A5 ws.length c6) 55 1 ws.length ((mixK (List.zipWith (fun a b => a &&& ~~~b) ws vs) ws k).map u64), .box b3 24 [.int .i64 (n), .slice A5 ws.length c6], .box b2 24 [.int .i64 (m), .slice A2 vs.length c2], .box b1 24 [.int .i64 (n), .slice A1 ws.length c1]] rfl rfl rfl ?_; intro w hM
      refine RW.step (Ex.assign (.int .i64 (0)) rfl) rfl rfl rfl ?_
      refine RW.nil ?_
      refine CW.ret ?_
      refine end_cell_tmp (k := 2) (.inl rfl) rfl hM rfl (.int .i64 (0)) rfl ta24 [.int .i64 (n), .slice A5 ws.length c6] rfl rfl ?_
      have hzl : (List.zipWith (fun a b => a &&& ~~~b) ws vs).length = ws.length := by rw [List.length_zipWith]; first | omega | (rw [List.length_replicate]; omega)
      obtain ⟨H9, hM9, hle9, hr9⟩ := hM.giveRow (k := 1) rfl
      exact ⟨_, _, hM9, BRv.ok (by rw [mixK_full hzl (by first | omega | (rw [List.length_replicate]; omega))]; exact bothR_ok hb) (by first | rw [mixK_length hzl, List.length_replicate] | rw [mixK_length hzl]) hr9⟩

theorem bOr_ret (H : Hp) (A1 : Option Addr) (n : Int) (c1 : Nat) (ws : List (BitVec 64)) (hr1 : RdC H A1 ws.length c1 1 (ws.map u64)) (A2 : Option Addr) (m : Int) (c2 : Nat) (vs : List (BitVec 64)) (hr2 : RdC H A2 vs.length c2 1 (vs.map u64)) : Ret Tryd.prog 33 #[.agg #[.int .i64 n, .slice A1 ws.length c1], .agg #[.int .i64 m, .slice A2 vs.length c2]] H (BRv (bothR (fun a b => a ||| b) n ws m vs)) := by
  have hL := hr1.2.2.1
  have hL1 := hr1.2.1
  unfold maxLen at hL
  have hK := hr2.2.2.1
  have hK1 := hr2.2.1
  unfold maxLen at hK
  refine Ret.of_code Tryd.func33 rfl (Nat.le_of_ble_eq_true rfl) fun w0 hM => ?_
  refine CW.seq ?_
  refine CW.region ?_
  refine RW.box hM (.agg #[.int .i64 (n), .slice A1 ws.length c1]) [.int .i64 (n), .slice A1 ws.length c1] rfl rfl rfl rfl ?_; intro b1 w hM
  refine RW.box hM (.agg #[.int .i64 (m), .slice A2 vs.length c2]) [.int .i64 (m), .slice A2 vs.length c2] rfl rfl rfl rfl ?_; intro b2 w hM
  refine RW.alloc hM tz24 [.int .i64 (0), .slice none 0 0] rfl rfl rfl ?_; intro b3 w hM
  refine RW.step (Ex.assign (.int .i64 (0)) rfl) rfl rfl rfl ?_
  refine RW.nil ?_
  refine CW.seq ?_
  refine CW.region ?_
  refine RW.step (Ex.loadA hM 2 [.int .i64 (n), .slice A1 ws.length c1] ta24 rfl rfl rfl rfl) rfl rfl rfl ?_
  refine RW.step (Ex.loadA hM 1 [.int .i64 (m), .slice A2 vs.length c2] ta24 rfl rfl rfl rfl) rfl rfl rfl ?_
  refine RW.call hM (both_or_ret _ _ n _ ws hr1 _ m _ vs hr2) en47 rfl rfl rfl rfl ?_; rintro _ w H4 hle5 ⟨A6, c7, rfl, hr8⟩ hM
  refine RW.step (Ex.extract rfl rfl) rfl rfl rfl ?_
  refine RW.step (Ex.extract rfl rfl) rfl rfl rfl ?_
  refine RW.store hM 0 (.agg #[.int .i64 ((bothR (fun a b => a ||| b) n ws m vs).n), .slice A6 ((bothR (fun a b => a ||| b) n ws m vs).ws.length) c7]) [.int .i64 ((bothR (fun a b => a ||| b) n ws m vs).n), .slice A6 ((bothR (fun a b => a ||| b) n ws m vs).ws.length) c7] [.int .i64 ((bothR (fun a b => a ||| b) n ws m vs).n), .slice A6 ((bothR (fun a b => a ||| b) n ws m vs).ws.length) c7] sz24 rfl rfl rfl (oneAll ⟨rfl, rfl, trivial⟩) rfl (Nat.le_of_ble_eq_true rfl) rfl [.box b3 24 [.int .i64 ((bothR (fun a b => a ||| b) n ws m vs).n), .slice A6 ((bothR (fun a b => a ||| b) n ws m vs).ws.length) c7], .box b2 24 [.int .i64 (m), .slice A2 vs.length c2], .box b1 24 [.int .i64 (n), .slice A1 ws.length c1]] rfl rfl rfl ?_; intro w hM
  refine RW.step (Ex.assign (.int .i64 ((bothR (fun a b => a ||| b) n ws m vs).e)) rfl) rfl rfl rfl ?_
  refine RW.nil ?_
  refine CW.ret ?_
  refine end_cell_tmp (k := 0) (.inl rfl) rfl hM rfl (.int .i64 ((bothR (fun a b => a ||| b) n ws m vs).e)) rfl ta24 [.int .i64 ((bothR (fun a b => a ||| b) n ws m vs).n), .slice A6 ((bothR (fun a b => a ||| b) n ws m vs).ws.length) c7] rfl rfl ?_
  exact ⟨_, _, hM, BRv.same rfl rfl hr8⟩

theorem bAnd_ret (H : Hp) (A1 : Option Addr) (n : Int) (c1 : Nat) (ws : List (BitVec 64)) (hr1 : RdC H A1 ws.length c1 1 (ws.map u64)) (A2 : Option Addr) (m : Int) (c2 : Nat) (vs : List (BitVec 64)) (hr2 : RdC H A2 vs.length c2 1 (vs.map u64)) : Ret Tryd.prog 35 #[.agg #[.int .i64 n, .slice A1 ws.length c1], .agg #[.int .i64 m, .slice A2 vs.length c2]] H (BRv (bothR (fun a b => a &&& b) n ws m vs)) := by
  have hL := hr1.2.2.1
  have hL1 := hr1.2.1
  unfold maxLen at hL
  have hK := hr2.2.2.1
  have hK1 := hr2.2.1
  unfold maxLen at hK
  refine Ret.of_code Tryd.func35 rfl (Nat.le_of_ble_eq_true rfl) fun w0 hM => ?_
  refine CW.seq ?_
  refine CW.region ?_
  refine RW.box hM (.agg #[.int .i64 (n), .slice A1 ws.length c1]) [.int .i64 (n), .slice A1 ws.length c1] rfl rfl rfl rfl ?_; intro b1 w hM
  refine RW.box hM (.agg #[.int .i64 (m), .slice A2 vs.length c2]) [.int .i64 (m), .slice A2 vs.length c2] rfl rfl rfl rfl ?_; intro b2 w hM
  refine RW.alloc hM tz24 [.int .i64 (0), .slice none 0 0] rfl rfl rfl ?_; intro b3 w hM
  refine RW.step (Ex.assign (.int .i64 (0)) rfl) rfl rfl rfl ?_
  refine RW.nil ?_
  refine CW.seq ?_
  refine CW.region ?_
  refine RW.step (Ex.loadA hM 2 [.int .i64 (n), .slice A1 ws.length c1] ta24 rfl rfl rfl rfl) rfl rfl rfl ?_
  refine RW.step (Ex.loadA hM 1 [.int .i64 (m), .slice A2 vs.length c2] ta24 rfl rfl rfl rfl) rfl rfl rfl ?_
  refine RW.call hM (both_and_ret _ _ n _ ws hr1 _ m _ vs hr2) en47 rfl rfl rfl rfl ?_; rintro _ w H4 hle5 ⟨A6, c7, rfl, hr8⟩ hM
  refine RW.step (Ex.extract rfl rfl) rfl rfl rfl ?_
  refine RW.step (Ex.extract rfl rfl) rfl rfl rfl ?_
  refine RW.store hM 0 (.agg #[.int .i64 ((bothR (fun a b => a &&& b) n ws m vs).n), .slice A6 ((bothR (fun a b => a &&& b) n ws m vs).ws.length) c7]) [.int .i64 ((bothR (fun a b => a &&& b) n ws m vs).n), .slice A6 ((bothR (fun a b => a &&& b) n ws m vs).ws.length) c7] [.int .i64 ((bothR (fun a b => a &&& b) n ws m vs).n), .slice A6 ((bothR (fun a b => a &&& b) n ws m vs).ws.length) c7] sz24 rfl rfl rfl (oneAll ⟨rfl, rfl, trivial⟩) rfl (Nat.le_of_ble_eq_true rfl) rfl [.box b3 24 [.int .i64 ((bothR (fun a b => a &&& b) n ws m vs).n), .slice A6 ((bothR (fun a b => a &&& b) n ws m vs).ws.length) c7], .box b2 24 [.int .i64 (m), .slice A2 vs.length c2], .box b1 24 [.int .i64 (n), .slice A1 ws.length c1]] rfl rfl rfl ?_; intro w hM
  refine RW.step (Ex.assign (.int .i64 ((bothR (fun a b => a &&& b) n ws m vs).e)) rfl) rfl rfl rfl ?_
  refine RW.nil ?_
  refine CW.ret ?_
  refine end_cell_tmp (k := 0) (.inl rfl) rfl hM rfl (.int .i64 ((bothR (fun a b => a &&& b) n ws m vs).e)) rfl ta24 [.int .i64 ((bothR (fun a b => a &&& b) n ws m vs).n), .slice A6 ((bothR (fun a b => a &&& b) n ws m vs).ws.length) c7] rfl rfl ?_
  exact ⟨_, _, hM, BRv.same rfl rfl hr8⟩

theorem bAndNot_ret (H : Hp) (A1 : Option Addr) (n : Int) (c1 : Nat) (ws : List (BitVec 64)) (hr1 : RdC H A1 ws.length c1 1 (ws.map u64)) (A2 : Option Addr) (m : Int) (c2 : Nat) (vs : List (BitVec 64)) (hr2 : RdC H A2 vs.length c2 1 (vs.map u64)) : Ret Tryd.prog 37 #[.agg #[.int .i64 n, .slice A1 ws.length c1], .agg #[.int .i64 m, .slice A2 vs.length c2]] H (BRv (bothR (fun a b => a &&& ~~~b) n ws m vs)) := by
  have hL := hr1.2.2.1
  have hL1 := hr1.2.1
  unfold maxLen at hL
  have hK := hr2.2.2.1
  have hK1 := hr2.2.1
  unfold maxLen at hK
  refine Ret.of_code Tryd.func37 rfl (Nat.le_of_ble_eq_true rfl) fun w0 hM => ?_
  refine CW.seq ?_
  refine CW.region ?_
  refine RW.box hM (.agg #[.int .i64 (n), .slice A1 ws.length c1]) [.int .i64 (n), .slice A1 ws.length c1] rfl rfl rfl rfl ?_; intro b1 w hM
  refine RW.box hM (.agg #[.int .i64 (m), .slice A2 vs.length c2]) [.int .i64 (m), .slice A2 vs.length c2] rfl rfl rfl rfl ?_; intro b2 w hM
  refine RW.alloc hM tz24 [.int .i64 (0), .slice none 0 0] rfl rfl rfl ?_; intro b3 w hM
  refine RW.step (Ex.assign (.int .i64 (0)) rfl) rfl rfl rfl ?_
  refine RW.nil ?_
  refine CW.seq ?_
  refine CW.region ?_
  refine RW.step (Ex.loadA hM 2 [.int .i64 (n), .slice A1 ws.length c1] ta24 rfl rfl rfl rfl) rfl rfl rfl ?_
  refine RW.step (Ex.loadA hM 1 [.int .i64 (m), .slice A2 vs.length c2] ta24 rfl rfl rfl rfl) rfl rfl rfl ?_
  refine RW.call hM (both_andNot_ret _ _ n _ ws hr1 _ m _ vs hr2) en47 rfl rfl rfl rfl ?_; rintro _ w H4 hle5 ⟨A6, c7, rfl, hr8⟩ hM
  refine RW.step (Ex.extract rfl rfl) rfl rfl rfl ?_
  refine RW.step (Ex.extract rfl rfl) rfl rfl rfl ?_
  refine RW.store hM 0 (.agg #[.int .i64 ((bothR (fun a b => a &&& ~~~b) n ws m vs).n), .slice A6 ((bothR (fun a b => a &&& ~~~b) n ws m vs).ws.length) c7]) [.int .i64 ((bothR (fun a b => a &&& ~~~b) n ws m vs).n), .slice A6 ((bothR (fun a b => a &&& ~~~b) n ws m vs).ws.length) c7] [.int .i64 ((bothR (fun a b => a &&& ~~~b) n ws m vs).n), .slice A6 ((bothR (fun a b => a &&& ~~~b) n ws m vs).ws.length) c7] sz24 rfl rfl rfl (oneAll ⟨rfl, rfl, trivial⟩) rfl (Nat.le_of_ble_eq_true rfl) rfl [.box b3 24 [.int .i64 ((bothR (fun a b => a &&& ~~~b) n ws m vs).n), .slice A6 ((bothR (fun a b => a &&& ~~~b) n ws m vs).ws.length) c7], .box b2 24 [.int .i64 (m), .slice A2 vs.length c2], .box b1 24 [.int .i64 (n), .slice A1 ws.length c1]] rfl rfl rfl ?_; intro w hM
  refine RW.step (Ex.assign (.int .i64 ((bothR (fun a b => a &&& ~~~b) n ws m vs).e)) rfl) rfl rfl rfl ?_
  refine RW.nil ?_
  refine CW.ret ?_
  refine end_cell_tmp (k := 0) (.inl rfl) rfl hM rfl (.int .i64 ((bothR (fun a b => a &&& ~~~b) n ws m vs).e)) rfl ta24 [.int .i64 ((bothR (fun a b => a &&& ~~~b) n ws m vs).n), .slice A6 ((bothR (fun a b => a &&& ~~~b) n ws m vs).ws.length) c7] rfl rfl ?_
  exact ⟨_, _, hM, BRv.same rfl rfl hr8⟩

end Go.Proofs.YtackllehpecfgaaDoor
