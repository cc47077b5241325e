/- package bitmap and its reference: counts -/
import Derived.Test.YtackllehpecfgaaDoorBm5
namespace Go.Proofs.YtackllehpecfgaaDoor
open Go.RowKit

theorem ones_ret (H : Hp) (x : BitVec 64) : RetV Tryd.prog 45 #[u64 x] H (.int .i64 (pop x : Int)) := by
  have hp := popX_eq x
  refine Ret.of_code Tryd.func45 rfl (Nat.le_of_ble_eq_true rfl) fun w0 hM => ?_
  refine CW.seq ?_
  refine CW.region ?_
  refine RW.step (Ex.assign (.int .i64 (0)) rfl) rfl rfl rfl ?_
  refine RW.nil ?_
  refine CW.seq ?_
  refine CW.region ?_
  refine RW.step (Ex.move (u64 (x)) rfl) rfl rfl rfl ?_
  refine RW.step (Ex.shr64 (a := x) (n := 1) rfl rfl (by omega)) rfl rfl rfl ?_
  refine RW.step (Ex.and64 (a := x >>> (1 : Int).toNat) (b := 6148914691236517205#64) rfl rfl) rfl rfl rfl ?_
  refine RW.step (Ex.move (u64 (x)) rfl) rfl rfl rfl ?_
  refine RW.step (Ex.and64 (a := x) (b := 6148914691236517205#64) rfl rfl) rfl rfl rfl ?_
  refine RW.step (Ex.add64 (a := (x >>> (1 : Int).toNat) &&& (6148914691236517205#64)) (b := x &&& (6148914691236517205#64)) rfl rfl) rfl rfl rfl ?_
  refine RW.step (Ex.assign (u64 (((x >>> (1 : Int).toNat) &&& (6148914691236517205#64)) + (x &&& (6148914691236517205#64)))) rfl) rfl rfl rfl ?_
  refine RW.nil ?_
  refine CW.seq ?_
  refine CW.region ?_
  refine RW.step (Ex.move (u64 (popX1 x)) rfl) rfl rfl rfl ?_
  refine RW.step (Ex.shr64 (a := popX1 x) (n := 2) rfl rfl (by omega)) rfl rfl rfl ?_
  refine RW.step (Ex.and64 (a := (popX1 x) >>> (2 : Int).toNat) (b := 3689348814741910323#64) rfl rfl) rfl rfl rfl ?_
  refine RW.step (Ex.move (u64 (popX1 x)) rfl) rfl rfl rfl ?_
  refine RW.step (Ex.and64 (a := popX1 x) (b := 3689348814741910323#64) rfl rfl) rfl rfl rfl ?_
  refine RW.step (Ex.add64 (a := ((popX1 x) >>> (2 : Int).toNat) &&& (3689348814741910323#64)) (b := (popX1 x) &&& (3689348814741910323#64)) rfl rfl) rfl rfl rfl ?_
  refine RW.step (Ex.assign (u64 ((((popX1 x) >>> (2 : Int).toNat) &&& (3689348814741910323#64)) + ((popX1 x) &&& (3689348814741910323#64)))) rfl) rfl rfl rfl ?_
  refine RW.nil ?_
  refine CW.seq ?_
  refine CW.region ?_
  refine RW.step (Ex.move (u64 (popX2 (popX1 x))) rfl) rfl rfl rfl ?_
  refine RW.step (Ex.shr64 (a := popX2 (popX1 x)) (n := 4) rfl rfl (by omega)) rfl rfl rfl ?_
  refine RW.step (Ex.move (u64 (popX2 (popX1 x))) rfl) rfl rfl rfl ?_
  refine RW.step (Ex.add64 (a := (popX2 (popX1 x)) >>> (4 : Int).toNat) (b := popX2 (popX1 x)) rfl rfl) rfl rfl rfl ?_
  refine RW.step (Ex.and64 (a := ((popX2 (popX1 x)) >>> (4 : Int).toNat) + (popX2 (popX1 x))) (b := 1085102592571150095#64) rfl rfl) rfl rfl rfl ?_
  refine RW.step (Ex.assign (u64 ((((popX2 (popX1 x)) >>> (4 : Int).toNat) + (popX2 (popX1 x))) &&& (1085102592571150095#64))) rfl) rfl rfl rfl ?_
  refine RW.nil ?_
  refine CW.seq ?_
  refine CW.region ?_
  refine RW.step (Ex.move (u64 (popX3 (popX2 (popX1 x)))) rfl) rfl rfl rfl ?_
  refine RW.step (Ex.move (u64 (popX3 (popX2 (popX1 x)))) rfl) rfl rfl rfl ?_
  refine RW.step (Ex.shr64 (a := popX3 (popX2 (popX1 x))) (n := 8) rfl rfl (by omega)) rfl rfl rfl ?_
  refine RW.step (Ex.add64 (a := popX3 (popX2 (popX1 x))) (b := (popX3 (popX2 (popX1 x))) >>> (8 : Int).toNat) rfl rfl) rfl rfl rfl ?_
  refine RW.step (Ex.assign (u64 ((popX3 (popX2 (popX1 x))) + ((popX3 (popX2 (popX1 x))) >>> (8 : Int).toNat))) rfl) rfl rfl rfl ?_
  refine RW.nil ?_
  refine CW.seq ?_
  refine CW.region ?_
  refine RW.step (Ex.move (u64 (popX4 (popX3 (popX2 (popX1 x))) 8)) rfl) rfl rfl rfl ?_
  refine RW.step (Ex.move (u64 (popX4 (popX3 (popX2 (popX1 x))) 8)) rfl) rfl rfl rfl ?_
  refine RW.step (Ex.shr64 (a := popX4 (popX3 (popX2 (popX1 x))) 8) (n := 16) rfl rfl (by omega)) rfl rfl rfl ?_
  refine RW.step (Ex.add64 (a := popX4 (popX3 (popX2 (popX1 x))) 8) (b := (popX4 (popX3 (popX2 (popX1 x))) 8) >>> (16 : Int).toNat) rfl rfl) rfl rfl rfl ?_
  refine RW.step (Ex.assign (u64 ((popX4 (popX3 (popX2 (popX1 x))) 8) + ((popX4 (popX3 (popX2 (popX1 x))) 8) >>> (16 : Int).toNat))) rfl) rfl rfl rfl ?_
  refine RW.nil ?_
  refine CW.seq ?_
  refine CW.region ?_
  refine RW.step (Ex.move (u64 (popX4 (popX4 (popX3 (popX2 (popX1 x))) 8) 16)) rfl) rfl rfl rfl ?_
  refine RW.step (Ex.move (u64 (popX4 (popX4 (popX3 (popX2 (popX1 x))) 8) 16)) rfl) rfl rfl rfl ?_
  refine RW.step (Ex.shr64 (a := popX4 (popX4 (popX3 (popX2 (popX1 x))) 8) 16) (n := 32) rfl rfl (by omega)) rfl rfl rfl ?_
  refine RW.step (Ex.add64 (a := popX4 (popX4 (popX3 (popX2 (popX1 x))) 8) 16) (b := (popX4 (popX4 (popX3 (popX2 (popX1 x))) 8) 16) >>> (32 : Int).toNat) rfl rfl) rfl rfl rfl ?_
  refine RW.step (Ex.assign (u64 ((popX4 (popX4 (popX3 (popX2 (popX1 x))) 8) 16) + ((popX4 (popX4 (popX3 (popX2 (popX1 x))) 8) 16) >>> (32 : Int).toNat))) rfl) rfl rfl rfl ?_
  refine RW.nil ?_
  refine CW.seq ?_
  refine CW.region ?_
  refine RW.step (Ex.move (u64 (popX x)) rfl) rfl rfl rfl ?_
  refine RW.step (Ex.conv (a := ((popX x).toNat : Int)) Tryd.underlying55 Tryd.underlying3 rfl (wrap_i64 (by omega) (by omega))) rfl rfl rfl ?_
  refine RW.step (Ex.and127 rfl rfl (by omega)) rfl rfl rfl ?_
  refine RW.step (Ex.assign (.int .i64 ((((popX x).toNat % 128 : Nat) : Int))) rfl) rfl rfl rfl ?_
  refine RW.nil ?_
  refine CW.ret ?_
  refine end_tmp (.inl rfl) rfl (.int .i64 ((((popX x).toNat % 128 : Nat) : Int))) rfl ?_
  exact ⟨_, _, hM, congrArg (fun z : Nat => Value.int .i64 (z : Int)) hp.1⟩

theorem count_ret (H : Hp) (A1 : Option Addr) (n : Int) (c1 : Nat) (ws : List (BitVec 64)) (hr1 : RdC H A1 ws.length c1 1 (ws.map u64)) : RetV Tryd.prog 24 #[.agg #[.int .i64 n, .slice A1 ws.length c1]] H (.int .i64 (cntR n ws)) := by
  have hL := hr1.2.2.1
  have hL1 := hr1.2.1
  unfold maxLen at hL
  refine Ret.of_code Tryd.func24 rfl (Nat.le_of_ble_eq_true rfl) fun w0 hM => ?_
  refine CW.seq ?_
  refine CW.region ?_
  refine RW.box hM (.agg #[.int .i64 (n), .slice A1 ws.length c1]) [.int .i64 (n), .slice A1 ws.length c1] rfl rfl rfl rfl ?_; intro b1 w hM
  refine RW.step (Ex.assign (.int .i64 (0)) rfl) rfl rfl rfl ?_
  refine RW.nil ?_
  refine CW.seq ?_
  refine CW.seq ?_
  refine CW.region ?_
  refine RW.step (Ex.loadA hM 0 [.int .i64 (n), .slice A1 ws.length c1] ta24 rfl rfl rfl rfl) rfl rfl rfl ?_
  refine RW.callV hM (check_ret _ _ n _ ws hr1) en20 rfl rfl rfl rfl ?_; intro w hM
  refine RW.step (Ex.neq rfl rfl) rfl rfl rfl ?_
  refine RW.nil ?_
  refine CW.cond_dec rfl (fun hc2 => ?_) (fun hc2 => ?_)
  · -- yes: (chk n ws) ≠ 0
    refine CW.seq ?_
    refine CW.region ?_
    refine RW.step (Ex.assign (.int .i64 (0)) rfl) rfl rfl rfl ?_
    refine RW.nil ?_
    refine CW.ret ?_
    refine thenQ_ret ?_
    refine end_tmp (.inl rfl) rfl (.int .i64 (0)) rfl ?_
    exact ⟨_, _, hM, congrArg (Value.int .i64) (cntR_form hc2).symm⟩
  · -- no: (chk n ws) ≠ 0
    have hwl := wf_len (Classical.not_not.1 hc2)
    refine CW.skip ?_
    refine CW.seq ?_
    refine CW.region ?_
    refine RW.step (Ex.assign (.int .i64 (0)) rfl) rfl rfl rfl ?_
    refine RW.nil ?_
    refine CW.seq ?_
    refine CW.seq ?_
    refine CW.region ?_
    refine RW.step (Ex.fieldAddr fa24_1 rfl) rfl rfl rfl ?_
    refine RW.step (Ex.load1 hM 0 to22 rfl rfl rfl) rfl rfl rfl ?_
    refine RW.step (Ex.len st22.1 rfl) rfl rfl rfl ?_
    refine RW.step (Ex.move (.int .i64 (0)) rfl) rfl rfl rfl ?_
    refine RW.nil ?_
    refine CW.block ?_
    refine CW.loop (β := Nat) (fun (k : Nat) σ w => (∃ τ, σ = sl [(2, .int .i64 (0)), (3, .int .i64 ((cntK ws (64 * k) : Int))), (10, .slice A1 ws.length c1), (11, .int .i64 ((ws.length : Int))), (12, .int .i64 ((k : Int)))] τ) ∧ Mem w0 H w H [.box b1 24 [.int .i64 (n), .slice A1 ws.length c1]] ∧ (k ≤ ws.length) ∧ (cntK ws (64 * k) ≤ 64 * k) ∧ True) (fun k => ws.length - k) (0) ⟨sl_canon ⟨rfl, rfl, rfl, rfl, (show Value.int _ _ = Value.int _ _ from congrArg (Value.int _) (by omega)), trivial⟩, hM, (by omega), (cntK_le ws _), trivial⟩ ?_
    rintro k _ w ⟨⟨τ, rfl⟩, hM, hk, hc, -⟩
    have hpop := (popX_eq (ws.getD k 0#64)).2.1
    refine CW.seq ?_
    refine CW.region ?_
    refine RW.step (Ex.lss rfl rfl) rfl rfl rfl ?_
    refine RW.nil ?_
    refine CW.seq ?_
    refine CW.cond_dec rfl (fun hc3 => ?_) (fun hc3 => ?_)
    · -- yes: (k : Int) < (ws.length : Int)
      refine CW.skip ?_
      refine CW.seq ?_
      refine CW.block ?_
      refine CW.seq ?_
      refine CW.region ?_
      refine RW.step (Ex.index st22 rfl rfl k (hr1.ne (by omega)) (by omega) (by omega)) rfl rfl rfl ?_
      refine RW.step (Ex.loadE hM (Hp.le.refl _) hr1 to55 rfl (getW (by omega))) rfl rfl rfl ?_
      refine RW.step (Ex.assign (u64 (ws.getD k 0#64)) rfl) rfl rfl rfl ?_
      refine RW.nil ?_
      refine CW.region ?_
      refine RW.step (Ex.move (.int .i64 ((cntK ws (64 * k) : Int))) rfl) rfl rfl rfl ?_
      refine RW.step (Ex.move (u64 (ws.getD k 0#64)) rfl) rfl rfl rfl ?_
      refine RW.callV hM (ones_ret _ (ws.getD k 0#64)) en45 rfl rfl rfl rfl ?_; intro w hM
      refine RW.step (Ex.add rfl rfl (by omega) (by omega)) rfl rfl rfl ?_
      refine RW.step (Ex.assign (.int .i64 ((cntK ws (64 * k) : Int) + (pop (ws.getD k 0#64) : Int))) rfl) rfl rfl rfl ?_
      refine RW.nil ?_
      refine CW.region ?_
      refine RW.step (Ex.add rfl rfl (by omega) (by omega)) rfl rfl rfl ?_
      refine RW.step (Ex.move (.int .i64 ((k : Int) + 1)) rfl) rfl rfl rfl ?_
      refine RW.nil ?_
      refine And.intro rfl (Exists.intro (k + 1) (And.intro ⟨sl_canon ⟨rfl, (congrArg (Value.int .i64) (show (cntK ws (64 * k) : Int) + (pop (ws.getD k 0#64) : Int) = (cntK ws (64 * (k + 1)) : Int) by rw [cntK_word]; rfl)), rfl, rfl, (show Value.int _ _ = Value.int _ _ from congrArg (Value.int _) (by omega)), trivial⟩, hM, (by omega), (cntK_le ws _), trivial⟩ (by omega)))
    · -- no: (k : Int) < (ws.length : Int)
      refine CW.exit ?_
      refine CW.seq ?_
      refine CW.region ?_
      refine RW.step (Ex.move (.int .i64 ((cntK ws (64 * k) : Int))) rfl) rfl rfl rfl ?_
      refine RW.step (Ex.assign (.int .i64 ((cntK ws (64 * k) : Int))) rfl) rfl rfl rfl ?_
      refine RW.nil ?_
      refine CW.ret ?_
      refine end_tmp (.inl rfl) rfl (.int .i64 ((cntK ws (64 * k) : Int))) rfl ?_
      exact ⟨_, _, hM, congrArg (Value.int .i64) (cntR_words hc2 (by omega) (by omega)).symm⟩

end Go.Proofs.YtackllehpecfgaaDoor
