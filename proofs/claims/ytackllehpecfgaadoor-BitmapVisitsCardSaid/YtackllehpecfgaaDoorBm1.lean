/- package bitmap and its reference: sizes, checks, masks, Get -/
import Derived.Test.YtackllehpecfgaaDoorBmath
import Derived.Test.YtackllehpecfgaaDoorTypes
namespace Go.Proofs.YtackllehpecfgaaDoor
open Go.RowKit

theorem words_ret (H : Hp) (n : Int) (h0 : 0 ≤ n) (h1 : n ≤ 4096) : RetV Tryd.prog 43 #[.int .i64 n] H (.int .i64 ((n + 63) / 64)) := by
  refine Ret.of_code Tryd.func43 rfl (Nat.le_of_ble_eq_true rfl) fun w0 hM => ?_
  refine CW.seq ?_
  refine CW.region ?_
  refine RW.step (Ex.assign (.int .i64 (0)) rfl) rfl rfl rfl ?_
  refine RW.nil ?_
  refine CW.seq ?_
  refine CW.region ?_
  refine RW.step (Ex.move (.int .i64 (n)) rfl) rfl rfl rfl ?_
  refine RW.step (Ex.add rfl rfl (by omega) (by omega)) rfl rfl rfl ?_
  refine RW.step (Ex.sub rfl rfl (by omega) (by omega)) rfl rfl rfl ?_
  refine RW.step (Ex.quo rfl rfl (by omega) (by omega) (by omega)) rfl rfl rfl ?_
  refine RW.step (Ex.assign (.int .i64 (((n + 64) - 1) / 64)) rfl) rfl rfl rfl ?_
  refine RW.nil ?_
  refine CW.ret ?_
  refine end_tmp (.inl rfl) rfl (.int .i64 (((n + 64) - 1) / 64)) rfl ?_
  exact ⟨_, _, hM, congrArg (Value.int .i64) (by omega)⟩

theorem bit_ret (H : Hp) (A1 : Option Addr) (n : Int) (c1 : Nat) (ws : List (BitVec 64)) (hr1 : RdC H A1 ws.length c1 1 (ws.map u64)) (i : Int) (k : Nat) (hi : i = (k : Int)) (hk : k < 64 * ws.length) (hw : ws.length ≤ 1000000) : RetV Tryd.prog 44 #[.agg #[.int .i64 n, .slice A1 ws.length c1], .int .i64 i] H (.bool (decide (bitN ws k = true))) := by
  subst hi
  have hL := hr1.2.2.1
  have hL1 := hr1.2.1
  unfold maxLen at hL
  refine Ret.of_code Tryd.func44 rfl (Nat.le_of_ble_eq_true rfl) fun w0 hM => ?_
  refine CW.seq ?_
  refine CW.region ?_
  refine RW.box hM (.agg #[.int .i64 (n), .slice A1 ws.length c1]) [.int .i64 (n), .slice A1 ws.length c1] rfl rfl rfl rfl ?_; intro b1 w hM
  refine RW.step (Ex.assign (.bool false) rfl) rfl rfl rfl ?_
  refine RW.nil ?_
  refine CW.seq ?_
  refine CW.region ?_
  refine RW.step (Ex.fieldAddr fa24_1 rfl) rfl rfl rfl ?_
  refine RW.step (Ex.load1 hM 0 to22 rfl rfl rfl) rfl rfl rfl ?_
  refine RW.step (Ex.move (.int .i64 ((k : Int))) rfl) rfl rfl rfl ?_
  refine RW.step (Ex.quo rfl rfl (by omega) (by omega) (by omega)) rfl rfl rfl ?_
  refine RW.step (Ex.index st22 rfl rfl (((k : Int) / 64).toNat) (hr1.ne (by omega)) (by omega) (by omega)) rfl rfl rfl ?_
  refine RW.step (Ex.loadE hM (Hp.le.refl _) hr1 to55 rfl (getW (by omega))) rfl rfl rfl ?_
  refine RW.step (Ex.move (.int .i64 ((k : Int))) rfl) rfl rfl rfl ?_
  refine RW.step (Ex.rem rfl rfl (by omega) (by omega)) rfl rfl rfl ?_
  refine RW.step (Ex.conv Tryd.underlying3 Tryd.underlying70 rfl (wrap_u64_id (by omega) (by omega))) rfl rfl rfl ?_
  refine RW.step (Ex.shr64 (a := ws.getD (((k : Int) / 64).toNat) 0#64) (n := (k : Int) % 64) rfl rfl (by omega)) rfl rfl rfl ?_
  refine RW.step (Ex.and64 (a := (ws.getD (((k : Int) / 64).toNat) 0#64) >>> ((k : Int) % 64 : Int).toNat) (b := 1#64) rfl rfl) rfl rfl rfl ?_
  refine RW.step (Ex.eql64 (a := ((ws.getD (((k : Int) / 64).toNat) 0#64) >>> ((k : Int) % 64 : Int).toNat) &&& (1#64)) (b := 1#64) rfl rfl) rfl rfl rfl ?_
  refine RW.step (Ex.assign (.bool (decide ((((ws.getD (((k : Int) / 64).toNat) 0#64) >>> ((k : Int) % 64 : Int).toNat) &&& (1#64)) = (1#64)))) rfl) rfl rfl rfl ?_
  refine RW.nil ?_
  refine CW.ret ?_
  refine end_tmp (.inl rfl) rfl (.bool (decide ((((ws.getD (((k : Int) / 64).toNat) 0#64) >>> ((k : Int) % 64 : Int).toNat) &&& (1#64)) = (1#64)))) rfl ?_
  exact ⟨_, _, hM, congrArg Value.bool (decide_eq_decide.2 (bit_prop ws k))⟩

theorem check_ret (H : Hp) (A1 : Option Addr) (n : Int) (c1 : Nat) (ws : List (BitVec 64)) (hr1 : RdC H A1 ws.length c1 1 (ws.map u64)) : RetV Tryd.prog 20 #[.agg #[.int .i64 n, .slice A1 ws.length c1]] H (.int .i64 (chk n ws)) := by
  have hL := hr1.2.2.1
  have hL1 := hr1.2.1
  unfold maxLen at hL
  refine Ret.of_code Tryd.func20 rfl (Nat.le_of_ble_eq_true rfl) fun w0 hM => ?_
  refine CW.seq ?_
  refine CW.region ?_
  refine RW.box hM (.agg #[.int .i64 (n), .slice A1 ws.length c1]) [.int .i64 (n), .slice A1 ws.length c1] rfl rfl rfl rfl ?_; intro b1 w hM
  refine RW.step (Ex.assign (.int .i64 (0)) rfl) rfl rfl rfl ?_
  refine RW.nil ?_
  refine CW.seq ?_
  refine CW.seq ?_
  by_cases hd2 : n < 0
  ·
    refine CW.drawE 17 [.pointer (some ⟨b1, 0, none⟩), .int .i64 (n), .bool true, .bool true, undef, undef, undef, .bool true, .bool true, undef, undef, undef, undef, undef, undef, undef, .bool true]
      [[(1, none)], [(4, some 0)], [(5, some 1)], [(6, some 2)], [(7, some 3)], [(7, some 3)], [(7, some 3)], [(7, some 3), (10, some 6)], [(11, some 7)], [(12, some 8)], [(12, some 8)], [(12, some 8)], [(12, some 8)], [(12, some 8)], [(12, some 8)], [(12, some 8)], [(12, some 8), (19, some 15)]] [(1, none), (2, none), (20, some 16)] (by kernel_rfl) hM (by kernel_rfl) ⟨?_, ?_, ?_, ?_, ?_, ?_, ?_, ?_, ?_, ?_, ?_, ?_, ?_, ?_, ?_, ?_, ?_, trivial⟩ ?_
    · exact One.ex (fun H' τ w hled hM => Ex.fieldAddr fa24_0 rfl) rfl (fun _ => rfl) rfl
    · exact One.ex (fun H' τ w hled hM => Ex.load1 hM 0 to3 rfl rfl rfl) rfl (fun _ => rfl) rfl
    · exact One.ex (fun H' τ w hled hM => Ex.yes (Ex.lss rfl rfl) hd2) rfl (fun _ => rfl) rfl
    · exact One.ex (fun H' τ w hled hM => Ex.move (.bool true) rfl) rfl (fun _ => rfl) rfl
    · exact One.pass (fun _ => rfl) rfl
    · exact One.pass (fun _ => rfl) rfl
    · exact One.pass (fun _ => rfl) rfl
    · exact One.ex (fun H' τ w hled hM => Ex.pickT (.bool true) rfl rfl) rfl (fun _ => rfl) rfl
    · exact One.ex (fun H' τ w hled hM => Ex.move (.bool true) rfl) rfl (fun _ => rfl) rfl
    · exact One.pass (fun _ => rfl) rfl
    · exact One.pass (fun _ => rfl) rfl
    · exact One.pass (fun _ => rfl) rfl
    · exact One.pass (fun _ => rfl) rfl
    · exact One.pass (fun _ => rfl) rfl
    · exact One.pass (fun _ => rfl) rfl
    · exact One.pass (fun _ => rfl) rfl
    · exact One.ex (fun H' τ w hled hM => Ex.pickT (.bool true) rfl rfl) rfl (fun _ => rfl) rfl
    intro τ w hM
    change RW _ _ _ _ _ _ _ _ (sl [(1, .pointer (some ⟨b1, 0, none⟩)), (2, .int .i64 (0)), (20, .bool true)] τ) _
    refine RW.nil ?_
    refine CW.cond_true rfl ?_
    refine CW.seq ?_
    refine CW.region ?_
    refine RW.step (Ex.assign (.int .i64 (3)) rfl) rfl rfl rfl ?_
    refine RW.nil ?_
    refine CW.ret ?_
    refine thenQ_ret ?_
    refine end_tmp (.inl rfl) rfl (.int .i64 (3)) rfl ?_
    exact ⟨_, _, hM, congrArg (Value.int .i64) (chk_bad (by omega)).symm⟩
  ·
    by_cases hd3 : 4096 < n
    ·
      refine CW.drawE 17 [.pointer (some ⟨b1, 0, none⟩), .int .i64 (n), .bool false, .bool false, .pointer (some ⟨b1, 0, none⟩), .int .i64 (n), .bool true, .bool true, .bool true, undef, undef, undef, undef, undef, undef, undef, .bool true]
        [[(1, none)], [(4, some 0)], [(5, some 1)], [(6, some 2)], [(1, none), (7, some 3)], [(7, some 3), (8, some 4)], [(7, some 3), (9, some 5)], [(7, some 3), (10, some 6)], [(11, some 7)], [(12, some 8)], [(12, some 8)], [(12, some 8)], [(12, some 8)], [(12, some 8)], [(12, some 8)], [(12, some 8)], [(12, some 8), (19, some 15)]] [(1, none), (2, none), (20, some 16)] (by kernel_rfl) hM (by kernel_rfl) ⟨?_, ?_, ?_, ?_, ?_, ?_, ?_, ?_, ?_, ?_, ?_, ?_, ?_, ?_, ?_, ?_, ?_, trivial⟩ ?_
      · exact One.ex (fun H' τ w hled hM => Ex.fieldAddr fa24_0 rfl) rfl (fun _ => rfl) rfl
      · exact One.ex (fun H' τ w hled hM => Ex.load1 hM 0 to3 rfl rfl rfl) rfl (fun _ => rfl) rfl
      · exact One.ex (fun H' τ w hled hM => Ex.no (Ex.lss rfl rfl) hd2) rfl (fun _ => rfl) rfl
      · exact One.ex (fun H' τ w hled hM => Ex.move (.bool false) rfl) rfl (fun _ => rfl) rfl
      · exact One.ex (fun H' τ w hled hM => Ex.fieldAddr fa24_0 rfl) rfl (fun _ => rfl) rfl
      · exact One.ex (fun H' τ w hled hM => Ex.load1 hM 0 to3 rfl rfl rfl) rfl (fun _ => rfl) rfl
      · exact One.ex (fun H' τ w hled hM => Ex.yes (Ex.gtr rfl rfl) hd3) rfl (fun _ => rfl) rfl
      · exact One.ex (fun H' τ w hled hM => Ex.pickF (.bool true) rfl rfl) rfl (fun _ => rfl) rfl
      · exact One.ex (fun H' τ w hled hM => Ex.move (.bool true) rfl) rfl (fun _ => rfl) rfl
      · exact One.pass (fun _ => rfl) rfl
      · exact One.pass (fun _ => rfl) rfl
      · exact One.pass (fun _ => rfl) rfl
      · exact One.pass (fun _ => rfl) rfl
      · exact One.pass (fun _ => rfl) rfl
      · exact One.pass (fun _ => rfl) rfl
      · exact One.pass (fun _ => rfl) rfl
      · exact One.ex (fun H' τ w hled hM => Ex.pickT (.bool true) rfl rfl) rfl (fun _ => rfl) rfl
      intro τ w hM
      change RW _ _ _ _ _ _ _ _ (sl [(1, .pointer (some ⟨b1, 0, none⟩)), (2, .int .i64 (0)), (20, .bool true)] τ) _
      refine RW.nil ?_
      refine CW.cond_true rfl ?_
      refine CW.seq ?_
      refine CW.region ?_
      refine RW.step (Ex.assign (.int .i64 (3)) rfl) rfl rfl rfl ?_
      refine RW.nil ?_
      refine CW.ret ?_
      refine thenQ_ret ?_
      refine end_tmp (.inl rfl) rfl (.int .i64 (3)) rfl ?_
      exact ⟨_, _, hM, congrArg (Value.int .i64) (chk_bad (by omega)).symm⟩
    ·
      refine CW.drawE 17 [.pointer (some ⟨b1, 0, none⟩), .int .i64 (n), .bool false, .bool false, .pointer (some ⟨b1, 0, none⟩), .int .i64 (n), .bool false, .bool false, .bool false, .pointer (some ⟨b1, 1, none⟩), .slice A1 ws.length c1, .int .i64 ((ws.length : Int)), .pointer (some ⟨b1, 0, none⟩), .int .i64 (n), .int .i64 ((n + 63) / 64), .bool (decide ((ws.length : Int) ≠ ((n + 63) / 64))), .bool (decide ((ws.length : Int) ≠ ((n + 63) / 64)))]
        [[(1, none)], [(4, some 0)], [(5, some 1)], [(6, some 2)], [(1, none), (7, some 3)], [(7, some 3), (8, some 4)], [(7, some 3), (9, some 5)], [(7, some 3), (10, some 6)], [(11, some 7)], [(1, none), (12, some 8)], [(12, some 8), (13, some 9)], [(12, some 8), (14, some 10)], [(1, none), (12, some 8)], [(12, some 8), (16, some 12)], [(12, some 8), (17, some 13)], [(12, some 8), (15, some 11), (18, some 14)], [(12, some 8), (19, some 15)]] [(1, none), (2, none), (20, some 16)] (by kernel_rfl) hM (by kernel_rfl) ⟨?_, ?_, ?_, ?_, ?_, ?_, ?_, ?_, ?_, ?_, ?_, ?_, ?_, ?_, ?_, ?_, ?_, trivial⟩ ?_
      · exact One.ex (fun H' τ w hled hM => Ex.fieldAddr fa24_0 rfl) rfl (fun _ => rfl) rfl
      · exact One.ex (fun H' τ w hled hM => Ex.load1 hM 0 to3 rfl rfl rfl) rfl (fun _ => rfl) rfl
      · exact One.ex (fun H' τ w hled hM => Ex.no (Ex.lss rfl rfl) hd2) rfl (fun _ => rfl) rfl
      · exact One.ex (fun H' τ w hled hM => Ex.move (.bool false) rfl) rfl (fun _ => rfl) rfl
      · exact One.ex (fun H' τ w hled hM => Ex.fieldAddr fa24_0 rfl) rfl (fun _ => rfl) rfl
      · exact One.ex (fun H' τ w hled hM => Ex.load1 hM 0 to3 rfl rfl rfl) rfl (fun _ => rfl) rfl
      · exact One.ex (fun H' τ w hled hM => Ex.no (Ex.gtr rfl rfl) hd3) rfl (fun _ => rfl) rfl
      · exact One.ex (fun H' τ w hled hM => Ex.pickF (.bool false) rfl rfl) rfl (fun _ => rfl) rfl
      · exact One.ex (fun H' τ w hled hM => Ex.move (.bool false) rfl) rfl (fun _ => rfl) rfl
      · exact One.ex (fun H' τ w hled hM => Ex.fieldAddr fa24_1 rfl) rfl (fun _ => rfl) rfl
      · exact One.ex (fun H' τ w hled hM => Ex.load1 hM 0 to22 rfl rfl rfl) rfl (fun _ => rfl) rfl
      · exact One.ex (fun H' τ w hled hM => Ex.len st22.1 rfl) rfl (fun _ => rfl) rfl
      · exact One.ex (fun H' τ w hled hM => Ex.fieldAddr fa24_0 rfl) rfl (fun _ => rfl) rfl
      · exact One.ex (fun H' τ w hled hM => Ex.load1 hM 0 to3 rfl rfl rfl) rfl (fun _ => rfl) rfl
      · exact One.call (words_ret _ n (by omega) (by omega)) en43 (fun _ => rfl) (fun _ => rfl) (fun _ => rfl) rfl
      · exact One.ex (fun H' τ w hled hM => Ex.neq rfl rfl) rfl (fun _ => rfl) rfl
      · exact One.ex (fun H' τ w hled hM => Ex.pickF (.bool (decide ((ws.length : Int) ≠ ((n + 63) / 64)))) rfl rfl) rfl (fun _ => rfl) rfl
      intro τ w hM
      change RW _ _ _ _ _ _ _ _ (sl [(1, .pointer (some ⟨b1, 0, none⟩)), (2, .int .i64 (0)), (20, .bool (decide ((ws.length : Int) ≠ ((n + 63) / 64))))] τ) _
      refine RW.nil ?_
      refine CW.cond_dec rfl (fun hc4 => ?_) (fun hc4 => ?_)
      · -- yes: (ws.length : Int) ≠ ((n + 63) / 64)
        refine CW.seq ?_
        refine CW.region ?_
        refine RW.step (Ex.assign (.int .i64 (3)) rfl) rfl rfl rfl ?_
        refine RW.nil ?_
        refine CW.ret ?_
        refine thenQ_ret ?_
        refine end_tmp (.inl rfl) rfl (.int .i64 (3)) rfl ?_
        exact ⟨_, _, hM, congrArg (Value.int .i64) (chk_bad (by omega)).symm⟩
      · -- no: (ws.length : Int) ≠ ((n + 63) / 64)
        refine CW.skip ?_
        refine CW.seq ?_
        refine CW.seq ?_
        refine CW.region ?_
        refine RW.step (Ex.fieldAddr fa24_0 rfl) rfl rfl rfl ?_
        refine RW.step (Ex.load1 hM 0 to3 rfl rfl rfl) rfl rfl rfl ?_
        refine RW.step (Ex.rem rfl rfl (by omega) (by omega)) rfl rfl rfl ?_
        refine RW.step (Ex.assign (.int .i64 (n % 64)) rfl) rfl rfl rfl ?_
        refine RW.nil ?_
        refine CW.seq ?_
        refine CW.region ?_
        refine RW.step (Ex.move (.int .i64 (n % 64)) rfl) rfl rfl rfl ?_
        refine RW.step (Ex.gtr rfl rfl) rfl rfl rfl ?_
        refine RW.step (Ex.move (.bool (decide (0 < (n % 64)))) rfl) rfl rfl rfl ?_
        refine RW.split 26 rfl (fun hc5 => ?_) (fun hc5 => ?_)
        · -- yes
          refine RW.step (Ex.fieldAddr fa24_1 rfl) rfl rfl rfl ?_
          refine RW.step (Ex.load1 hM 0 to22 rfl rfl rfl) rfl rfl rfl ?_
          refine RW.step (Ex.fieldAddr fa24_1 rfl) rfl rfl rfl ?_
          refine RW.step (Ex.load1 hM 0 to22 rfl rfl rfl) rfl rfl rfl ?_
          refine RW.step (Ex.len st22.1 rfl) rfl rfl rfl ?_
          refine RW.step (Ex.sub rfl rfl (by omega) (by omega)) rfl rfl rfl ?_
          refine RW.step (Ex.index st22 rfl rfl (((ws.length : Int) - 1).toNat) (hr1.ne (by omega)) (by omega) (by omega)) rfl rfl rfl ?_
          refine RW.step (Ex.loadE hM (Hp.le.refl _) hr1 to55 rfl (getW (by omega))) rfl rfl rfl ?_
          refine RW.step (Ex.move (.int .i64 (n % 64)) rfl) rfl rfl rfl ?_
          refine RW.step (Ex.shr64 (a := ws.getD (((ws.length : Int) - 1).toNat) 0#64) (n := n % 64) rfl rfl (by omega)) rfl rfl rfl ?_
          refine RW.step (Ex.neq64 (a := (ws.getD (((ws.length : Int) - 1).toNat) 0#64) >>> (n % 64 : Int).toNat) (b := 0#64) rfl rfl) rfl rfl rfl ?_
          refine RW.step (Ex.pickT (.bool (decide (((ws.getD (((ws.length : Int) - 1).toNat) 0#64) >>> (n % 64 : Int).toNat) ≠ (0#64)))) rfl rfl) rfl rfl rfl ?_
          refine RW.nil ?_
          refine CW.cond_dec rfl (fun hc6 => ?_) (fun hc6 => ?_)
          · -- yes: ((ws.getD (((ws.length : Int) - 1).toNat) 0#64) >>> (n % 64 : Int).toNat) ≠ (0#64)
            refine CW.seq ?_
            refine CW.region ?_
            refine RW.step (Ex.assign (.int .i64 (3)) rfl) rfl rfl rfl ?_
            refine RW.nil ?_
            refine CW.ret ?_
            refine thenQ_ret ?_
            refine end_tmp (.inl rfl) rfl (.int .i64 (3)) rfl ?_
            rw [show ((ws.length : Int) - 1).toNat = ws.length - 1 by omega] at hc6
            exact ⟨_, _, hM, congrArg (Value.int .i64) (chk_top (by omega) (by omega) (by omega) (by omega) hc6).symm⟩
          · -- no: ((ws.getD (((ws.length : Int) - 1).toNat) 0#64) >>> (n % 64 : Int).toNat) ≠ (0#64)
            refine CW.skip ?_
            refine CW.seq ?_
            refine CW.region ?_
            refine RW.step (Ex.assign (.int .i64 (0)) rfl) rfl rfl rfl ?_
            refine RW.nil ?_
            refine CW.ret ?_
            refine end_tmp (.inl rfl) rfl (.int .i64 (0)) rfl ?_
            refine ⟨_, _, hM, congrArg (Value.int .i64) (chk_top_ok (by omega) (by omega) (by omega) ?_).symm⟩
            intro _
            have hz := Classical.not_not.1 hc6
            rwa [show ((ws.length : Int) - 1).toNat = ws.length - 1 by omega] at hz
        · -- no
          refine RW.pass rfl rfl ?_
          refine RW.pass rfl rfl ?_
          refine RW.pass rfl rfl ?_
          refine RW.pass rfl rfl ?_
          refine RW.pass rfl rfl ?_
          refine RW.pass rfl rfl ?_
          refine RW.pass rfl rfl ?_
          refine RW.pass rfl rfl ?_
          refine RW.pass rfl rfl ?_
          refine RW.pass rfl rfl ?_
          refine RW.pass rfl rfl ?_
          refine RW.step (Ex.pickF (.bool false) rfl rfl) rfl rfl rfl ?_
          refine RW.nil ?_
          refine CW.cond_false rfl ?_
          refine CW.skip ?_
          refine CW.seq ?_
          refine CW.region ?_
          refine RW.step (Ex.assign (.int .i64 (0)) rfl) rfl rfl rfl ?_
          refine RW.nil ?_
          refine CW.ret ?_
          refine end_tmp (.inl rfl) rfl (.int .i64 (0)) rfl ?_
          refine ⟨_, _, hM, congrArg (Value.int .i64) (chk_top_ok (by omega) (by omega) (by omega) ?_).symm⟩
          intro h; omega

theorem rcheck_ret (H : Hp) (A1 : Option Addr) (n : Int) (c1 : Nat) (ws : List (BitVec 64)) (hr1 : RdC H A1 ws.length c1 1 (ws.map u64)) : RetV Tryd.prog 21 #[.agg #[.int .i64 n, .slice A1 ws.length c1]] H (.int .i64 (chk n ws)) := by
  have hL := hr1.2.2.1
  have hL1 := hr1.2.1
  unfold maxLen at hL
  refine Ret.of_code Tryd.func21 rfl (Nat.le_of_ble_eq_true rfl) fun w0 hM => ?_
  refine CW.seq ?_
  refine CW.region ?_
  refine RW.box hM (.agg #[.int .i64 (n), .slice A1 ws.length c1]) [.int .i64 (n), .slice A1 ws.length c1] rfl rfl rfl rfl ?_; intro b1 w hM
  refine RW.step (Ex.assign (.int .i64 (0)) rfl) rfl rfl rfl ?_
  refine RW.nil ?_
  refine CW.seq ?_
  refine CW.seq ?_
  refine CW.region ?_
  refine RW.step (Ex.fieldAddr fa24_0 rfl) rfl rfl rfl ?_
  refine RW.step (Ex.load1 hM 0 to3 rfl rfl rfl) rfl rfl rfl ?_
  refine RW.step (Ex.lss rfl rfl) rfl rfl rfl ?_
  refine RW.step (Ex.move (.bool (decide (n < 0))) rfl) rfl rfl rfl ?_
  refine RW.split 7 rfl (fun hc2 => ?_) (fun hc2 => ?_)
  · -- yes
    refine RW.pass rfl rfl ?_
    refine RW.pass rfl rfl ?_
    refine RW.pass rfl rfl ?_
    refine RW.step (Ex.pickT (.bool true) rfl rfl) rfl rfl rfl ?_
    refine RW.step (Ex.move (.bool true) rfl) rfl rfl rfl ?_
    refine RW.pass rfl rfl ?_
    refine RW.pass rfl rfl ?_
    refine RW.pass rfl rfl ?_
    refine RW.pass rfl rfl ?_
    refine RW.pass rfl rfl ?_
    refine RW.pass rfl rfl ?_
    refine RW.pass rfl rfl ?_
    refine RW.pass rfl rfl ?_
    refine RW.step (Ex.pickT (.bool true) rfl rfl) rfl rfl rfl ?_
    refine RW.nil ?_
    refine CW.cond_true rfl ?_
    refine CW.seq ?_
    refine CW.region ?_
    refine RW.step (Ex.assign (.int .i64 (3)) rfl) rfl rfl rfl ?_
    refine RW.nil ?_
    refine CW.ret ?_
    refine thenQ_ret ?_
    refine end_tmp (.inl rfl) rfl (.int .i64 (3)) rfl ?_
    exact ⟨_, _, hM, congrArg (Value.int .i64) (chk_bad (by omega)).symm⟩
  · -- no
    refine RW.step (Ex.fieldAddr fa24_0 rfl) rfl rfl rfl ?_
    refine RW.step (Ex.load1 hM 0 to3 rfl rfl rfl) rfl rfl rfl ?_
    refine RW.step (Ex.gtr rfl rfl) rfl rfl rfl ?_
    refine RW.step (Ex.pickF (.bool (decide (4096 < n))) rfl rfl) rfl rfl rfl ?_
    refine RW.step (Ex.move (.bool (decide (4096 < n))) rfl) rfl rfl rfl ?_
    refine RW.split 12 rfl (fun hc3 => ?_) (fun hc3 => ?_)
    · -- yes
      refine RW.pass rfl rfl ?_
      refine RW.pass rfl rfl ?_
      refine RW.pass rfl rfl ?_
      refine RW.pass rfl rfl ?_
      refine RW.pass rfl rfl ?_
      refine RW.pass rfl rfl ?_
      refine RW.pass rfl rfl ?_
      refine RW.pass rfl rfl ?_
      refine RW.step (Ex.pickT (.bool true) rfl rfl) rfl rfl rfl ?_
      refine RW.nil ?_
      refine CW.cond_true rfl ?_
      refine CW.seq ?_
      refine CW.region ?_
      refine RW.step (Ex.assign (.int .i64 (3)) rfl) rfl rfl rfl ?_
      refine RW.nil ?_
      refine CW.ret ?_
      refine thenQ_ret ?_
      refine end_tmp (.inl rfl) rfl (.int .i64 (3)) rfl ?_
      exact ⟨_, _, hM, congrArg (Value.int .i64) (chk_bad (by omega)).symm⟩
    · -- no
      refine RW.step (Ex.fieldAddr fa24_1 rfl) rfl rfl rfl ?_
      refine RW.step (Ex.load1 hM 0 to22 rfl rfl rfl) rfl rfl rfl ?_
      refine RW.step (Ex.len st22.1 rfl) rfl rfl rfl ?_
      refine RW.step (Ex.fieldAddr fa24_0 rfl) rfl rfl rfl ?_
      refine RW.step (Ex.load1 hM 0 to3 rfl rfl rfl) rfl rfl rfl ?_
      refine RW.step (Ex.add rfl rfl (by omega) (by omega)) rfl rfl rfl ?_
      refine RW.step (Ex.quo rfl rfl (by omega) (by omega) (by omega)) rfl rfl rfl ?_
      refine RW.step (Ex.neq rfl rfl) rfl rfl rfl ?_
      refine RW.step (Ex.pickF (.bool (decide ((ws.length : Int) ≠ ((n + 63) / 64)))) rfl rfl) rfl rfl rfl ?_
      refine RW.nil ?_
      refine CW.cond_dec rfl (fun hc4 => ?_) (fun hc4 => ?_)
      · -- yes: (ws.length : Int) ≠ ((n + 63) / 64)
        refine CW.seq ?_
        refine CW.region ?_
        refine RW.step (Ex.assign (.int .i64 (3)) rfl) rfl rfl rfl ?_
        refine RW.nil ?_
        refine CW.ret ?_
        refine thenQ_ret ?_
        refine end_tmp (.inl rfl) rfl (.int .i64 (3)) rfl ?_
        exact ⟨_, _, hM, congrArg (Value.int .i64) (chk_bad (by omega)).symm⟩
      · -- no: (ws.length : Int) ≠ ((n + 63) / 64)
        refine CW.skip ?_
        refine CW.seq ?_
        refine CW.seq ?_
        refine CW.region ?_
        refine RW.step (Ex.fieldAddr fa24_0 rfl) rfl rfl rfl ?_
        refine RW.step (Ex.load1 hM 0 to3 rfl rfl rfl) rfl rfl rfl ?_
        refine RW.step (Ex.assign (.int .i64 (n)) rfl) rfl rfl rfl ?_
        refine RW.nil ?_
        refine CW.block ?_
        refine CW.loop (β := Nat) (fun (k : Nat) σ w => (∃ τ, σ = sl [(1, .pointer (some ⟨b1, 0, none⟩)), (3, .int .i64 ((k : Int)))] τ) ∧ Mem w0 H w H [.box b1 24 [.int .i64 (n), .slice A1 ws.length c1]] ∧ (n ≤ (k : Int)) ∧ (k ≤ 64 * ws.length) ∧ (∀ i : Nat, n ≤ (i : Int) → i < k → bitN ws i = false) ∧ True) (fun k => 64 * ws.length - k) (n.toNat) ⟨sl_canon ⟨rfl, (show Value.int _ _ = Value.int _ _ from congrArg (Value.int _) (by omega)), trivial⟩, hM, (by omega), (by omega), (fun i h1 h2 => by omega), trivial⟩ ?_
        rintro k _ w ⟨⟨τ, rfl⟩, hM, hk1, hk2, hz, -⟩
        refine CW.seq ?_
        refine CW.seq ?_
        refine CW.region ?_
        refine RW.step (Ex.move (.int .i64 ((k : Int))) rfl) rfl rfl rfl ?_
        refine RW.step (Ex.fieldAddr fa24_1 rfl) rfl rfl rfl ?_
        refine RW.step (Ex.load1 hM 0 to22 rfl rfl rfl) rfl rfl rfl ?_
        refine RW.step (Ex.len st22.1 rfl) rfl rfl rfl ?_
        refine RW.step (Ex.mul rfl rfl (by omega) (by omega)) rfl rfl rfl ?_
        refine RW.step (Ex.lss rfl rfl) rfl rfl rfl ?_
        refine RW.nil ?_
        refine CW.cond_dec rfl (fun hc5 => ?_) (fun hc5 => ?_)
        · -- yes: (k : Int) < (64 * (ws.length : Int))
          refine CW.skip ?_
          refine CW.seq ?_
          refine CW.block ?_
          refine CW.seq ?_
          refine CW.region ?_
          refine RW.step (Ex.loadA hM 0 [.int .i64 (n), .slice A1 ws.length c1] ta24 rfl rfl rfl rfl) rfl rfl rfl ?_
          refine RW.step (Ex.move (.int .i64 ((k : Int))) rfl) rfl rfl rfl ?_
          refine RW.callV hM (bit_ret _ _ n _ ws hr1 (k : Int) k (by omega) (by omega) (by omega)) en44 rfl rfl rfl rfl ?_; intro w hM
          refine RW.nil ?_
          refine CW.cond_dec rfl (fun hc6 => ?_) (fun hc6 => ?_)
          · -- yes: bitN ws k = true
            refine CW.seq ?_
            refine CW.region ?_
            refine RW.step (Ex.assign (.int .i64 (3)) rfl) rfl rfl rfl ?_
            refine RW.nil ?_
            refine CW.ret ?_
            refine blockQ_ret (thenQ_ret (thenQ_ret (blockQ_ret (thenQ_ret ?_))))
            refine end_tmp (.inl rfl) rfl (.int .i64 (3)) rfl ?_
            exact ⟨_, _, hM, congrArg (Value.int .i64) (chk_set (by omega) hk1 hc6).symm⟩
          · -- no: bitN ws k = true
            refine CW.skip ?_
            refine CW.region ?_
            refine RW.step (Ex.move (.int .i64 ((k : Int))) rfl) rfl rfl rfl ?_
            refine RW.step (Ex.add rfl rfl (by omega) (by omega)) rfl rfl rfl ?_
            refine RW.step (Ex.assign (.int .i64 ((k : Int) + 1)) rfl) rfl rfl rfl ?_
            refine RW.nil ?_
            refine And.intro rfl (Exists.intro (k + 1) (And.intro ⟨sl_canon ⟨rfl, (show Value.int _ _ = Value.int _ _ from congrArg (Value.int _) (by omega)), trivial⟩, hM, (by omega), (by omega), (zstep hz hc6), trivial⟩ (by omega)))
        · -- no: (k : Int) < (64 * (ws.length : Int))
          refine CW.exit ?_
          refine CW.seq ?_
          refine CW.region ?_
          refine RW.step (Ex.assign (.int .i64 (0)) rfl) rfl rfl rfl ?_
          refine RW.nil ?_
          refine CW.ret ?_
          refine end_tmp (.inl rfl) rfl (.int .i64 (0)) rfl ?_
          exact ⟨_, _, hM, congrArg (Value.int .i64) (chk_ok (by omega) (by omega) (by omega) fun i h1 h2 => hz i h2 (by omega)).symm⟩

theorem fits_ret (H : Hp) (s c n : Int) (h0 : 0 ≤ n) (h1 : n ≤ 9223372036854775807) : RetV Tryd.prog 53 #[.agg #[.int .i64 s, .int .i64 c], .int .i64 n] H (.bool (decide (fitsB s c n = true))) := by
  refine Ret.of_code Tryd.func53 rfl (Nat.le_of_ble_eq_true rfl) fun w0 hM => ?_
  refine CW.seq ?_
  refine CW.region ?_
  refine RW.box hM (.agg #[.int .i64 (s), .int .i64 (c)]) [.int .i64 (s), .int .i64 (c)] rfl rfl rfl rfl ?_; intro b1 w hM
  refine RW.step (Ex.assign (.bool false) rfl) rfl rfl rfl ?_
  refine RW.nil ?_
  refine CW.seq ?_
  refine CW.region ?_
  refine RW.step (Ex.fieldAddr fa26_0 rfl) rfl rfl rfl ?_
  refine RW.step (Ex.load1 hM 0 to3 rfl rfl rfl) rfl rfl rfl ?_
  refine RW.step (Ex.geq rfl rfl) rfl rfl rfl ?_
  refine RW.step (Ex.move (.bool (decide (0 ≤ s))) rfl) rfl rfl rfl ?_
  refine RW.split 8 rfl (fun hc2 => ?_) (fun hc2 => ?_)
  · -- yes
    refine RW.step (Ex.fieldAddr fa26_1 rfl) rfl rfl rfl ?_
    refine RW.step (Ex.load1 hM 0 to3 rfl rfl rfl) rfl rfl rfl ?_
    refine RW.step (Ex.geq rfl rfl) rfl rfl rfl ?_
    refine RW.step (Ex.pickT (.bool (decide (0 ≤ c))) rfl rfl) rfl rfl rfl ?_
    refine RW.step (Ex.move (.bool (decide (0 ≤ c))) rfl) rfl rfl rfl ?_
    refine RW.split 13 rfl (fun hc3 => ?_) (fun hc3 => ?_)
    · -- yes
      refine RW.step (Ex.fieldAddr fa26_0 rfl) rfl rfl rfl ?_
      refine RW.step (Ex.load1 hM 0 to3 rfl rfl rfl) rfl rfl rfl ?_
      refine RW.step (Ex.move (.int .i64 (n)) rfl) rfl rfl rfl ?_
      refine RW.step (Ex.leq rfl rfl) rfl rfl rfl ?_
      refine RW.step (Ex.pickT (.bool (decide (s ≤ n))) rfl rfl) rfl rfl rfl ?_
      refine RW.step (Ex.move (.bool (decide (s ≤ n))) rfl) rfl rfl rfl ?_
      refine RW.split 19 rfl (fun hc4 => ?_) (fun hc4 => ?_)
      · -- yes
        refine RW.step (Ex.fieldAddr fa26_1 rfl) rfl rfl rfl ?_
        refine RW.step (Ex.load1 hM 0 to3 rfl rfl rfl) rfl rfl rfl ?_
        refine RW.step (Ex.move (.int .i64 (n)) rfl) rfl rfl rfl ?_
        refine RW.step (Ex.fieldAddr fa26_0 rfl) rfl rfl rfl ?_
        refine RW.step (Ex.load1 hM 0 to3 rfl rfl rfl) rfl rfl rfl ?_
        refine RW.step (Ex.sub rfl rfl (by omega) (by omega)) rfl rfl rfl ?_
        refine RW.step (Ex.leq rfl rfl) rfl rfl rfl ?_
        refine RW.step (Ex.pickT (.bool (decide (c ≤ (n - s)))) rfl rfl) rfl rfl rfl ?_
        refine RW.step (Ex.assign (.bool (decide (c ≤ (n - s)))) rfl) rfl rfl rfl ?_
        refine RW.nil ?_
        refine CW.ret ?_
        refine end_tmp (.inl rfl) rfl (.bool (decide (c ≤ (n - s)))) rfl ?_
        exact ⟨_, _, hM, congrArg Value.bool (decide_eq_decide.2 ⟨fun h => fitsB_iff.2 (by omega), fun h => by have := fitsB_iff.1 h; omega⟩)⟩
      · -- no
        refine RW.pass rfl rfl ?_
        refine RW.pass rfl rfl ?_
        refine RW.pass rfl rfl ?_
        refine RW.pass rfl rfl ?_
        refine RW.pass rfl rfl ?_
        refine RW.pass rfl rfl ?_
        refine RW.pass rfl rfl ?_
        refine RW.step (Ex.pickF (.bool false) rfl rfl) rfl rfl rfl ?_
        refine RW.step (Ex.assign (.bool false) rfl) rfl rfl rfl ?_
        refine RW.nil ?_
        refine CW.ret ?_
        refine end_tmp (.inl rfl) rfl (.bool false) rfl ?_
        exact ⟨_, _, hM, congrArg Value.bool (decide_eq_false (fun h => by have := fitsB_iff.1 h; omega)).symm⟩
    · -- no
      refine RW.pass rfl rfl ?_
      refine RW.pass rfl rfl ?_
      refine RW.pass rfl rfl ?_
      refine RW.pass rfl rfl ?_
      refine RW.step (Ex.pickF (.bool false) rfl rfl) rfl rfl rfl ?_
      refine RW.step (Ex.move (.bool false) rfl) rfl rfl rfl ?_
      refine RW.pass rfl rfl ?_
      refine RW.pass rfl rfl ?_
      refine RW.pass rfl rfl ?_
      refine RW.pass rfl rfl ?_
      refine RW.pass rfl rfl ?_
      refine RW.pass rfl rfl ?_
      refine RW.pass rfl rfl ?_
      refine RW.step (Ex.pickF (.bool false) rfl rfl) rfl rfl rfl ?_
      refine RW.step (Ex.assign (.bool false) rfl) rfl rfl rfl ?_
      refine RW.nil ?_
      refine CW.ret ?_
      refine end_tmp (.inl rfl) rfl (.bool false) rfl ?_
      exact ⟨_, _, hM, congrArg Value.bool (decide_eq_false (fun h => by have := fitsB_iff.1 h; omega)).symm⟩
  · -- no
    refine RW.pass rfl rfl ?_
    refine RW.pass rfl rfl ?_
    refine RW.pass rfl rfl ?_
    refine RW.step (Ex.pickF (.bool false) rfl rfl) rfl rfl rfl ?_
    refine RW.step (Ex.move (.bool false) rfl) rfl rfl rfl ?_
    refine RW.pass rfl rfl ?_
    refine RW.pass rfl rfl ?_
    refine RW.pass rfl rfl ?_
    refine RW.pass rfl rfl ?_
    refine RW.step (Ex.pickF (.bool false) rfl rfl) rfl rfl rfl ?_
    refine RW.step (Ex.move (.bool false) rfl) rfl rfl rfl ?_
    refine RW.pass rfl rfl ?_
    refine RW.pass rfl rfl ?_
    refine RW.pass rfl rfl ?_
    refine RW.pass rfl rfl ?_
    refine RW.pass rfl rfl ?_
    refine RW.pass rfl rfl ?_
    refine RW.pass rfl rfl ?_
    refine RW.step (Ex.pickF (.bool false) rfl rfl) rfl rfl rfl ?_
    refine RW.step (Ex.assign (.bool false) rfl) rfl rfl rfl ?_
    refine RW.nil ?_
    refine CW.ret ?_
    refine end_tmp (.inl rfl) rfl (.bool false) rfl ?_
    exact ⟨_, _, hM, congrArg Value.bool (decide_eq_false (fun h => by have := fitsB_iff.1 h; omega)).symm⟩

theorem rfits_ret (H : Hp) (s c n : Int) (h0 : 0 ≤ n) (h1 : n ≤ 9223372036854775807) : RetV Tryd.prog 56 #[.agg #[.int .i64 s, .int .i64 c], .int .i64 n] H (.bool (decide (fitsB s c n = true))) := by
  refine Ret.of_code Tryd.func56 rfl (Nat.le_of_ble_eq_true rfl) fun w0 hM => ?_
  refine CW.seq ?_
  refine CW.region ?_
  refine RW.box hM (.agg #[.int .i64 (s), .int .i64 (c)]) [.int .i64 (s), .int .i64 (c)] rfl rfl rfl rfl ?_; intro b1 w hM
  refine RW.step (Ex.assign (.bool false) rfl) rfl rfl rfl ?_
  refine RW.nil ?_
  refine CW.seq ?_
  refine CW.region ?_
  refine RW.step (Ex.fieldAddr fa26_0 rfl) rfl rfl rfl ?_
  refine RW.step (Ex.load1 hM 0 to3 rfl rfl rfl) rfl rfl rfl ?_
  refine RW.step (Ex.geq rfl rfl) rfl rfl rfl ?_
  refine RW.step (Ex.move (.bool (decide (0 ≤ s))) rfl) rfl rfl rfl ?_
  refine RW.split 8 rfl (fun hc2 => ?_) (fun hc2 => ?_)
  · -- yes
    refine RW.step (Ex.fieldAddr fa26_1 rfl) rfl rfl rfl ?_
    refine RW.step (Ex.load1 hM 0 to3 rfl rfl rfl) rfl rfl rfl ?_
    refine RW.step (Ex.geq rfl rfl) rfl rfl rfl ?_
    refine RW.step (Ex.pickT (.bool (decide (0 ≤ c))) rfl rfl) rfl rfl rfl ?_
    refine RW.step (Ex.move (.bool (decide (0 ≤ c))) rfl) rfl rfl rfl ?_
    refine RW.split 13 rfl (fun hc3 => ?_) (fun hc3 => ?_)
    · -- yes
      refine RW.step (Ex.fieldAddr fa26_0 rfl) rfl rfl rfl ?_
      refine RW.step (Ex.load1 hM 0 to3 rfl rfl rfl) rfl rfl rfl ?_
      refine RW.step (Ex.move (.int .i64 (n)) rfl) rfl rfl rfl ?_
      refine RW.step (Ex.leq rfl rfl) rfl rfl rfl ?_
      refine RW.step (Ex.pickT (.bool (decide (s ≤ n))) rfl rfl) rfl rfl rfl ?_
      refine RW.step (Ex.move (.bool (decide (s ≤ n))) rfl) rfl rfl rfl ?_
      refine RW.split 19 rfl (fun hc4 => ?_) (fun hc4 => ?_)
      · -- yes
        refine RW.step (Ex.fieldAddr fa26_1 rfl) rfl rfl rfl ?_
        refine RW.step (Ex.load1 hM 0 to3 rfl rfl rfl) rfl rfl rfl ?_
        refine RW.step (Ex.move (.int .i64 (n)) rfl) rfl rfl rfl ?_
        refine RW.step (Ex.fieldAddr fa26_0 rfl) rfl rfl rfl ?_
        refine RW.step (Ex.load1 hM 0 to3 rfl rfl rfl) rfl rfl rfl ?_
        refine RW.step (Ex.sub rfl rfl (by omega) (by omega)) rfl rfl rfl ?_
        refine RW.step (Ex.leq rfl rfl) rfl rfl rfl ?_
        refine RW.step (Ex.pickT (.bool (decide (c ≤ (n - s)))) rfl rfl) rfl rfl rfl ?_
        refine RW.step (Ex.assign (.bool (decide (c ≤ (n - s)))) rfl) rfl rfl rfl ?_
        refine RW.nil ?_
        refine CW.ret ?_
        refine end_tmp (.inl rfl) rfl (.bool (decide (c ≤ (n - s)))) rfl ?_
        exact ⟨_, _, hM, congrArg Value.bool (decide_eq_decide.2 ⟨fun h => fitsB_iff.2 (by omega), fun h => by have := fitsB_iff.1 h; omega⟩)⟩
      · -- no
        refine RW.pass rfl rfl ?_
        refine RW.pass rfl rfl ?_
        refine RW.pass rfl rfl ?_
        refine RW.pass rfl rfl ?_
        refine RW.pass rfl rfl ?_
        refine RW.pass rfl rfl ?_
        refine RW.pass rfl rfl ?_
        refine RW.step (Ex.pickF (.bool false) rfl rfl) rfl rfl rfl ?_
        refine RW.step (Ex.assign (.bool false) rfl) rfl rfl rfl ?_
        refine RW.nil ?_
        refine CW.ret ?_
        refine end_tmp (.inl rfl) rfl (.bool false) rfl ?_
        exact ⟨_, _, hM, congrArg Value.bool (decide_eq_false (fun h => by have := fitsB_iff.1 h; omega)).symm⟩
    · -- no
      refine RW.pass rfl rfl ?_
      refine RW.pass rfl rfl ?_
      refine RW.pass rfl rfl ?_
      refine RW.pass rfl rfl ?_
      refine RW.step (Ex.pickF (.bool false) rfl rfl) rfl rfl rfl ?_
      refine RW.step (Ex.move (.bool false) rfl) rfl rfl rfl ?_
      refine RW.pass rfl rfl ?_
      refine RW.pass rfl rfl ?_
      refine RW.pass rfl rfl ?_
      refine RW.pass rfl rfl ?_
      refine RW.pass rfl rfl ?_
      refine RW.pass rfl rfl ?_
      refine RW.pass rfl rfl ?_
      refine RW.step (Ex.pickF (.bool false) rfl rfl) rfl rfl rfl ?_
      refine RW.step (Ex.assign (.bool false) rfl) rfl rfl rfl ?_
      refine RW.nil ?_
      refine CW.ret ?_
      refine end_tmp (.inl rfl) rfl (.bool false) rfl ?_
      exact ⟨_, _, hM, congrArg Value.bool (decide_eq_false (fun h => by have := fitsB_iff.1 h; omega)).symm⟩
  · -- no
    refine RW.pass rfl rfl ?_
    refine RW.pass rfl rfl ?_
    refine RW.pass rfl rfl ?_
    refine RW.step (Ex.pickF (.bool false) rfl rfl) rfl rfl rfl ?_
    refine RW.step (Ex.move (.bool false) rfl) rfl rfl rfl ?_
    refine RW.pass rfl rfl ?_
    refine RW.pass rfl rfl ?_
    refine RW.pass rfl rfl ?_
    refine RW.pass rfl rfl ?_
    refine RW.step (Ex.pickF (.bool false) rfl rfl) rfl rfl rfl ?_
    refine RW.step (Ex.move (.bool false) rfl) rfl rfl rfl ?_
    refine RW.pass rfl rfl ?_
    refine RW.pass rfl rfl ?_
    refine RW.pass rfl rfl ?_
    refine RW.pass rfl rfl ?_
    refine RW.pass rfl rfl ?_
    refine RW.pass rfl rfl ?_
    refine RW.pass rfl rfl ?_
    refine RW.step (Ex.pickF (.bool false) rfl rfl) rfl rfl rfl ?_
    refine RW.step (Ex.assign (.bool false) rfl) rfl rfl rfl ?_
    refine RW.nil ?_
    refine CW.ret ?_
    refine end_tmp (.inl rfl) rfl (.bool false) rfl ?_
    exact ⟨_, _, hM, congrArg Value.bool (decide_eq_false (fun h => by have := fitsB_iff.1 h; omega)).symm⟩

theorem mask_ret (H : Hp) (i f t : Int) (hi0 : 0 ≤ i) (hi1 : i ≤ 100000) (hf0 : -4611686018427387904 ≤ f) (hf1 : f ≤ 9223372036854775807) (ht0 : -4611686018427387904 ≤ t) (ht1 : t ≤ 9223372036854775807) : RetV Tryd.prog 55 #[.int .i64 i, .int .i64 f, .int .i64 t] H (u64 (maskW i f t)) := by
  refine Ret.of_code Tryd.func55 rfl (Nat.le_of_ble_eq_true rfl) fun w0 hM => ?_
  refine CW.seq ?_
  refine CW.region ?_
  refine RW.step (Ex.assign (.int .u64 (0)) rfl) rfl rfl rfl ?_
  refine RW.nil ?_
  refine CW.seq ?_
  refine CW.region ?_
  refine RW.step (Ex.move (.int .i64 (f)) rfl) rfl rfl rfl ?_
  refine RW.step (Ex.move (.int .i64 (i)) rfl) rfl rfl rfl ?_
  refine RW.step (Ex.mul rfl rfl (by omega) (by omega)) rfl rfl rfl ?_
  refine RW.step (Ex.sub rfl rfl (by omega) (by omega)) rfl rfl rfl ?_
  refine RW.step (Ex.maxI rfl rfl) rfl rfl rfl ?_
  refine RW.step (Ex.move (.int .i64 (t)) rfl) rfl rfl rfl ?_
  refine RW.step (Ex.move (.int .i64 (i)) rfl) rfl rfl rfl ?_
  refine RW.step (Ex.mul rfl rfl (by omega) (by omega)) rfl rfl rfl ?_
  refine RW.step (Ex.sub rfl rfl (by omega) (by omega)) rfl rfl rfl ?_
  refine RW.step (Ex.minI rfl rfl) rfl rfl rfl ?_
  refine RW.step (Ex.assign (.int .i64 (if (f - (i * 64)) < 0 then 0 else (f - (i * 64)))) rfl) rfl rfl rfl ?_
  refine RW.step (Ex.assign (.int .i64 (if 64 < (t - (i * 64)) then 64 else (t - (i * 64)))) rfl) rfl rfl rfl ?_
  refine RW.nil ?_
  refine CW.seq ?_
  refine CW.seq ?_
  refine CW.region ?_
  refine RW.step (Ex.move (.int .i64 (if (f - (i * 64)) < 0 then 0 else (f - (i * 64)))) rfl) rfl rfl rfl ?_
  refine RW.step (Ex.move (.int .i64 (if 64 < (t - (i * 64)) then 64 else (t - (i * 64)))) rfl) rfl rfl rfl ?_
  refine RW.step (Ex.geq rfl rfl) rfl rfl rfl ?_
  refine RW.nil ?_
  refine CW.cond_dec rfl (fun hc1 => ?_) (fun hc1 => ?_)
  · -- yes: (if 64 < (t - (i * 64)) then 64 else (t - (i * 64))) ≤ (if (f - (i * 64)) < 0 then 0 else (f - (i * 64)))
    refine CW.seq ?_
    refine CW.region ?_
    refine RW.step (Ex.assign (.int .u64 (0)) rfl) rfl rfl rfl ?_
    refine RW.nil ?_
    refine CW.ret ?_
    refine thenQ_ret ?_
    refine end_tmp (.inl rfl) rfl (.int .u64 (0)) rfl ?_
    refine ⟨_, _, hM, ?_⟩
    unfold maskW; simp only []; rw [if_pos hc1]; rfl
  · -- no: (if 64 < (t - (i * 64)) then 64 else (t - (i * 64))) ≤ (if (f - (i * 64)) < 0 then 0 else (f - (i * 64)))
    refine CW.skip ?_
    refine CW.seq ?_
    refine CW.region ?_
    refine RW.step (Ex.move (.int .i64 (if 64 < (t - (i * 64)) then 64 else (t - (i * 64)))) rfl) rfl rfl rfl ?_
    refine RW.step (Ex.move (.int .i64 (if (f - (i * 64)) < 0 then 0 else (f - (i * 64)))) rfl) rfl rfl rfl ?_
    refine RW.step (Ex.sub rfl rfl (by omega) (by omega)) rfl rfl rfl ?_
    refine RW.step (Ex.sub rfl rfl (by omega) (by omega)) rfl rfl rfl ?_
    refine RW.step (Ex.shr64 (a := 18446744073709551615#64) (n := 64 - ((if 64 < (t - (i * 64)) then 64 else (t - (i * 64))) - (if (f - (i * 64)) < 0 then 0 else (f - (i * 64))))) rfl rfl (by omega)) rfl rfl rfl ?_
    refine RW.step (Ex.move (.int .i64 (if (f - (i * 64)) < 0 then 0 else (f - (i * 64)))) rfl) rfl rfl rfl ?_
    refine RW.step (Ex.shl64 (a := (18446744073709551615#64) >>> (64 - ((if 64 < (t - (i * 64)) then 64 else (t - (i * 64))) - (if (f - (i * 64)) < 0 then 0 else (f - (i * 64)))) : Int).toNat) (n := if (f - (i * 64)) < 0 then 0 else (f - (i * 64))) rfl rfl (by omega)) rfl rfl rfl ?_
    refine RW.step (Ex.assign (u64 (((18446744073709551615#64) >>> (64 - ((if 64 < (t - (i * 64)) then 64 else (t - (i * 64))) - (if (f - (i * 64)) < 0 then 0 else (f - (i * 64)))) : Int).toNat) <<< (if (f - (i * 64)) < 0 then 0 else (f - (i * 64)) : Int).toNat)) rfl) rfl rfl rfl ?_
    refine RW.nil ?_
    refine CW.ret ?_
    refine end_tmp (.inl rfl) rfl (u64 (((18446744073709551615#64) >>> (64 - ((if 64 < (t - (i * 64)) then 64 else (t - (i * 64))) - (if (f - (i * 64)) < 0 then 0 else (f - (i * 64)))) : Int).toNat) <<< (if (f - (i * 64)) < 0 then 0 else (f - (i * 64)) : Int).toNat)) rfl ?_
    refine ⟨_, _, hM, ?_⟩
    unfold maskW; simp only []; rw [if_neg hc1]

theorem set1_ret (H : Hp) (x m : BitVec 64) : RetV Tryd.prog 39 #[u64 x, u64 m] H (u64 (x ||| m)) := by
  refine Ret.of_code Tryd.func39 rfl (Nat.le_of_ble_eq_true rfl) fun w0 hM => ?_
  refine CW.seq ?_
  refine CW.region ?_
  refine RW.step (Ex.assign (.int .u64 (0)) rfl) rfl rfl rfl ?_
  refine RW.nil ?_
  refine CW.seq ?_
  refine CW.region ?_
  refine RW.step (Ex.move (u64 (x)) rfl) rfl rfl rfl ?_
  refine RW.step (Ex.move (u64 (m)) rfl) rfl rfl rfl ?_
  refine RW.step (Ex.or64 (a := x) (b := m) rfl rfl) rfl rfl rfl ?_
  refine RW.step (Ex.assign (u64 (x ||| m)) rfl) rfl rfl rfl ?_
  refine RW.nil ?_
  refine CW.ret ?_
  refine end_tmp (.inl rfl) rfl (u64 (x ||| m)) rfl ?_
  exact ⟨_, _, hM, rfl⟩

theorem clear1_ret (H : Hp) (x m : BitVec 64) : RetV Tryd.prog 42 #[u64 x, u64 m] H (u64 (x &&& ~~~m)) := by
  refine Ret.of_code Tryd.func42 rfl (Nat.le_of_ble_eq_true rfl) fun w0 hM => ?_
  refine CW.seq ?_
  refine CW.region ?_
  refine RW.step (Ex.assign (.int .u64 (0)) rfl) rfl rfl rfl ?_
  refine RW.nil ?_
  refine CW.seq ?_
  refine CW.region ?_
  refine RW.step (Ex.move (u64 (x)) rfl) rfl rfl rfl ?_
  refine RW.step (Ex.move (u64 (m)) rfl) rfl rfl rfl ?_
  refine RW.step (Ex.andNot64 (a := x) (b := m) rfl rfl) rfl rfl rfl ?_
  refine RW.step (Ex.assign (u64 (x &&& ~~~m)) rfl) rfl rfl rfl ?_
  refine RW.nil ?_
  refine CW.ret ?_
  refine end_tmp (.inl rfl) rfl (u64 (x &&& ~~~m)) rfl ?_
  exact ⟨_, _, hM, rfl⟩

theorem or1_ret (H : Hp) (x m : BitVec 64) : RetV Tryd.prog 48 #[u64 x, u64 m] H (u64 (x ||| m)) := by
  refine Ret.of_code Tryd.func48 rfl (Nat.le_of_ble_eq_true rfl) fun w0 hM => ?_
  refine CW.seq ?_
  refine CW.region ?_
  refine RW.step (Ex.assign (.int .u64 (0)) rfl) rfl rfl rfl ?_
  refine RW.nil ?_
  refine CW.seq ?_
  refine CW.region ?_
  refine RW.step (Ex.move (u64 (x)) rfl) rfl rfl rfl ?_
  refine RW.step (Ex.move (u64 (m)) rfl) rfl rfl rfl ?_
  refine RW.step (Ex.or64 (a := x) (b := m) rfl rfl) rfl rfl rfl ?_
  refine RW.step (Ex.assign (u64 (x ||| m)) rfl) rfl rfl rfl ?_
  refine RW.nil ?_
  refine CW.ret ?_
  refine end_tmp (.inl rfl) rfl (u64 (x ||| m)) rfl ?_
  exact ⟨_, _, hM, rfl⟩

theorem and1_ret (H : Hp) (x m : BitVec 64) : RetV Tryd.prog 51 #[u64 x, u64 m] H (u64 (x &&& m)) := by
  refine Ret.of_code Tryd.func51 rfl (Nat.le_of_ble_eq_true rfl) fun w0 hM => ?_
  refine CW.seq ?_
  refine CW.region ?_
  refine RW.step (Ex.assign (.int .u64 (0)) rfl) rfl rfl rfl ?_
  refine RW.nil ?_
  refine CW.seq ?_
  refine CW.region ?_
  refine RW.step (Ex.move (u64 (x)) rfl) rfl rfl rfl ?_
  refine RW.step (Ex.move (u64 (m)) rfl) rfl rfl rfl ?_
  refine RW.step (Ex.and64 (a := x) (b := m) rfl rfl) rfl rfl rfl ?_
  refine RW.step (Ex.assign (u64 (x &&& m)) rfl) rfl rfl rfl ?_
  refine RW.nil ?_
  refine CW.ret ?_
  refine end_tmp (.inl rfl) rfl (u64 (x &&& m)) rfl ?_
  exact ⟨_, _, hM, rfl⟩

theorem andNot1_ret (H : Hp) (x m : BitVec 64) : RetV Tryd.prog 52 #[u64 x, u64 m] H (u64 (x &&& ~~~m)) := by
  refine Ret.of_code Tryd.func52 rfl (Nat.le_of_ble_eq_true rfl) fun w0 hM => ?_
  refine CW.seq ?_
  refine CW.region ?_
  refine RW.step (Ex.assign (.int .u64 (0)) rfl) rfl rfl rfl ?_
  refine RW.nil ?_
  refine CW.seq ?_
  refine CW.region ?_
  refine RW.step (Ex.move (u64 (x)) rfl) rfl rfl rfl ?_
  refine RW.step (Ex.move (u64 (m)) rfl) rfl rfl rfl ?_
  refine RW.step (Ex.andNot64 (a := x) (b := m) rfl rfl) rfl rfl rfl ?_
  refine RW.step (Ex.assign (u64 (x &&& ~~~m)) rfl) rfl rfl rfl ?_
  refine RW.nil ?_
  refine CW.ret ?_
  refine end_tmp (.inl rfl) rfl (u64 (x &&& ~~~m)) rfl ?_
  exact ⟨_, _, hM, rfl⟩

theorem get_ret (H : Hp) (A1 : Option Addr) (n : Int) (c1 : Nat) (ws : List (BitVec 64)) (hr1 : RdC H A1 ws.length c1 1 (ws.map u64)) (a : Int) : RetV Tryd.prog 22 #[.agg #[.int .i64 n, .slice A1 ws.length c1], .int .i64 a] H (.bool (decide (getB n ws a = true))) := by
  have hL := hr1.2.2.1
  have hL1 := hr1.2.1
  unfold maxLen at hL
  refine Ret.of_code Tryd.func22 rfl (Nat.le_of_ble_eq_true rfl) fun w0 hM => ?_
  refine CW.seq ?_
  refine CW.region ?_
  refine RW.box hM (.agg #[.int .i64 (n), .slice A1 ws.length c1]) [.int .i64 (n), .slice A1 ws.length c1] rfl rfl rfl rfl ?_; intro b1 w hM
  refine RW.step (Ex.assign (.bool false) rfl) rfl rfl rfl ?_
  refine RW.nil ?_
  refine CW.seq ?_
  refine CW.region ?_
  refine RW.step (Ex.loadA hM 0 [.int .i64 (n), .slice A1 ws.length c1] ta24 rfl rfl rfl rfl) rfl rfl rfl ?_
  refine RW.callV hM (check_ret _ _ n _ ws hr1) en20 rfl rfl rfl rfl ?_; intro w hM
  refine RW.step (Ex.eql rfl rfl) rfl rfl rfl ?_
  refine RW.step (Ex.move (.bool (decide ((chk n ws) = 0))) rfl) rfl rfl rfl ?_
  refine RW.split 8 rfl (fun hc2 => ?_) (fun hc2 => ?_)
  · -- yes
    have hwl := wf_len hc2
    refine RW.step (Ex.move (.int .i64 (a)) rfl) rfl rfl rfl ?_
    refine RW.step (Ex.geq rfl rfl) rfl rfl rfl ?_
    refine RW.step (Ex.pickT (.bool (decide (0 ≤ a))) rfl rfl) rfl rfl rfl ?_
    refine RW.step (Ex.move (.bool (decide (0 ≤ a))) rfl) rfl rfl rfl ?_
    refine RW.split 12 rfl (fun hc3 => ?_) (fun hc3 => ?_)
    · -- yes
      refine RW.step (Ex.move (.int .i64 (a)) rfl) rfl rfl rfl ?_
      refine RW.step (Ex.fieldAddr fa24_0 rfl) rfl rfl rfl ?_
      refine RW.step (Ex.load1 hM 0 to3 rfl rfl rfl) rfl rfl rfl ?_
      refine RW.step (Ex.lss rfl rfl) rfl rfl rfl ?_
      refine RW.step (Ex.pickT (.bool (decide (a < n))) rfl rfl) rfl rfl rfl ?_
      refine RW.step (Ex.move (.bool (decide (a < n))) rfl) rfl rfl rfl ?_
      refine RW.split 18 rfl (fun hc4 => ?_) (fun hc4 => ?_)
      · -- yes
        refine RW.step (Ex.fieldAddr fa24_1 rfl) rfl rfl rfl ?_
        refine RW.step (Ex.load1 hM 0 to22 rfl rfl rfl) rfl rfl rfl ?_
        refine RW.step (Ex.move (.int .i64 (a)) rfl) rfl rfl rfl ?_
        refine RW.step (Ex.quo rfl rfl (by omega) (by omega) (by omega)) rfl rfl rfl ?_
        refine RW.step (Ex.index st22 rfl rfl ((a / 64).toNat) (hr1.ne (by omega)) (by omega) (by omega)) rfl rfl rfl ?_
        refine RW.step (Ex.loadE hM (Hp.le.refl _) hr1 to55 rfl (getW (by omega))) rfl rfl rfl ?_
        refine RW.step (Ex.move (.int .i64 (a)) rfl) rfl rfl rfl ?_
        refine RW.step (Ex.rem rfl rfl (by omega) (by omega)) rfl rfl rfl ?_
        refine RW.step (Ex.shr64 (a := ws.getD ((a / 64).toNat) 0#64) (n := a % 64) rfl rfl (by omega)) rfl rfl rfl ?_
        refine RW.step (Ex.and64 (a := (ws.getD ((a / 64).toNat) 0#64) >>> (a % 64 : Int).toNat) (b := 1#64) rfl rfl) rfl rfl rfl ?_
        refine RW.step (Ex.eql64 (a := ((ws.getD ((a / 64).toNat) 0#64) >>> (a % 64 : Int).toNat) &&& (1#64)) (b := 1#64) rfl rfl) rfl rfl rfl ?_
        refine RW.step (Ex.pickT (.bool (decide ((((ws.getD ((a / 64).toNat) 0#64) >>> (a % 64 : Int).toNat) &&& (1#64)) = (1#64)))) rfl rfl) rfl rfl rfl ?_
        refine RW.step (Ex.assign (.bool (decide ((((ws.getD ((a / 64).toNat) 0#64) >>> (a % 64 : Int).toNat) &&& (1#64)) = (1#64)))) rfl) rfl rfl rfl ?_
        refine RW.nil ?_
        refine CW.ret ?_
        refine end_tmp (.inl rfl) rfl (.bool (decide ((((ws.getD ((a / 64).toNat) 0#64) >>> (a % 64 : Int).toNat) &&& (1#64)) = (1#64)))) rfl ?_
        refine ⟨_, _, hM, congrArg Value.bool (decide_eq_decide.2 ?_)⟩
        obtain ⟨k, rfl⟩ := Int.eq_ofNat_of_zero_le (show 0 ≤ a by omega)
        rw [bit_prop]; exact ⟨fun h => getB_iff.2 ⟨hc2, by omega, by omega, h⟩, fun h => (getB_iff.1 h).2.2.2⟩
      · -- no
        refine RW.pass rfl rfl ?_
        refine RW.pass rfl rfl ?_
        refine RW.pass rfl rfl ?_
        refine RW.pass rfl rfl ?_
        refine RW.pass rfl rfl ?_
        refine RW.pass rfl rfl ?_
        refine RW.pass rfl rfl ?_
        refine RW.pass rfl rfl ?_
        refine RW.pass rfl rfl ?_
        refine RW.pass rfl rfl ?_
        refine RW.pass rfl rfl ?_
        refine RW.step (Ex.pickF (.bool false) rfl rfl) rfl rfl rfl ?_
        refine RW.step (Ex.assign (.bool false) rfl) rfl rfl rfl ?_
        refine RW.nil ?_
        refine CW.ret ?_
        refine end_tmp (.inl rfl) rfl (.bool false) rfl ?_
        exact ⟨_, _, hM, congrArg Value.bool (decide_eq_false (fun h => by obtain ⟨h1, h2, h3, h4⟩ := getB_iff.1 h; first | omega | contradiction)).symm⟩
    · -- no
      refine RW.pass rfl rfl ?_
      refine RW.pass rfl rfl ?_
      refine RW.pass rfl rfl ?_
      refine RW.pass rfl rfl ?_
      refine RW.step (Ex.pickF (.bool false) rfl rfl) rfl rfl rfl ?_
      refine RW.step (Ex.move (.bool false) rfl) rfl rfl rfl ?_
      refine RW.pass rfl rfl ?_
      refine RW.pass rfl rfl ?_
      refine RW.pass rfl rfl ?_
      refine RW.pass rfl rfl ?_
      refine RW.pass rfl rfl ?_
      refine RW.pass rfl rfl ?_
      refine RW.pass rfl rfl ?_
      refine RW.pass rfl rfl ?_
      refine RW.pass rfl rfl ?_
      refine RW.pass rfl rfl ?_
      refine RW.pass rfl rfl ?_
      refine RW.step (Ex.pickF (.bool false) rfl rfl) rfl rfl rfl ?_
      refine RW.step (Ex.assign (.bool false) rfl) rfl rfl rfl ?_
      refine RW.nil ?_
      refine CW.ret ?_
      refine end_tmp (.inl rfl) rfl (.bool false) rfl ?_
      exact ⟨_, _, hM, congrArg Value.bool (decide_eq_false (fun h => by obtain ⟨h1, h2, h3, h4⟩ := getB_iff.1 h; first | omega | contradiction)).symm⟩
  · -- no
    refine RW.pass rfl rfl ?_
    refine RW.pass rfl rfl ?_
    refine RW.step (Ex.pickF (.bool false) rfl rfl) rfl rfl rfl ?_
    refine RW.step (Ex.move (.bool false) rfl) rfl rfl rfl ?_
    refine RW.pass rfl rfl ?_
    refine RW.pass rfl rfl ?_
    refine RW.pass rfl rfl ?_
    refine RW.pass rfl rfl ?_
    refine RW.step (Ex.pickF (.bool false) rfl rfl) rfl rfl rfl ?_
    refine RW.step (Ex.move (.bool false) rfl) rfl rfl rfl ?_
    refine RW.pass rfl rfl ?_
    refine RW.pass rfl rfl ?_
    refine RW.pass rfl rfl ?_
    refine RW.pass rfl rfl ?_
    refine RW.pass rfl rfl ?_
    refine RW.pass rfl rfl ?_
    refine RW.pass rfl rfl ?_
    refine RW.pass rfl rfl ?_
    refine RW.pass rfl rfl ?_
    refine RW.pass rfl rfl ?_
    refine RW.pass rfl rfl ?_
    refine RW.step (Ex.pickF (.bool false) rfl rfl) rfl rfl rfl ?_
    refine RW.step (Ex.assign (.bool false) rfl) rfl rfl rfl ?_
    refine RW.nil ?_
    refine CW.ret ?_
    refine end_tmp (.inl rfl) rfl (.bool false) rfl ?_
    exact ⟨_, _, hM, congrArg Value.bool (decide_eq_false (fun h => by obtain ⟨h1, h2, h3, h4⟩ := getB_iff.1 h; first | omega | contradiction)).symm⟩

theorem rget_ret (H : Hp) (A1 : Option Addr) (n : Int) (c1 : Nat) (ws : List (BitVec 64)) (hr1 : RdC H A1 ws.length c1 1 (ws.map u64)) (a : Int) : RetV Tryd.prog 23 #[.agg #[.int .i64 n, .slice A1 ws.length c1], .int .i64 a] H (.bool (decide (getB n ws a = true))) := by
  have hL := hr1.2.2.1
  have hL1 := hr1.2.1
  unfold maxLen at hL
  refine Ret.of_code Tryd.func23 rfl (Nat.le_of_ble_eq_true rfl) fun w0 hM => ?_
  refine CW.seq ?_
  refine CW.region ?_
  refine RW.box hM (.agg #[.int .i64 (n), .slice A1 ws.length c1]) [.int .i64 (n), .slice A1 ws.length c1] rfl rfl rfl rfl ?_; intro b1 w hM
  refine RW.step (Ex.assign (.bool false) rfl) rfl rfl rfl ?_
  refine RW.nil ?_
  refine CW.seq ?_
  refine CW.region ?_
  refine RW.step (Ex.loadA hM 0 [.int .i64 (n), .slice A1 ws.length c1] ta24 rfl rfl rfl rfl) rfl rfl rfl ?_
  refine RW.callV hM (rcheck_ret _ _ n _ ws hr1) en21 rfl rfl rfl rfl ?_; intro w hM
  refine RW.step (Ex.eql rfl rfl) rfl rfl rfl ?_
  refine RW.step (Ex.move (.bool (decide ((chk n ws) = 0))) rfl) rfl rfl rfl ?_
  refine RW.split 8 rfl (fun hc2 => ?_) (fun hc2 => ?_)
  · -- yes
    have hwl := wf_len hc2
    refine RW.step (Ex.move (.int .i64 (a)) rfl) rfl rfl rfl ?_
    refine RW.step (Ex.geq rfl rfl) rfl rfl rfl ?_
    refine RW.step (Ex.pickT (.bool (decide (0 ≤ a))) rfl rfl) rfl rfl rfl ?_
    refine RW.step (Ex.move (.bool (decide (0 ≤ a))) rfl) rfl rfl rfl ?_
    refine RW.split 12 rfl (fun hc3 => ?_) (fun hc3 => ?_)
    · -- yes
      refine RW.step (Ex.move (.int .i64 (a)) rfl) rfl rfl rfl ?_
      refine RW.step (Ex.fieldAddr fa24_0 rfl) rfl rfl rfl ?_
      refine RW.step (Ex.load1 hM 0 to3 rfl rfl rfl) rfl rfl rfl ?_
      refine RW.step (Ex.lss rfl rfl) rfl rfl rfl ?_
      refine RW.step (Ex.pickT (.bool (decide (a < n))) rfl rfl) rfl rfl rfl ?_
      refine RW.step (Ex.move (.bool (decide (a < n))) rfl) rfl rfl rfl ?_
      refine RW.split 18 rfl (fun hc4 => ?_) (fun hc4 => ?_)
      · -- yes
        refine RW.step (Ex.loadA hM 0 [.int .i64 (n), .slice A1 ws.length c1] ta24 rfl rfl rfl rfl) rfl rfl rfl ?_
        refine RW.step (Ex.move (.int .i64 (a)) rfl) rfl rfl rfl ?_
        refine RW.callV hM (bit_ret _ _ n _ ws hr1 a ((a).toNat) (by omega) (by omega) (by omega)) en44 rfl rfl rfl rfl ?_; intro w hM
        refine RW.step (Ex.pickT (.bool (decide (bitN ws ((a).toNat) = true))) rfl rfl) rfl rfl rfl ?_
        refine RW.step (Ex.assign (.bool (decide (bitN ws ((a).toNat) = true))) rfl) rfl rfl rfl ?_
        refine RW.nil ?_
        refine CW.ret ?_
        refine end_tmp (.inl rfl) rfl (.bool (decide (bitN ws ((a).toNat) = true))) rfl ?_
        exact ⟨_, _, hM, congrArg Value.bool (decide_eq_decide.2 ⟨fun h => getB_iff.2 ⟨hc2, by omega, by omega, h⟩, fun h => (getB_iff.1 h).2.2.2⟩)⟩
      · -- no
        refine RW.pass rfl rfl ?_
        refine RW.pass rfl rfl ?_
        refine RW.pass rfl rfl ?_
        refine RW.step (Ex.pickF (.bool false) rfl rfl) rfl rfl rfl ?_
        refine RW.step (Ex.assign (.bool false) rfl) rfl rfl rfl ?_
        refine RW.nil ?_
        refine CW.ret ?_
        refine end_tmp (.inl rfl) rfl (.bool false) rfl ?_
        exact ⟨_, _, hM, congrArg Value.bool (decide_eq_false (fun h => by obtain ⟨h1, h2, h3, h4⟩ := getB_iff.1 h; first | omega | contradiction)).symm⟩
    · -- no
      refine RW.pass rfl rfl ?_
      refine RW.pass rfl rfl ?_
      refine RW.pass rfl rfl ?_
      refine RW.pass rfl rfl ?_
      refine RW.step (Ex.pickF (.bool false) rfl rfl) rfl rfl rfl ?_
      refine RW.step (Ex.move (.bool false) rfl) rfl rfl rfl ?_
      refine RW.pass rfl rfl ?_
      refine RW.pass rfl rfl ?_
      refine RW.pass rfl rfl ?_
      refine RW.step (Ex.pickF (.bool false) rfl rfl) rfl rfl rfl ?_
      refine RW.step (Ex.assign (.bool false) rfl) rfl rfl rfl ?_
      refine RW.nil ?_
      refine CW.ret ?_
      refine end_tmp (.inl rfl) rfl (.bool false) rfl ?_
      exact ⟨_, _, hM, congrArg Value.bool (decide_eq_false (fun h => by obtain ⟨h1, h2, h3, h4⟩ := getB_iff.1 h; first | omega | contradiction)).symm⟩
  · -- no
    refine RW.pass rfl rfl ?_
    refine RW.pass rfl rfl ?_
    refine RW.step (Ex.pickF (.bool false) rfl rfl) rfl rfl rfl ?_
    refine RW.step (Ex.move (.bool false) rfl) rfl rfl rfl ?_
    refine RW.pass rfl rfl ?_
    refine RW.pass rfl rfl ?_
    refine RW.pass rfl rfl ?_
    refine RW.pass rfl rfl ?_
    refine RW.step (Ex.pickF (.bool false) rfl rfl) rfl rfl rfl ?_
    refine RW.step (Ex.move (.bool false) rfl) rfl rfl rfl ?_
    refine RW.pass rfl rfl ?_
    refine RW.pass rfl rfl ?_
    refine RW.pass rfl rfl ?_
    refine RW.step (Ex.pickF (.bool false) rfl rfl) rfl rfl rfl ?_
    refine RW.step (Ex.assign (.bool false) rfl) rfl rfl rfl ?_
    refine RW.nil ?_
    refine CW.ret ?_
    refine end_tmp (.inl rfl) rfl (.bool false) rfl ?_
    exact ⟨_, _, hM, congrArg Value.bool (decide_eq_false (fun h => by obtain ⟨h1, h2, h3, h4⟩ := getB_iff.1 h; first | omega | contradiction)).symm⟩

end Go.Proofs.YtackllehpecfgaaDoor
