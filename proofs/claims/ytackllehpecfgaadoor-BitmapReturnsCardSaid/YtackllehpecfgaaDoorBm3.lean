/- package bitmap and its reference: New, Set, Clear -/
import Derived.Test.YtackllehpecfgaaDoorBm2
namespace Go.Proofs.YtackllehpecfgaaDoor
open Go.RowKit

theorem new_ret (H : Hp) (n : Int) : Ret Tryd.prog 18 #[.int .i64 n] H (BRv (newR n)) := by
  refine Ret.of_code Tryd.func18 rfl (Nat.le_of_ble_eq_true rfl) fun w0 hM => ?_
  refine CW.seq ?_
  refine CW.region ?_
  refine RW.alloc hM tz24 [.int .i64 (0), .slice none 0 0] rfl rfl rfl ?_; intro b1 w hM
  refine RW.step (Ex.assign (.int .i64 (0)) rfl) rfl rfl rfl ?_
  refine RW.nil ?_
  refine CW.seq ?_
  refine CW.seq ?_
  refine CW.region ?_
  refine RW.step (Ex.move (.int .i64 (n)) rfl) rfl rfl rfl ?_
  refine RW.step (Ex.lss rfl rfl) rfl rfl rfl ?_
  refine RW.step (Ex.move (.bool (decide (n < 0))) rfl) rfl rfl rfl ?_
  refine RW.split 6 rfl (fun hc2 => ?_) (fun hc2 => ?_)
  · -- yes
    refine RW.pass rfl rfl ?_
    refine RW.pass rfl rfl ?_
    refine RW.step (Ex.pickT (.bool true) rfl rfl) rfl rfl rfl ?_
    refine RW.nil ?_
    refine CW.cond_true rfl ?_
    refine CW.seq ?_
    refine CW.region ?_
    refine RW.step (Ex.build bs24 [] [.int .i64 (0), .slice none 0 0] rfl rfl) rfl rfl rfl ?_
    refine RW.store hM 0 (.agg #[.int .i64 (0), .slice none 0 0]) [.int .i64 (0), .slice none 0 0] [.int .i64 (0), .slice none 0 0] sz24 rfl rfl rfl (oneAll ⟨rfl, rfl, trivial⟩) rfl (Nat.le_of_ble_eq_true rfl) rfl [.box b1 24 [.int .i64 (0), .slice none 0 0]] rfl rfl rfl ?_; intro w hM
    refine RW.step (Ex.assign (.int .i64 (2)) rfl) rfl rfl rfl ?_
    refine RW.nil ?_
    refine CW.ret ?_
    refine thenQ_ret ?_
    refine end_cell_tmp (k := 0) (.inl rfl) rfl hM rfl (.int .i64 (2)) rfl ta24 [.int .i64 (0), .slice none 0 0] rfl rfl ?_
    exact ⟨_, _, hM, BRv.bad (newR_bad (by omega)) rfl⟩
  · -- no
    refine RW.step (Ex.move (.int .i64 (n)) rfl) rfl rfl rfl ?_
    refine RW.step (Ex.gtr rfl rfl) rfl rfl rfl ?_
    refine RW.step (Ex.pickF (.bool (decide (4096 < n))) rfl rfl) rfl rfl rfl ?_
    refine RW.nil ?_
    refine CW.cond_dec rfl (fun hc3 => ?_) (fun hc3 => ?_)
    · -- yes: 4096 < n
      refine CW.seq ?_
      refine CW.region ?_
      refine RW.step (Ex.build bs24 [] [.int .i64 (0), .slice none 0 0] rfl rfl) rfl rfl rfl ?_
      refine RW.store hM 0 (.agg #[.int .i64 (0), .slice none 0 0]) [.int .i64 (0), .slice none 0 0] [.int .i64 (0), .slice none 0 0] sz24 rfl rfl rfl (oneAll ⟨rfl, rfl, trivial⟩) rfl (Nat.le_of_ble_eq_true rfl) rfl [.box b1 24 [.int .i64 (0), .slice none 0 0]] rfl rfl rfl ?_; intro w hM
      refine RW.step (Ex.assign (.int .i64 (2)) rfl) rfl rfl rfl ?_
      refine RW.nil ?_
      refine CW.ret ?_
      refine thenQ_ret ?_
      refine end_cell_tmp (k := 0) (.inl rfl) rfl hM rfl (.int .i64 (2)) rfl ta24 [.int .i64 (0), .slice none 0 0] rfl rfl ?_
      exact ⟨_, _, hM, BRv.bad (newR_bad (by omega)) rfl⟩
    · -- no: 4096 < n
      refine CW.skip ?_
      refine CW.seq ?_
      refine CW.region ?_
      refine RW.step (Ex.move (.int .i64 (n)) rfl) rfl rfl rfl ?_
      refine RW.step (Ex.move (.int .i64 (n)) rfl) rfl rfl rfl ?_
      refine RW.callV hM (words_ret _ n (by omega) (by omega)) en43 rfl rfl rfl rfl ?_; intro w hM
      refine RW.make hM st22 tz55 (((n + 63) / 64).toNat) rfl rfl (by omega) (by omega) (by unfold maxLen; omega) rfl rfl ?_; intro b4 w hM
      rw [madeW] at hM
      refine RW.step (Ex.build bs24 [(0, .int .i64 (n)), (1, .slice (some ⟨b4, 0, none⟩) (((n + 63) / 64).toNat) (((n + 63) / 64).toNat))] [.int .i64 (n), .slice (some ⟨b4, 0, none⟩) (((n + 63) / 64).toNat) (((n + 63) / 64).toNat)] rfl rfl) rfl rfl rfl ?_
      refine RW.store hM 1 (.agg #[.int .i64 (n), .slice (some ⟨b4, 0, none⟩) (((n + 63) / 64).toNat) (((n + 63) / 64).toNat)]) [.int .i64 (n), .slice (some ⟨b4, 0, none⟩) (((n + 63) / 64).toNat) (((n + 63) / 64).toNat)] [.int .i64 (n), .slice (some ⟨b4, 0, none⟩) (((n + 63) / 64).toNat) (((n + 63) / 64).toNat)] sz24 rfl rfl rfl (oneAll ⟨rfl, rfl, trivial⟩) rfl (Nat.le_of_ble_eq_true rfl) rfl [.row (.slice (some ⟨b4, 0, none⟩) (((n + 63) / 64).toNat) (((n + 63) / 64).toNat)) 55 1 (((n + 63) / 64).toNat) ((List.replicate (((n + 63) / 64).toNat) 0#64).map u64), .box b1 24 [.int .i64 (n), .slice (some ⟨b4, 0, none⟩) (((n + 63) / 64).toNat) (((n + 63) / 64).toNat)]] rfl rfl rfl ?_; intro w hM
      refine RW.step (Ex.assign (.int .i64 (0)) rfl) rfl rfl rfl ?_
      refine RW.nil ?_
      refine CW.ret ?_
      refine end_cell_tmp (k := 1) (.inl rfl) rfl hM rfl (.int .i64 (0)) rfl ta24 [.int .i64 (n), .slice (some ⟨b4, 0, none⟩) (((n + 63) / 64).toNat) (((n + 63) / 64).toNat)] rfl rfl ?_
      obtain ⟨H9, hM9, hle9, hr9⟩ := hM.giveRow (k := 0) rfl
      exact ⟨_, _, hM9, BRv.ok (newR_ok (by omega) (by omega)) (by simp only [List.length_replicate]) hr9⟩

theorem rnew_ret (H : Hp) (n : Int) : Ret Tryd.prog 19 #[.int .i64 n] H (BRv (newR n)) := by
  refine Ret.of_code Tryd.func19 rfl (Nat.le_of_ble_eq_true rfl) fun w0 hM => ?_
  refine CW.seq ?_
  refine CW.region ?_
  refine RW.alloc hM tz24 [.int .i64 (0), .slice none 0 0] rfl rfl rfl ?_; intro b1 w hM
  refine RW.step (Ex.assign (.int .i64 (0)) rfl) rfl rfl rfl ?_
  refine RW.nil ?_
  refine CW.seq ?_
  refine CW.seq ?_
  refine CW.region ?_
  refine RW.step (Ex.move (.int .i64 (n)) rfl) rfl rfl rfl ?_
  refine RW.step (Ex.lss rfl rfl) rfl rfl rfl ?_
  refine RW.step (Ex.move (.bool (decide (n < 0))) rfl) rfl rfl rfl ?_
  refine RW.split 6 rfl (fun hc2 => ?_) (fun hc2 => ?_)
  · -- yes
    refine RW.pass rfl rfl ?_
    refine RW.pass rfl rfl ?_
    refine RW.step (Ex.pickT (.bool true) rfl rfl) rfl rfl rfl ?_
    refine RW.nil ?_
    refine CW.cond_true rfl ?_
    refine CW.seq ?_
    refine CW.region ?_
    refine RW.step (Ex.build bs24 [] [.int .i64 (0), .slice none 0 0] rfl rfl) rfl rfl rfl ?_
    refine RW.store hM 0 (.agg #[.int .i64 (0), .slice none 0 0]) [.int .i64 (0), .slice none 0 0] [.int .i64 (0), .slice none 0 0] sz24 rfl rfl rfl (oneAll ⟨rfl, rfl, trivial⟩) rfl (Nat.le_of_ble_eq_true rfl) rfl [.box b1 24 [.int .i64 (0), .slice none 0 0]] rfl rfl rfl ?_; intro w hM
    refine RW.step (Ex.assign (.int .i64 (2)) rfl) rfl rfl rfl ?_
    refine RW.nil ?_
    refine CW.ret ?_
    refine thenQ_ret ?_
    refine end_cell_tmp (k := 0) (.inl rfl) rfl hM rfl (.int .i64 (2)) rfl ta24 [.int .i64 (0), .slice none 0 0] rfl rfl ?_
    exact ⟨_, _, hM, BRv.bad (newR_bad (by omega)) rfl⟩
  · -- no
    refine RW.step (Ex.move (.int .i64 (n)) rfl) rfl rfl rfl ?_
    refine RW.step (Ex.gtr rfl rfl) rfl rfl rfl ?_
    refine RW.step (Ex.pickF (.bool (decide (4096 < n))) rfl rfl) rfl rfl rfl ?_
    refine RW.nil ?_
    refine CW.cond_dec rfl (fun hc3 => ?_) (fun hc3 => ?_)
    · -- yes: 4096 < n
      refine CW.seq ?_
      refine CW.region ?_
      refine RW.step (Ex.build bs24 [] [.int .i64 (0), .slice none 0 0] rfl rfl) rfl rfl rfl ?_
      refine RW.store hM 0 (.agg #[.int .i64 (0), .slice none 0 0]) [.int .i64 (0), .slice none 0 0] [.int .i64 (0), .slice none 0 0] sz24 rfl rfl rfl (oneAll ⟨rfl, rfl, trivial⟩) rfl (Nat.le_of_ble_eq_true rfl) rfl [.box b1 24 [.int .i64 (0), .slice none 0 0]] rfl rfl rfl ?_; intro w hM
      refine RW.step (Ex.assign (.int .i64 (2)) rfl) rfl rfl rfl ?_
      refine RW.nil ?_
      refine CW.ret ?_
      refine thenQ_ret ?_
      refine end_cell_tmp (k := 0) (.inl rfl) rfl hM rfl (.int .i64 (2)) rfl ta24 [.int .i64 (0), .slice none 0 0] rfl rfl ?_
      exact ⟨_, _, hM, BRv.bad (newR_bad (by omega)) rfl⟩
    · -- no: 4096 < n
      refine CW.skip ?_
      refine CW.seq ?_
      refine CW.region ?_
      refine RW.step (Ex.move (.int .i64 (n)) rfl) rfl rfl rfl ?_
      refine RW.step (Ex.move (.int .i64 (n)) rfl) rfl rfl rfl ?_
      refine RW.step (Ex.add rfl rfl (by omega) (by omega)) rfl rfl rfl ?_
      refine RW.step (Ex.quo rfl rfl (by omega) (by omega) (by omega)) rfl rfl rfl ?_
      refine RW.make hM st22 tz55 (((n + 63) / 64).toNat) rfl rfl (by omega) (by omega) (by unfold maxLen; omega) rfl rfl ?_; intro b4 w hM
      rw [madeW] at hM
      refine RW.step (Ex.build bs24 [(0, .int .i64 (n)), (1, .slice (some ⟨b4, 0, none⟩) (((n + 63) / 64).toNat) (((n + 63) / 64).toNat))] [.int .i64 (n), .slice (some ⟨b4, 0, none⟩) (((n + 63) / 64).toNat) (((n + 63) / 64).toNat)] rfl rfl) rfl rfl rfl ?_
      refine RW.store hM 1 (.agg #[.int .i64 (n), .slice (some ⟨b4, 0, none⟩) (((n + 63) / 64).toNat) (((n + 63) / 64).toNat)]) [.int .i64 (n), .slice (some ⟨b4, 0, none⟩) (((n + 63) / 64).toNat) (((n + 63) / 64).toNat)] [.int .i64 (n), .slice (some ⟨b4, 0, none⟩) (((n + 63) / 64).toNat) (((n + 63) / 64).toNat)] sz24 rfl rfl rfl (oneAll ⟨rfl, rfl, trivial⟩) rfl (Nat.le_of_ble_eq_true rfl) rfl [.row (.slice (some ⟨b4, 0, none⟩) (((n + 63) / 64).toNat) (((n + 63) / 64).toNat)) 55 1 (((n + 63) / 64).toNat) ((List.replicate (((n + 63) / 64).toNat) 0#64).map u64), .box b1 24 [.int .i64 (n), .slice (some ⟨b4, 0, none⟩) (((n + 63) / 64).toNat) (((n + 63) / 64).toNat)]] rfl rfl rfl ?_; intro w hM
      refine RW.step (Ex.assign (.int .i64 (0)) rfl) rfl rfl rfl ?_
      refine RW.nil ?_
      refine CW.ret ?_
      refine end_cell_tmp (k := 1) (.inl rfl) rfl hM rfl (.int .i64 (0)) rfl ta24 [.int .i64 (n), .slice (some ⟨b4, 0, none⟩) (((n + 63) / 64).toNat) (((n + 63) / 64).toNat)] rfl rfl ?_
      obtain ⟨H9, hM9, hle9, hr9⟩ := hM.giveRow (k := 0) rfl
      exact ⟨_, _, hM9, BRv.ok (newR_ok (by omega) (by omega)) (by simp only [List.length_replicate]) hr9⟩

theorem apply_set_ret (H : Hp) (A1 : Option Addr) (n : Int) (c1 : Nat) (ws : List (BitVec 64)) (hr1 : RdC H A1 ws.length c1 1 (ws.map u64)) (s c : Int) : Ret Tryd.prog 40 #[.agg #[.func (.func 39) #[] #[]], .agg #[.int .i64 n, .slice A1 ws.length c1], .agg #[.int .i64 s, .int .i64 c]] H (BRv (chR true n ws s c)) := by
  have hL := hr1.2.2.1
  have hL1 := hr1.2.1
  unfold maxLen at hL
  refine Ret.of_code Tryd.func40 rfl (Nat.le_of_ble_eq_true rfl) fun w0 hM => ?_
  refine CW.seq ?_
  refine CW.region ?_
  refine RW.box hM (.agg #[.func (.func 39) #[] #[]]) [.func (.func 39) #[] #[]] rfl rfl rfl rfl ?_; intro b1 w hM
  refine RW.box hM (.agg #[.int .i64 (n), .slice A1 ws.length c1]) [.int .i64 (n), .slice A1 ws.length c1] rfl rfl rfl rfl ?_; intro b2 w hM
  refine RW.box hM (.agg #[.int .i64 (s), .int .i64 (c)]) [.int .i64 (s), .int .i64 (c)] rfl rfl rfl rfl ?_; intro b3 w hM
  refine RW.alloc hM tz24 [.int .i64 (0), .slice none 0 0] rfl rfl rfl ?_; intro b4 w hM
  refine RW.step (Ex.assign (.int .i64 (0)) rfl) rfl rfl rfl ?_
  refine RW.nil ?_
  refine CW.seq ?_
  refine CW.seq ?_
  refine CW.region ?_
  refine RW.step (Ex.loadA hM 2 [.int .i64 (n), .slice A1 ws.length c1] ta24 rfl rfl rfl rfl) rfl rfl rfl ?_
  refine RW.callV hM (check_ret _ _ n _ ws hr1) en20 rfl rfl rfl rfl ?_; intro w hM
  refine RW.step (Ex.assign (.int .i64 (chk n ws)) rfl) rfl rfl rfl ?_
  refine RW.nil ?_
  refine CW.seq ?_
  refine CW.region ?_
  refine RW.step (Ex.move (.int .i64 (chk n ws)) rfl) rfl rfl rfl ?_
  refine RW.step (Ex.neq rfl rfl) rfl rfl rfl ?_
  refine RW.nil ?_
  refine CW.cond_dec rfl (fun hc5 => ?_) (fun hc5 => ?_)
  · -- yes: (chk n ws) ≠ 0
    refine CW.seq ?_
    refine CW.region ?_
    refine RW.step (Ex.build bs24 [] [.int .i64 (0), .slice none 0 0] rfl rfl) rfl rfl rfl ?_
    refine RW.step (Ex.move (.int .i64 (chk n ws)) rfl) rfl rfl rfl ?_
    refine RW.store hM 0 (.agg #[.int .i64 (0), .slice none 0 0]) [.int .i64 (0), .slice none 0 0] [.int .i64 (0), .slice none 0 0] sz24 rfl rfl rfl (oneAll ⟨rfl, rfl, trivial⟩) rfl (Nat.le_of_ble_eq_true rfl) rfl [.box b4 24 [.int .i64 (0), .slice none 0 0], .box b3 26 [.int .i64 (s), .int .i64 (c)], .box b2 24 [.int .i64 (n), .slice A1 ws.length c1], .box b1 58 [.func (.func 39) #[] #[]]] rfl rfl rfl ?_; intro w hM
    refine RW.step (Ex.assign (.int .i64 (chk n ws)) rfl) rfl rfl rfl ?_
    refine RW.nil ?_
    refine CW.ret ?_
    refine thenQ_ret ?_
    refine end_cell_tmp (k := 0) (.inl rfl) rfl hM rfl (.int .i64 (chk n ws)) rfl ta24 [.int .i64 (0), .slice none 0 0] rfl rfl ?_
    exact ⟨_, _, hM, BRv.bad (chR_form hc5) (chk_ne hc5)⟩
  · -- no: (chk n ws) ≠ 0
    have hwl := wf_len (Classical.not_not.1 hc5)
    refine CW.skip ?_
    refine CW.seq ?_
    refine CW.seq ?_
    refine CW.region ?_
    refine RW.step (Ex.loadA hM 1 [.int .i64 (s), .int .i64 (c)] ta26 rfl rfl rfl rfl) rfl rfl rfl ?_
    refine RW.step (Ex.fieldAddr fa24_0 rfl) rfl rfl rfl ?_
    refine RW.step (Ex.load1 hM 2 to3 rfl rfl rfl) rfl rfl rfl ?_
    refine RW.callV hM (fits_ret _ s c n (by omega) (by omega)) en53 rfl rfl rfl rfl ?_; intro w hM
    refine RW.step (Ex.not rfl) rfl rfl rfl ?_
    refine RW.nil ?_
    refine CW.cond_dec rfl (fun hc6 => ?_) (fun hc6 => ?_)
    · -- yes: ¬ (fitsB s c n = true)
      refine CW.seq ?_
      refine CW.region ?_
      refine RW.step (Ex.build bs24 [] [.int .i64 (0), .slice none 0 0] rfl rfl) rfl rfl rfl ?_
      refine RW.store hM 0 (.agg #[.int .i64 (0), .slice none 0 0]) [.int .i64 (0), .slice none 0 0] [.int .i64 (0), .slice none 0 0] sz24 rfl rfl rfl (oneAll ⟨rfl, rfl, trivial⟩) rfl (Nat.le_of_ble_eq_true rfl) rfl [.box b4 24 [.int .i64 (0), .slice none 0 0], .box b3 26 [.int .i64 (s), .int .i64 (c)], .box b2 24 [.int .i64 (n), .slice A1 ws.length c1], .box b1 58 [.func (.func 39) #[] #[]]] rfl rfl rfl ?_; intro w hM
      refine RW.step (Ex.assign (.int .i64 (2)) rfl) rfl rfl rfl ?_
      refine RW.nil ?_
      refine CW.ret ?_
      refine thenQ_ret ?_
      refine end_cell_tmp (k := 0) (.inl rfl) rfl hM rfl (.int .i64 (2)) rfl ta24 [.int .i64 (0), .slice none 0 0] rfl rfl ?_
      exact ⟨_, _, hM, BRv.bad (chR_range hc5 hc6) rfl⟩
    · -- no: ¬ (fitsB s c n = true)
      have hf := Classical.not_not.1 hc6
      have hff := fitsB_iff.1 hf
      refine CW.skip ?_
      refine CW.seq ?_
      refine CW.region ?_
      refine RW.step (Ex.fieldAddr fa24_1 rfl) rfl rfl rfl ?_
      refine RW.step (Ex.load1 hM 2 to22 rfl rfl rfl) rfl rfl rfl ?_
      refine RW.callO hM (clone_ret _ _ _ ws hr1 (by omega)) en54 rfl rfl rfl rfl ?_; rintro _ w _ ⟨A7, c8, rfl, rfl⟩ hM
      replace hM : Mem w0 H w H [.row (.slice A7 ws.length c8) 55 1 ws.length (ws.map u64), .box b4 24 [.int .i64 (0), .slice none 0 0], .box b3 26 [.int .i64 (s), .int .i64 (c)], .box b2 24 [.int .i64 (n), .slice A1 ws.length c1], .box b1 58 [.func (.func 39) #[] #[]]] := hM
      refine RW.step (Ex.assign (.slice A7 ws.length c8) rfl) rfl rfl rfl ?_
      refine RW.nil ?_
      refine CW.seq ?_
      refine CW.seq ?_
      refine CW.region ?_
      refine RW.step (Ex.move (.slice A7 ws.length c8) rfl) rfl rfl rfl ?_
      refine RW.step (Ex.len st22.1 rfl) rfl rfl rfl ?_
      refine RW.step (Ex.move (.int .i64 (0)) rfl) rfl rfl rfl ?_
      refine RW.nil ?_
      refine CW.block ?_
      refine CW.loop (β := Nat) (fun (k : Nat) σ w => (∃ τ, σ = sl [(3, .pointer (some ⟨b1, 0, none⟩)), (4, .pointer (some ⟨b2, 0, none⟩)), (5, .pointer (some ⟨b3, 0, none⟩)), (6, .pointer (some ⟨b4, 0, none⟩)), (7, .int .i64 (0)), (9, .slice A7 ws.length c8), (27, .int .i64 ((ws.length : Int))), (28, .int .i64 ((k : Int)))] τ) ∧ Mem w0 H w H [.row (.slice A7 ws.length c8) 55 1 ws.length ((chK true ws s (s + c) k).map u64), .box b4 24 [.int .i64 (0), .slice none 0 0], .box b3 26 [.int .i64 (s), .int .i64 (c)], .box b2 24 [.int .i64 (n), .slice A1 ws.length c1], .box b1 58 [.func (.func 39) #[] #[]]] ∧ (k ≤ ws.length) ∧ True) (fun k => ws.length - k) (0) ⟨sl_canon ⟨rfl, rfl, rfl, rfl, rfl, rfl, rfl, (show Value.int _ _ = Value.int _ _ from congrArg (Value.int _) (by omega)), trivial⟩, (by rw [chK_zero]; exact hM), (by omega), trivial⟩ ?_
      rintro k _ w ⟨⟨τ, rfl⟩, hM, hk, -⟩
      refine CW.seq ?_
      refine CW.region ?_
      refine RW.step (Ex.lss rfl rfl) rfl rfl rfl ?_
      refine RW.nil ?_
      refine CW.seq ?_
      refine CW.cond_dec rfl (fun hc9 => ?_) (fun hc9 => ?_)
      · -- yes: (k : Int) < (ws.length : Int)
        refine CW.skip ?_
        refine CW.seq ?_
        refine CW.block ?_
        refine CW.seq ?_
        refine CW.region ?_
        refine RW.step (Ex.move (.int .i64 ((k : Int))) rfl) rfl rfl rfl ?_
        refine RW.step (Ex.assign (.int .i64 ((k : Int))) rfl) rfl rfl rfl ?_
        refine RW.nil ?_
        refine CW.drawE 18 [.slice A7 ws.length c8, .int .i64 ((k : Int)), .pointer (some ⟨b1, 0, none⟩), .func (.func 39) #[] #[], .slice A7 ws.length c8, .int .i64 ((k : Int)), elp A7 (k * 1 + 0), u64 ((chK true ws s (s + c) k).getD k 0#64), .int .i64 ((k : Int)), .pointer (some ⟨b3, 0, none⟩), .int .i64 (s), .pointer (some ⟨b3, 0, none⟩), .int .i64 (s), .pointer (some ⟨b3, 1, none⟩), .int .i64 (c), .int .i64 (s + c), u64 (maskW (k : Int) s (s + c)), u64 (((chK true ws s (s + c) k).getD k 0#64) ||| (maskW (k : Int) s (s + c)))]
          [[(9, none)], [(10, none)], [(3, none)], [(33, some 2)], [(9, none)], [(10, none)], [(35, some 4), (36, some 5)], [(37, some 6)], [(10, none)], [(5, none)], [(40, some 9)], [(5, none)], [(42, some 11)], [(5, none)], [(44, some 13)], [(43, some 12), (45, some 14)], [(39, some 8), (41, some 10), (46, some 15)], [(34, some 3), (38, some 7), (47, some 16)]] [(3, none), (4, none), (5, none), (6, none), (7, none), (9, none), (10, none), (27, none), (28, none), (29, none), (30, none), (31, some 0), (32, some 1), (33, some 2), (34, some 3), (35, some 4), (36, some 5), (37, some 6), (38, some 7), (39, some 8), (40, some 9), (41, some 10), (42, some 11), (43, some 12), (44, some 13), (45, some 14), (46, some 15), (47, some 16), (48, some 17)] (by kernel_rfl) hM (by kernel_rfl) ⟨?_, ?_, ?_, ?_, ?_, ?_, ?_, ?_, ?_, ?_, ?_, ?_, ?_, ?_, ?_, ?_, ?_, ?_, trivial⟩ ?_
        · exact One.ex (fun H' τ w hled hM => Ex.move (.slice A7 ws.length c8) rfl) rfl (fun _ => rfl) rfl
        · exact One.ex (fun H' τ w hled hM => Ex.move (.int .i64 ((k : Int))) rfl) rfl (fun _ => rfl) rfl
        · exact One.ex (fun H' τ w hled hM => Ex.fieldAddr fa58_0 rfl) rfl (fun _ => rfl) rfl
        · exact One.ex (fun H' τ w hled hM => Ex.load1 hM 4 to56 rfl rfl rfl) rfl (fun _ => rfl) rfl
        · exact One.ex (fun H' τ w hled hM => Ex.move (.slice A7 ws.length c8) rfl) rfl (fun _ => rfl) rfl
        · exact One.ex (fun H' τ w hled hM => Ex.move (.int .i64 ((k : Int))) rfl) rfl (fun _ => rfl) rfl
        · exact One.ex (fun H' τ w hled hM => Ex.index st22 rfl rfl k (hM.rowNe (k := 0) rfl (by omega)) (by omega) (by omega)) rfl (fun _ => rfl) rfl
        · exact One.ex (fun H' τ w hled hM => Ex.loadR hM 0 rfl to55 (hM.rowNe (k := 0) rfl (by omega)) rfl (getW (by first | omega | (rw [chK_length]; omega) | (rw [chW_length]; omega) | (rw [List.length_replicate]; omega) | (rw [mixK_length (by rw [List.length_zipWith, List.length_replicate]; omega)]; first | omega | (rw [List.length_replicate]; omega)) | (rw [mixK_length (by rw [List.length_zipWith]; omega)]; omega)))) rfl (fun _ => rfl) rfl
        · exact One.ex (fun H' τ w hled hM => Ex.move (.int .i64 ((k : Int))) rfl) rfl (fun _ => rfl) rfl
        · exact One.ex (fun H' τ w hled hM => Ex.fieldAddr fa26_0 rfl) rfl (fun _ => rfl) rfl
        · exact One.ex (fun H' τ w hled hM => Ex.load1 hM 2 to3 rfl rfl rfl) rfl (fun _ => rfl) rfl
        · exact One.ex (fun H' τ w hled hM => Ex.fieldAddr fa26_0 rfl) rfl (fun _ => rfl) rfl
        · exact One.ex (fun H' τ w hled hM => Ex.load1 hM 2 to3 rfl rfl rfl) rfl (fun _ => rfl) rfl
        · exact One.ex (fun H' τ w hled hM => Ex.fieldAddr fa26_1 rfl) rfl (fun _ => rfl) rfl
        · exact One.ex (fun H' τ w hled hM => Ex.load1 hM 2 to3 rfl rfl rfl) rfl (fun _ => rfl) rfl
        · exact One.ex (fun H' τ w hled hM => Ex.add rfl rfl (by omega) (by omega)) rfl (fun _ => rfl) rfl
        · exact One.call (mask_ret _ (k : Int) s (s + c) (by omega) (by omega) (by omega) (by omega) (by omega) (by omega)) en55 (fun _ => rfl) (fun _ => rfl) (fun _ => rfl) rfl
        · exact One.call (set1_ret _ ((chK true ws s (s + c) k).getD k 0#64) (maskW (k : Int) s (s + c))) en39 (fun _ => rfl) (fun _ => rfl) (fun _ => rfl) rfl
        intro τ w hM
        change RW _ _ _ _ _ _ _ _ (sl [(3, .pointer (some ⟨b1, 0, none⟩)), (4, .pointer (some ⟨b2, 0, none⟩)), (5, .pointer (some ⟨b3, 0, none⟩)), (6, .pointer (some ⟨b4, 0, none⟩)), (7, .int .i64 (0)), (9, .slice A7 ws.length c8), (10, .int .i64 ((k : Int))), (27, .int .i64 ((ws.length : Int))), (28, .int .i64 ((k : Int))), (29, .bool (decide ((k : Int) < (ws.length : Int)))), (30, .int .i64 ((k : Int))), (31, .slice A7 ws.length c8), (32, .int .i64 ((k : Int))), (33, .pointer (some ⟨b1, 0, none⟩)), (34, .func (.func 39) #[] #[]), (35, .slice A7 ws.length c8), (36, .int .i64 ((k : Int))), (37, elp A7 (k * 1 + 0)), (38, u64 ((chK true ws s (s + c) k).getD k 0#64)), (39, .int .i64 ((k : Int))), (40, .pointer (some ⟨b3, 0, none⟩)), (41, .int .i64 (s)), (42, .pointer (some ⟨b3, 0, none⟩)), (43, .int .i64 (s)), (44, .pointer (some ⟨b3, 1, none⟩)), (45, .int .i64 (c)), (46, .int .i64 (s + c)), (47, u64 (maskW (k : Int) s (s + c))), (48, u64 (((chK true ws s (s + c) k).getD k 0#64) ||| (maskW (k : Int) s (s + c))))] τ) _
        refine RW.step (Ex.index st22 rfl rfl k (hM.rowNe (k := 0) rfl (by omega)) (by omega) (by omega)) rfl rfl rfl ?_
        refine RW.storeR hM 0 (k * 1 + 0) (u64 (((chK true ws s (s + c) k).getD k 0#64) ||| (maskW (k : Int) s (s + c)))) [u64 (((chK true ws s (s + c) k).getD k 0#64) ||| (maskW (k : Int) s (s + c)))] (((chK true ws s (s + c) k).set k (((chK true ws s (s + c) k).getD k 0#64) ||| (maskW (k : Int) s (s + c)))).map u64) sz55 rfl (hM.rowNe (k := 0) rfl (by omega)) rfl rfl (oneAll ⟨rfl, trivial⟩) rfl (by simp only [List.length_map, List.length_cons, List.length_nil]; first | omega | (rw [chK_length]; omega) | (rw [chW_length]; omega) | (rw [List.length_replicate]; omega) | (rw [mixK_length (by rw [List.length_zipWith, List.length_replicate]; omega)]; first | omega | (rw [List.length_replicate]; omega)) | (rw [mixK_length (by rw [List.length_zipWith]; omega)]; omega)) (setW (by first | omega | (rw [chK_length]; omega) | (rw [chW_length]; omega) | (rw [List.length_replicate]; omega) | (rw [mixK_length (by rw [List.length_zipWith, List.length_replicate]; omega)]; first | omega | (rw [List.length_replicate]; omega)) | (rw [mixK_length (by rw [List.length_zipWith]; omega)]; omega))) [.row (.slice A7 ws.length c8) 55 1 ws.length (((chK true ws s (s + c) k).set k (((chK true ws s (s + c) k).getD k 0#64) ||| (maskW (k : Int) s (s + c)))).map u64), .box b4 24 [.int .i64 (0), .slice none 0 0], .box b3 26 [.int .i64 (s), .int .i64 (c)], .box b2 24 [.int .i64 (n), .slice A1 ws.length c1], .box b1 58 [.func (.func 39) #[] #[]]] rfl rfl rfl ?_; intro w hM
        refine RW.nil ?_
        refine CW.region ?_
        refine RW.step (Ex.add rfl rfl (by omega) (by omega)) rfl rfl rfl ?_
        refine RW.step (Ex.move (.int .i64 ((k : Int) + 1)) rfl) rfl rfl rfl ?_
        refine RW.nil ?_
        refine And.intro rfl (Exists.intro (k + 1) (And.intro ⟨sl_canon ⟨rfl, rfl, rfl, rfl, rfl, rfl, rfl, (show Value.int _ _ = Value.int _ _ from congrArg (Value.int _) (by omega)), trivial⟩, (by rw [← chK_step true ws s (s + c) (show k < ws.length by omega)]; exact hM), (by omega), trivial⟩ (by omega)))
      · -- no: (k : Int) < (ws.length : Int)
        refine CW.exit ?_
        refine CW.seq ?_
        refine CW.region ?_
        refine RW.step (Ex.fieldAddr fa24_0 rfl) rfl rfl rfl ?_
        refine RW.step (Ex.load1 hM 3 to3 rfl rfl rfl) rfl rfl rfl ?_
        refine RW.step (Ex.move (.slice A7 ws.length c8) rfl) rfl rfl rfl ?_
        refine RW.step (Ex.build bs24 [(0, .int .i64 (n)), (1, .slice A7 ws.length c8)] [.int .i64 (n), .slice A7 ws.length c8] rfl rfl) rfl rfl rfl ?_
        refine RW.store hM 1 (.agg #[.int .i64 (n), .slice A7 ws.length c8]) [.int .i64 (n), .slice A7 ws.length c8] [.int .i64 (n), .slice A7 ws.length c8] sz24 rfl rfl rfl (oneAll ⟨rfl, rfl, trivial⟩) rfl (Nat.le_of_ble_eq_true rfl) rfl [.row (.slice A7 ws.length c8) 55 1 ws.length ((chK true ws s (s + c) k).map u64), .box b4 24 [.int .i64 (n), .slice A7 ws.length c8], .box b3 26 [.int .i64 (s), .int .i64 (c)], .box b2 24 [.int .i64 (n), .slice A1 ws.length c1], .box b1 58 [.func (.func 39) #[] #[]]] rfl rfl rfl ?_; intro w hM
        refine RW.step (Ex.assign (.int .i64 (0)) rfl) rfl rfl rfl ?_
        refine RW.nil ?_
        refine CW.ret ?_
        refine end_cell_tmp (k := 1) (.inl rfl) rfl hM rfl (.int .i64 (0)) rfl ta24 [.int .i64 (n), .slice A7 ws.length c8] rfl rfl ?_
        obtain ⟨H9, hM9, hle9, hr9⟩ := hM.giveRow (k := 0) rfl
        exact ⟨_, _, hM9, BRv.ok (by rw [chK_full true ws s (s + c) (show ws.length ≤ k by omega)]; exact chR_ok hc5 hf) (chK_length true ws s (s + c) k).symm hr9⟩

theorem apply_clear_ret (H : Hp) (A1 : Option Addr) (n : Int) (c1 : Nat) (ws : List (BitVec 64)) (hr1 : RdC H A1 ws.length c1 1 (ws.map u64)) (s c : Int) : Ret Tryd.prog 40 #[.agg #[.func (.func 42) #[] #[]], .agg #[.int .i64 n, .slice A1 ws.length c1], .agg #[.int .i64 s, .int .i64 c]] H (BRv (chR false n ws s c)) := by
  have hL := hr1.2.2.1
  have hL1 := hr1.2.1
  unfold maxLen at hL
  refine Ret.of_code Tryd.func40 rfl (Nat.le_of_ble_eq_true rfl) fun w0 hM => ?_
  refine CW.seq ?_
  refine CW.region ?_
  refine RW.box hM (.agg #[.func (.func 42) #[] #[]]) [.func (.func 42) #[] #[]] rfl rfl rfl rfl ?_; intro b1 w hM
  refine RW.box hM (.agg #[.int .i64 (n), .slice A1 ws.length c1]) [.int .i64 (n), .slice A1 ws.length c1] rfl rfl rfl rfl ?_; intro b2 w hM
  refine RW.box hM (.agg #[.int .i64 (s), .int .i64 (c)]) [.int .i64 (s), .int .i64 (c)] rfl rfl rfl rfl ?_; intro b3 w hM
  refine RW.alloc hM tz24 [.int .i64 (0), .slice none 0 0] rfl rfl rfl ?_; intro b4 w hM
  refine RW.step (Ex.assign (.int .i64 (0)) rfl) rfl rfl rfl ?_
  refine RW.nil ?_
  refine CW.seq ?_
  refine CW.seq ?_
  refine CW.region ?_
  refine RW.step (Ex.loadA hM 2 [.int .i64 (n), .slice A1 ws.length c1] ta24 rfl rfl rfl rfl) rfl rfl rfl ?_
  refine RW.callV hM (check_ret _ _ n _ ws hr1) en20 rfl rfl rfl rfl ?_; intro w hM
  refine RW.step (Ex.assign (.int .i64 (chk n ws)) rfl) rfl rfl rfl ?_
  refine RW.nil ?_
  refine CW.seq ?_
  refine CW.region ?_
  refine RW.step (Ex.move (.int .i64 (chk n ws)) rfl) rfl rfl rfl ?_
  refine RW.step (Ex.neq rfl rfl) rfl rfl rfl ?_
  refine RW.nil ?_
  refine CW.cond_dec rfl (fun hc5 => ?_) (fun hc5 => ?_)
  · -- yes: (chk n ws) ≠ 0
    refine CW.seq ?_
    refine CW.region ?_
    refine RW.step (Ex.build bs24 [] [.int .i64 (0), .slice none 0 0] rfl rfl) rfl rfl rfl ?_
    refine RW.step (Ex.move (.int .i64 (chk n ws)) rfl) rfl rfl rfl ?_
    refine RW.store hM 0 (.agg #[.int .i64 (0), .slice none 0 0]) [.int .i64 (0), .slice none 0 0] [.int .i64 (0), .slice none 0 0] sz24 rfl rfl rfl (oneAll ⟨rfl, rfl, trivial⟩) rfl (Nat.le_of_ble_eq_true rfl) rfl [.box b4 24 [.int .i64 (0), .slice none 0 0], .box b3 26 [.int .i64 (s), .int .i64 (c)], .box b2 24 [.int .i64 (n), .slice A1 ws.length c1], .box b1 58 [.func (.func 42) #[] #[]]] rfl rfl rfl ?_; intro w hM
    refine RW.step (Ex.assign (.int .i64 (chk n ws)) rfl) rfl rfl rfl ?_
    refine RW.nil ?_
    refine CW.ret ?_
    refine thenQ_ret ?_
    refine end_cell_tmp (k := 0) (.inl rfl) rfl hM rfl (.int .i64 (chk n ws)) rfl ta24 [.int .i64 (0), .slice none 0 0] rfl rfl ?_
    exact ⟨_, _, hM, BRv.bad (chR_form hc5) (chk_ne hc5)⟩
  · -- no: (chk n ws) ≠ 0
    have hwl := wf_len (Classical.not_not.1 hc5)
    refine CW.skip ?_
    refine CW.seq ?_
    refine CW.seq ?_
    refine CW.region ?_
    refine RW.step (Ex.loadA hM 1 [.int .i64 (s), .int .i64 (c)] ta26 rfl rfl rfl rfl) rfl rfl rfl ?_
    refine RW.step (Ex.fieldAddr fa24_0 rfl) rfl rfl rfl ?_
    refine RW.step (Ex.load1 hM 2 to3 rfl rfl rfl) rfl rfl rfl ?_
    refine RW.callV hM (fits_ret _ s c n (by omega) (by omega)) en53 rfl rfl rfl rfl ?_; intro w hM
    refine RW.step (Ex.not rfl) rfl rfl rfl ?_
    refine RW.nil ?_
    refine CW.cond_dec rfl (fun hc6 => ?_) (fun hc6 => ?_)
    · -- yes: ¬ (fitsB s c n = true)
      refine CW.seq ?_
      refine CW.region ?_
      refine RW.step (Ex.build bs24 [] [.int .i64 (0), .slice none 0 0] rfl rfl) rfl rfl rfl ?_
      refine RW.store hM 0 (.agg #[.int .i64 (0), .slice none 0 0]) [.int .i64 (0), .slice none 0 0] [.int .i64 (0), .slice none 0 0] sz24 rfl rfl rfl (oneAll ⟨rfl, rfl, trivial⟩) rfl (Nat.le_of_ble_eq_true rfl) rfl [.box b4 24 [.int .i64 (0), .slice none 0 0], .box b3 26 [.int .i64 (s), .int .i64 (c)], .box b2 24 [.int .i64 (n), .slice A1 ws.length c1], .box b1 58 [.func (.func 42) #[] #[]]] rfl rfl rfl ?_; intro w hM
      refine RW.step (Ex.assign (.int .i64 (2)) rfl) rfl rfl rfl ?_
      refine RW.nil ?_
      refine CW.ret ?_
      refine thenQ_ret ?_
      refine end_cell_tmp (k := 0) (.inl rfl) rfl hM rfl (.int .i64 (2)) rfl ta24 [.int .i64 (0), .slice none 0 0] rfl rfl ?_
      exact ⟨_, _, hM, BRv.bad (chR_range hc5 hc6) rfl⟩
    · -- no: ¬ (fitsB s c n = true)
      have hf := Classical.not_not.1 hc6
      have hff := fitsB_iff.1 hf
      refine CW.skip ?_
      refine CW.seq ?_
      refine CW.region ?_
      refine RW.step (Ex.fieldAddr fa24_1 rfl) rfl rfl rfl ?_
      refine RW.step (Ex.load1 hM 2 to22 rfl rfl rfl) rfl rfl rfl ?_
      refine RW.callO hM (clone_ret _ _ _ ws hr1 (by omega)) en54 rfl rfl rfl rfl ?_; rintro _ w _ ⟨A7, c8, rfl, rfl⟩ hM
      replace hM : Mem w0 H w H [.row (.slice A7 ws.length c8) 55 1 ws.length (ws.map u64), .box b4 24 [.int .i64 (0), .slice none 0 0], .box b3 26 [.int .i64 (s), .int .i64 (c)], .box b2 24 [.int .i64 (n), .slice A1 ws.length c1], .box b1 58 [.func (.func 42) #[] #[]]] := hM
      refine RW.step (Ex.assign (.slice A7 ws.length c8) rfl) rfl rfl rfl ?_
      refine RW.nil ?_
      refine CW.seq ?_
      refine CW.seq ?_
      refine CW.region ?_
      refine RW.step (Ex.move (.slice A7 ws.length c8) rfl) rfl rfl rfl ?_
      refine RW.step (Ex.len st22.1 rfl) rfl rfl rfl ?_
      refine RW.step (Ex.move (.int .i64 (0)) rfl) rfl rfl rfl ?_
      refine RW.nil ?_
      refine CW.block ?_
      refine CW.loop (β := Nat) (fun (k : Nat) σ w => (∃ τ, σ = sl [(3, .pointer (some ⟨b1, 0, none⟩)), (4, .pointer (some ⟨b2, 0, none⟩)), (5, .pointer (some ⟨b3, 0, none⟩)), (6, .pointer (some ⟨b4, 0, none⟩)), (7, .int .i64 (0)), (9, .slice A7 ws.length c8), (27, .int .i64 ((ws.length : Int))), (28, .int .i64 ((k : Int)))] τ) ∧ Mem w0 H w H [.row (.slice A7 ws.length c8) 55 1 ws.length ((chK false ws s (s + c) k).map u64), .box b4 24 [.int .i64 (0), .slice none 0 0], .box b3 26 [.int .i64 (s), .int .i64 (c)], .box b2 24 [.int .i64 (n), .slice A1 ws.length c1], .box b1 58 [.func (.func 42) #[] #[]]] ∧ (k ≤ ws.length) ∧ True) (fun k => ws.length - k) (0) ⟨sl_canon ⟨rfl, rfl, rfl, rfl, rfl, rfl, rfl, (show Value.int _ _ = Value.int _ _ from congrArg (Value.int _) (by omega)), trivial⟩, (by rw [chK_zero]; exact hM), (by omega), trivial⟩ ?_
      rintro k _ w ⟨⟨τ, rfl⟩, hM, hk, -⟩
      refine CW.seq ?_
      refine CW.region ?_
      refine RW.step (Ex.lss rfl rfl) rfl rfl rfl ?_
      refine RW.nil ?_
      refine CW.seq ?_
      refine CW.cond_dec rfl (fun hc9 => ?_) (fun hc9 => ?_)
      · -- yes: (k : Int) < (ws.length : Int)
        refine CW.skip ?_
        refine CW.seq ?_
        refine CW.block ?_
        refine CW.seq ?_
        refine CW.region ?_
        refine RW.step (Ex.move (.int .i64 ((k : Int))) rfl) rfl rfl rfl ?_
        refine RW.step (Ex.assign (.int .i64 ((k : Int))) rfl) rfl rfl rfl ?_
        refine RW.nil ?_
        refine CW.drawE 18 [.slice A7 ws.length c8, .int .i64 ((k : Int)), .pointer (some ⟨b1, 0, none⟩), .func (.func 42) #[] #[], .slice A7 ws.length c8, .int .i64 ((k : Int)), elp A7 (k * 1 + 0), u64 ((chK false ws s (s + c) k).getD k 0#64), .int .i64 ((k : Int)), .pointer (some ⟨b3, 0, none⟩), .int .i64 (s), .pointer (some ⟨b3, 0, none⟩), .int .i64 (s), .pointer (some ⟨b3, 1, none⟩), .int .i64 (c), .int .i64 (s + c), u64 (maskW (k : Int) s (s + c)), u64 (((chK false ws s (s + c) k).getD k 0#64) &&& ~~~(maskW (k : Int) s (s + c)))]
          [[(9, none)], [(10, none)], [(3, none)], [(33, some 2)], [(9, none)], [(10, none)], [(35, some 4), (36, some 5)], [(37, some 6)], [(10, none)], [(5, none)], [(40, some 9)], [(5, none)], [(42, some 11)], [(5, none)], [(44, some 13)], [(43, some 12), (45, some 14)], [(39, some 8), (41, some 10), (46, some 15)], [(34, some 3), (38, some 7), (47, some 16)]] [(3, none), (4, none), (5, none), (6, none), (7, none), (9, none), (10, none), (27, none), (28, none), (29, none), (30, none), (31, some 0), (32, some 1), (33, some 2), (34, some 3), (35, some 4), (36, some 5), (37, some 6), (38, some 7), (39, some 8), (40, some 9), (41, some 10), (42, some 11), (43, some 12), (44, some 13), (45, some 14), (46, some 15), (47, some 16), (48, some 17)] (by kernel_rfl) hM (by kernel_rfl) ⟨?_, ?_, ?_, ?_, ?_, ?_, ?_, ?_, ?_, ?_, ?_, ?_, ?_, ?_, ?_, ?_, ?_, ?_, trivial⟩ ?_
        · exact One.ex (fun H' τ w hled hM => Ex.move (.slice A7 ws.length c8) rfl) rfl (fun _ => rfl) rfl
        · exact One.ex (fun H' τ w hled hM => Ex.move (.int .i64 ((k : Int))) rfl) rfl (fun _ => rfl) rfl
        · exact One.ex (fun H' τ w hled hM => Ex.fieldAddr fa58_0 rfl) rfl (fun _ => rfl) rfl
        · exact One.ex (fun H' τ w hled hM => Ex.load1 hM 4 to56 rfl rfl rfl) rfl (fun _ => rfl) rfl
        · exact One.ex (fun H' τ w hled hM => Ex.move (.slice A7 ws.length c8) rfl) rfl (fun _ => rfl) rfl
        · exact One.ex (fun H' τ w hled hM => Ex.move (.int .i64 ((k : Int))) rfl) rfl (fun _ => rfl) rfl
        · exact One.ex (fun H' τ w hled hM => Ex.index st22 rfl rfl k (hM.rowNe (k := 0) rfl (by omega)) (by omega) (by omega)) rfl (fun _ => rfl) rfl
        · exact One.ex (fun H' τ w hled hM => Ex.loadR hM 0 rfl to55 (hM.rowNe (k := 0) rfl (by omega)) rfl (getW (by first | omega | (rw [chK_length]; omega) | (rw [chW_length]; omega) | (rw [List.length_replicate]; omega) | (rw [mixK_length (by rw [List.length_zipWith, List.length_replicate]; omega)]; first | omega | (rw [List.length_replicate]; omega)) | (rw [mixK_length (by rw [List.length_zipWith]; omega)]; omega)))) rfl (fun _ => rfl) rfl
        · exact One.ex (fun H' τ w hled hM => Ex.move (.int .i64 ((k : Int))) rfl) rfl (fun _ => rfl) rfl
        · exact One.ex (fun H' τ w hled hM => Ex.fieldAddr fa26_0 rfl) rfl (fun _ => rfl) rfl
        · exact One.ex (fun H' τ w hled hM => Ex.load1 hM 2 to3 rfl rfl rfl) rfl (fun _ => rfl) rfl
        · exact One.ex (fun H' τ w hled hM => Ex.fieldAddr fa26_0 rfl) rfl (fun _ => rfl) rfl
        · exact One.ex (fun H' τ w hled hM => Ex.load1 hM 2 to3 rfl rfl rfl) rfl (fun _ => rfl) rfl
        · exact One.ex (fun H' τ w hled hM => Ex.fieldAddr fa26_1 rfl) rfl (fun _ => rfl) rfl
        · exact One.ex (fun H' τ w hled hM => Ex.load1 hM 2 to3 rfl rfl rfl) rfl (fun _ => rfl) rfl
        · exact One.ex (fun H' τ w hled hM => Ex.add rfl rfl (by omega) (by omega)) rfl (fun _ => rfl) rfl
        · exact One.call (mask_ret _ (k : Int) s (s + c) (by omega) (by omega) (by omega) (by omega) (by omega) (by omega)) en55 (fun _ => rfl) (fun _ => rfl) (fun _ => rfl) rfl
        · exact One.call (clear1_ret _ ((chK false ws s (s + c) k).getD k 0#64) (maskW (k : Int) s (s + c))) en42 (fun _ => rfl) (fun _ => rfl) (fun _ => rfl) rfl
        intro τ w hM
        change RW _ _ _ _ _ _ _ _ (sl [(3, .pointer (some ⟨b1, 0, none⟩)), (4, .pointer (some ⟨b2, 0, none⟩)), (5, .pointer (some ⟨b3, 0, none⟩)), (6, .pointer (some ⟨b4, 0, none⟩)), (7, .int .i64 (0)), (9, .slice A7 ws.length c8), (10, .int .i64 ((k : Int))), (27, .int .i64 ((ws.length : Int))), (28, .int .i64 ((k : Int))), (29, .bool (decide ((k : Int) < (ws.length : Int)))), (30, .int .i64 ((k : Int))), (31, .slice A7 ws.length c8), (32, .int .i64 ((k : Int))), (33, .pointer (some ⟨b1, 0, none⟩)), (34, .func (.func 42) #[] #[]), (35, .slice A7 ws.length c8), (36, .int .i64 ((k : Int))), (37, elp A7 (k * 1 + 0)), (38, u64 ((chK false ws s (s + c) k).getD k 0#64)), (39, .int .i64 ((k : Int))), (40, .pointer (some ⟨b3, 0, none⟩)), (41, .int .i64 (s)), (42, .pointer (some ⟨b3, 0, none⟩)), (43, .int .i64 (s)), (44, .pointer (some ⟨b3, 1, none⟩)), (45, .int .i64 (c)), (46, .int .i64 (s + c)), (47, u64 (maskW (k : Int) s (s + c))), (48, u64 (((chK false ws s (s + c) k).getD k 0#64) &&& ~~~(maskW (k : Int) s (s + c))))] τ) _
        refine RW.step (Ex.index st22 rfl rfl k (hM.rowNe (k := 0) rfl (by omega)) (by omega) (by omega)) rfl rfl rfl ?_
        refine RW.storeR hM 0 (k * 1 + 0) (u64 (((chK false ws s (s + c) k).getD k 0#64) &&& ~~~(maskW (k : Int) s (s + c)))) [u64 (((chK false ws s (s + c) k).getD k 0#64) &&& ~~~(maskW (k : Int) s (s + c)))] (((chK false ws s (s + c) k).set k (((chK false ws s (s + c) k).getD k 0#64) &&& ~~~(maskW (k : Int) s (s + c)))).map u64) sz55 rfl (hM.rowNe (k := 0) rfl (by omega)) rfl rfl (oneAll ⟨rfl, trivial⟩) rfl (by simp only [List.length_map, List.length_cons, List.length_nil]; first | omega | (rw [chK_length]; omega) | (rw [chW_length]; omega) | (rw [List.length_replicate]; omega) | (rw [mixK_length (by rw [List.length_zipWith, List.length_replicate]; omega)]; first | omega | (rw [List.length_replicate]; omega)) | (rw [mixK_length (by rw [List.length_zipWith]; omega)]; omega)) (setW (by first | omega | (rw [chK_length]; omega) | (rw [chW_length]; omega) | (rw [List.length_replicate]; omega) | (rw [mixK_length (by rw [List.length_zipWith, List.length_replicate]; omega)]; first | omega | (rw [List.length_replicate]; omega)) | (rw [mixK_length (by rw [List.length_zipWith]; omega)]; omega))) [.row (.slice A7 ws.length c8) 55 1 ws.length (((chK false ws s (s + c) k).set k (((chK false ws s (s + c) k).getD k 0#64) &&& ~~~(maskW (k : Int) s (s + c)))).map u64), .box b4 24 [.int .i64 (0), .slice none 0 0], .box b3 26 [.int .i64 (s), .int .i64 (c)], .box b2 24 [.int .i64 (n), .slice A1 ws.length c1], .box b1 58 [.func (.func 42) #[] #[]]] rfl rfl rfl ?_; intro w hM
        refine RW.nil ?_
        refine CW.region ?_
        refine RW.step (Ex.add rfl rfl (by omega) (by omega)) rfl rfl rfl ?_
        refine RW.step (Ex.move (.int .i64 ((k : Int) + 1)) rfl) rfl rfl rfl ?_
        refine RW.nil ?_
        refine And.intro rfl (Exists.intro (k + 1) (And.intro ⟨sl_canon ⟨rfl, rfl, rfl, rfl, rfl, rfl, rfl, (show Value.int _ _ = Value.int _ _ from congrArg (Value.int _) (by omega)), trivial⟩, (by rw [← chK_step false ws s (s + c) (show k < ws.length by omega)]; exact hM), (by omega), trivial⟩ (by omega)))
      · -- no: (k : Int) < (ws.length : Int)
        refine CW.exit ?_
        refine CW.seq ?_
        refine CW.region ?_
        refine RW.step (Ex.fieldAddr fa24_0 rfl) rfl rfl rfl ?_
        refine RW.step (Ex.load1 hM 3 to3 rfl rfl rfl) rfl rfl rfl ?_
        refine RW.step (Ex.move (.slice A7 ws.length c8) rfl) rfl rfl rfl ?_
        refine RW.step (Ex.build bs24 [(0, .int .i64 (n)), (1, .slice A7 ws.length c8)] [.int .i64 (n), .slice A7 ws.length c8] rfl rfl) rfl rfl rfl ?_
        refine RW.store hM 1 (.agg #[.int .i64 (n), .slice A7 ws.length c8]) [.int .i64 (n), .slice A7 ws.length c8] [.int .i64 (n), .slice A7 ws.length c8] sz24 rfl rfl rfl (oneAll ⟨rfl, rfl, trivial⟩) rfl (Nat.le_of_ble_eq_true rfl) rfl [.row (.slice A7 ws.length c8) 55 1 ws.length ((chK false ws s (s + c) k).map u64), .box b4 24 [.int .i64 (n), .slice A7 ws.length c8], .box b3 26 [.int .i64 (s), .int .i64 (c)], .box b2 24 [.int .i64 (n), .slice A1 ws.length c1], .box b1 58 [.func (.func 42) #[] #[]]] rfl rfl rfl ?_; intro w hM
        refine RW.step (Ex.assign (.int .i64 (0)) rfl) rfl rfl rfl ?_
        refine RW.nil ?_
        refine CW.ret ?_
        refine end_cell_tmp (k := 1) (.inl rfl) rfl hM rfl (.int .i64 (0)) rfl ta24 [.int .i64 (n), .slice A7 ws.length c8] rfl rfl ?_
        obtain ⟨H9, hM9, hle9, hr9⟩ := hM.giveRow (k := 0) rfl
        exact ⟨_, _, hM9, BRv.ok (by rw [chK_full false ws s (s + c) (show ws.length ≤ k by omega)]; exact chR_ok hc5 hf) (chK_length false ws s (s + c) k).symm hr9⟩

theorem rchange_set_ret (H : Hp) (A1 : Option Addr) (n : Int) (c1 : Nat) (ws : List (BitVec 64)) (hr1 : RdC H A1 ws.length c1 1 (ws.map u64)) (s c : Int) : Ret Tryd.prog 41 #[.agg #[.int .i64 n, .slice A1 ws.length c1], .agg #[.int .i64 s, .int .i64 c], .bool true] H (BRv (chR true n ws s c)) := by
  have hL := hr1.2.2.1
  have hL1 := hr1.2.1
  unfold maxLen at hL
  refine Ret.of_code Tryd.func41 rfl (Nat.le_of_ble_eq_true rfl) fun w0 hM => ?_
  refine CW.seq ?_
  refine CW.region ?_
  refine RW.box hM (.agg #[.int .i64 (n), .slice A1 ws.length c1]) [.int .i64 (n), .slice A1 ws.length c1] rfl rfl rfl rfl ?_; intro b1 w hM
  refine RW.box hM (.agg #[.int .i64 (s), .int .i64 (c)]) [.int .i64 (s), .int .i64 (c)] rfl rfl rfl rfl ?_; intro b2 w hM
  refine RW.alloc hM tz24 [.int .i64 (0), .slice none 0 0] rfl rfl rfl ?_; intro b3 w hM
  refine RW.step (Ex.assign (.int .i64 (0)) rfl) rfl rfl rfl ?_
  refine RW.nil ?_
  refine CW.seq ?_
  refine CW.seq ?_
  refine CW.region ?_
  refine RW.step (Ex.loadA hM 2 [.int .i64 (n), .slice A1 ws.length c1] ta24 rfl rfl rfl rfl) rfl rfl rfl ?_
  refine RW.callV hM (rcheck_ret _ _ n _ ws hr1) en21 rfl rfl rfl rfl ?_; intro w hM
  refine RW.step (Ex.neq rfl rfl) rfl rfl rfl ?_
  refine RW.nil ?_
  refine CW.cond_dec rfl (fun hc4 => ?_) (fun hc4 => ?_)
  · -- yes: (chk n ws) ≠ 0
    refine CW.seq ?_
    refine CW.region ?_
    refine RW.step (Ex.build bs24 [] [.int .i64 (0), .slice none 0 0] rfl rfl) rfl rfl rfl ?_
    refine RW.store hM 0 (.agg #[.int .i64 (0), .slice none 0 0]) [.int .i64 (0), .slice none 0 0] [.int .i64 (0), .slice none 0 0] sz24 rfl rfl rfl (oneAll ⟨rfl, rfl, trivial⟩) rfl (Nat.le_of_ble_eq_true rfl) rfl [.box b3 24 [.int .i64 (0), .slice none 0 0], .box b2 26 [.int .i64 (s), .int .i64 (c)], .box b1 24 [.int .i64 (n), .slice A1 ws.length c1]] rfl rfl rfl ?_; intro w hM
    refine RW.step (Ex.assign (.int .i64 (3)) rfl) rfl rfl rfl ?_
    refine RW.nil ?_
    refine CW.ret ?_
    refine thenQ_ret ?_
    refine end_cell_tmp (k := 0) (.inl rfl) rfl hM rfl (.int .i64 (3)) rfl ta24 [.int .i64 (0), .slice none 0 0] rfl rfl ?_
    exact ⟨_, _, hM, BRv.bad (chR_form hc4) rfl⟩
  · -- no: (chk n ws) ≠ 0
    have hwl := wf_len (Classical.not_not.1 hc4)
    refine CW.skip ?_
    refine CW.seq ?_
    refine CW.seq ?_
    refine CW.region ?_
    refine RW.step (Ex.loadA hM 1 [.int .i64 (s), .int .i64 (c)] ta26 rfl rfl rfl rfl) rfl rfl rfl ?_
    refine RW.step (Ex.fieldAddr fa24_0 rfl) rfl rfl rfl ?_
    refine RW.step (Ex.load1 hM 2 to3 rfl rfl rfl) rfl rfl rfl ?_
    refine RW.callV hM (rfits_ret _ s c n (by omega) (by omega)) en56 rfl rfl rfl rfl ?_; intro w hM
    refine RW.step (Ex.not rfl) rfl rfl rfl ?_
    refine RW.nil ?_
    refine CW.cond_dec rfl (fun hc5 => ?_) (fun hc5 => ?_)
    · -- yes: ¬ (fitsB s c n = true)
      refine CW.seq ?_
      refine CW.region ?_
      refine RW.step (Ex.build bs24 [] [.int .i64 (0), .slice none 0 0] rfl rfl) rfl rfl rfl ?_
      refine RW.store hM 0 (.agg #[.int .i64 (0), .slice none 0 0]) [.int .i64 (0), .slice none 0 0] [.int .i64 (0), .slice none 0 0] sz24 rfl rfl rfl (oneAll ⟨rfl, rfl, trivial⟩) rfl (Nat.le_of_ble_eq_true rfl) rfl [.box b3 24 [.int .i64 (0), .slice none 0 0], .box b2 26 [.int .i64 (s), .int .i64 (c)], .box b1 24 [.int .i64 (n), .slice A1 ws.length c1]] rfl rfl rfl ?_; intro w hM
      refine RW.step (Ex.assign (.int .i64 (2)) rfl) rfl rfl rfl ?_
      refine RW.nil ?_
      refine CW.ret ?_
      refine thenQ_ret ?_
      refine end_cell_tmp (k := 0) (.inl rfl) rfl hM rfl (.int .i64 (2)) rfl ta24 [.int .i64 (0), .slice none 0 0] rfl rfl ?_
      exact ⟨_, _, hM, BRv.bad (chR_range hc4 hc5) rfl⟩
    · -- no: ¬ (fitsB s c n = true)
      have hf := Classical.not_not.1 hc5
      have hff := fitsB_iff.1 hf
      refine CW.skip ?_
      refine CW.seq ?_
      refine CW.region ?_
      refine RW.step (Ex.loadA hM 2 [.int .i64 (n), .slice A1 ws.length c1] ta24 rfl rfl rfl rfl) rfl rfl rfl ?_
      refine RW.callO hM (copy_ret _ _ n _ ws hr1 (by omega)) en50 rfl rfl rfl rfl ?_; rintro _ w _ ⟨A6, c7, rfl, rfl⟩ hM
      replace hM : Mem w0 H w H [.row (.slice A6 ws.length c7) 55 1 ws.length (ws.map u64), .box b3 24 [.int .i64 (0), .slice none 0 0], .box b2 26 [.int .i64 (s), .int .i64 (c)], .box b1 24 [.int .i64 (n), .slice A1 ws.length c1]] := hM
      refine RW.alloc hM tz24 [.int .i64 (0), .slice none 0 0] rfl rfl rfl ?_; intro b8 w hM
      refine RW.store hM 0 (.agg #[.int .i64 (n), .slice A6 ws.length c7]) [.int .i64 (n), .slice A6 ws.length c7] [.int .i64 (n), .slice A6 ws.length c7] sz24 rfl rfl rfl (oneAll ⟨rfl, rfl, trivial⟩) rfl (Nat.le_of_ble_eq_true rfl) rfl [.box b8 24 [.int .i64 (n), .slice A6 ws.length c7], .row (.slice A6 ws.length c7) 55 1 ws.length (ws.map u64), .box b3 24 [.int .i64 (0), .slice none 0 0], .box b2 26 [.int .i64 (s), .int .i64 (c)], .box b1 24 [.int .i64 (n), .slice A1 ws.length c1]] rfl rfl rfl ?_; intro w hM
      refine RW.nil ?_
      refine CW.seq ?_
      refine CW.seq ?_
      refine CW.region ?_
      refine RW.step (Ex.fieldAddr fa26_0 rfl) rfl rfl rfl ?_
      refine RW.step (Ex.load1 hM 3 to3 rfl rfl rfl) rfl rfl rfl ?_
      refine RW.step (Ex.assign (.int .i64 (s)) rfl) rfl rfl rfl ?_
      refine RW.nil ?_
      refine CW.block ?_
      refine CW.loop (β := Nat) (fun (k : Nat) σ w => (∃ τ, σ = sl [(2, .bool true), (4, .pointer (some ⟨b2, 0, none⟩)), (6, .pointer (some ⟨b3, 0, none⟩)), (7, .int .i64 (0)), (8, .pointer (some ⟨b8, 0, none⟩)), (9, .int .i64 ((k : Int)))] τ) ∧ Mem w0 H w H [.box b8 24 [.int .i64 (n), .slice A6 ws.length c7], .row (.slice A6 ws.length c7) 55 1 ws.length ((chW true ws s (k : Int)).map u64), .box b3 24 [.int .i64 (0), .slice none 0 0], .box b2 26 [.int .i64 (s), .int .i64 (c)], .box b1 24 [.int .i64 (n), .slice A1 ws.length c1]] ∧ (s ≤ (k : Int)) ∧ ((k : Int) ≤ s + c) ∧ True) (fun k => (s + c).toNat - k) (s.toNat) ⟨sl_canon ⟨rfl, rfl, rfl, rfl, rfl, (show Value.int _ _ = Value.int _ _ from congrArg (Value.int _) (by omega)), trivial⟩, (by rw [chW_none true ws (show ((s.toNat : Nat) : Int) ≤ s by omega)]; exact hM), (by omega), (by omega), trivial⟩ ?_
      rintro k _ w ⟨⟨τ, rfl⟩, hM, hk1, hk2, -⟩
      refine CW.seq ?_
      refine CW.seq ?_
      refine CW.region ?_
      refine RW.step (Ex.move (.int .i64 ((k : Int))) rfl) rfl rfl rfl ?_
      refine RW.step (Ex.fieldAddr fa26_0 rfl) rfl rfl rfl ?_
      refine RW.step (Ex.load1 hM 3 to3 rfl rfl rfl) rfl rfl rfl ?_
      refine RW.step (Ex.fieldAddr fa26_1 rfl) rfl rfl rfl ?_
      refine RW.step (Ex.load1 hM 3 to3 rfl rfl rfl) rfl rfl rfl ?_
      refine RW.step (Ex.add rfl rfl (by omega) (by omega)) rfl rfl rfl ?_
      refine RW.step (Ex.lss rfl rfl) rfl rfl rfl ?_
      refine RW.nil ?_
      refine CW.cond_dec rfl (fun hc9 => ?_) (fun hc9 => ?_)
      · -- yes: (k : Int) < (s + c)
        refine CW.skip ?_
        refine CW.seq ?_
        refine CW.block ?_
        refine CW.seq ?_
        refine CW.region ?_
        refine RW.step (Ex.move (.bool true) rfl) rfl rfl rfl ?_
        refine RW.nil ?_
        refine CW.cond_true rfl ?_
        refine CW.drawE 15 [.pointer (some ⟨b8, 1, none⟩), .slice A6 ws.length c7, .int .i64 ((k : Int)), .int .i64 ((k : Int) / 64), .pointer (some ⟨b8, 1, none⟩), .slice A6 ws.length c7, .int .i64 ((k : Int)), .int .i64 ((k : Int) / 64), elp A6 ((((k : Int) / 64).toNat) * 1 + 0), u64 ((chW true ws s (k : Int)).getD (((k : Int) / 64).toNat) 0#64), .int .i64 ((k : Int)), .int .i64 ((k : Int) % 64), .int .u64 ((k : Int) % 64), u64 ((1#64) <<< ((k : Int) % 64 : Int).toNat), u64 (((chW true ws s (k : Int)).getD (((k : Int) / 64).toNat) 0#64) ||| ((1#64) <<< ((k : Int) % 64 : Int).toNat))]
          [[(8, none)], [(34, some 0)], [(9, none)], [(36, some 2)], [(8, none)], [(38, some 4)], [(9, none)], [(40, some 6)], [(39, some 5), (41, some 7)], [(42, some 8)], [(9, none)], [(44, some 10)], [(45, some 11)], [(46, some 12)], [(43, some 9), (47, some 13)]] [(2, none), (4, none), (6, none), (7, none), (8, none), (9, none), (24, none), (25, none), (26, none), (27, none), (28, none), (29, none), (30, none), (33, none), (34, some 0), (35, some 1), (36, some 2), (37, some 3), (38, some 4), (39, some 5), (40, some 6), (41, some 7), (42, some 8), (43, some 9), (44, some 10), (45, some 11), (46, some 12), (47, some 13), (48, some 14)] (by kernel_rfl) hM (by kernel_rfl) ⟨?_, ?_, ?_, ?_, ?_, ?_, ?_, ?_, ?_, ?_, ?_, ?_, ?_, ?_, ?_, trivial⟩ ?_
        · exact One.ex (fun H' τ w hled hM => Ex.fieldAddr fa24_1 rfl) rfl (fun _ => rfl) rfl
        · exact One.ex (fun H' τ w hled hM => Ex.load1 hM 0 to22 rfl rfl rfl) rfl (fun _ => rfl) rfl
        · exact One.ex (fun H' τ w hled hM => Ex.move (.int .i64 ((k : Int))) rfl) rfl (fun _ => rfl) rfl
        · exact One.ex (fun H' τ w hled hM => Ex.quo rfl rfl (by omega) (by omega) (by omega)) rfl (fun _ => rfl) rfl
        · exact One.ex (fun H' τ w hled hM => Ex.fieldAddr fa24_1 rfl) rfl (fun _ => rfl) rfl
        · exact One.ex (fun H' τ w hled hM => Ex.load1 hM 0 to22 rfl rfl rfl) rfl (fun _ => rfl) rfl
        · exact One.ex (fun H' τ w hled hM => Ex.move (.int .i64 ((k : Int))) rfl) rfl (fun _ => rfl) rfl
        · exact One.ex (fun H' τ w hled hM => Ex.quo rfl rfl (by omega) (by omega) (by omega)) rfl (fun _ => rfl) rfl
        · exact One.ex (fun H' τ w hled hM => Ex.index st22 rfl rfl (((k : Int) / 64).toNat) (hM.rowNe (k := 1) rfl (by omega)) (by omega) (by omega)) rfl (fun _ => rfl) rfl
        · exact One.ex (fun H' τ w hled hM => Ex.loadR hM 1 rfl to55 (hM.rowNe (k := 1) rfl (by omega)) rfl (getW (by first | omega | (rw [chK_length]; omega) | (rw [chW_length]; omega) | (rw [List.length_replicate]; omega) | (rw [mixK_length (by rw [List.length_zipWith, List.length_replicate]; omega)]; first | omega | (rw [List.length_replicate]; omega)) | (rw [mixK_length (by rw [List.length_zipWith]; omega)]; omega)))) rfl (fun _ => rfl) rfl
        · exact One.ex (fun H' τ w hled hM => Ex.move (.int .i64 ((k : Int))) rfl) rfl (fun _ => rfl) rfl
        · exact One.ex (fun H' τ w hled hM => Ex.rem rfl rfl (by omega) (by omega)) rfl (fun _ => rfl) rfl
        · exact One.ex (fun H' τ w hled hM => Ex.conv Tryd.underlying3 Tryd.underlying70 rfl (wrap_u64_id (by omega) (by omega))) rfl (fun _ => rfl) rfl
        · exact One.ex (fun H' τ w hled hM => Ex.shl64 (a := 1#64) (n := (k : Int) % 64) rfl rfl (by omega)) rfl (fun _ => rfl) rfl
        · exact One.ex (fun H' τ w hled hM => Ex.or64 (a := (chW true ws s (k : Int)).getD (((k : Int) / 64).toNat) 0#64) (b := (1#64) <<< ((k : Int) % 64 : Int).toNat) rfl rfl) rfl (fun _ => rfl) rfl
        intro τ w hM
        change RW _ _ _ _ _ _ _ _ (sl [(2, .bool true), (4, .pointer (some ⟨b2, 0, none⟩)), (6, .pointer (some ⟨b3, 0, none⟩)), (7, .int .i64 (0)), (8, .pointer (some ⟨b8, 0, none⟩)), (9, .int .i64 ((k : Int))), (24, .int .i64 ((k : Int))), (25, .pointer (some ⟨b2, 0, none⟩)), (26, .int .i64 (s)), (27, .pointer (some ⟨b2, 1, none⟩)), (28, .int .i64 (c)), (29, .int .i64 (s + c)), (30, .bool (decide ((k : Int) < (s + c)))), (33, .bool true), (34, .pointer (some ⟨b8, 1, none⟩)), (35, .slice A6 ws.length c7), (36, .int .i64 ((k : Int))), (37, .int .i64 ((k : Int) / 64)), (38, .pointer (some ⟨b8, 1, none⟩)), (39, .slice A6 ws.length c7), (40, .int .i64 ((k : Int))), (41, .int .i64 ((k : Int) / 64)), (42, elp A6 ((((k : Int) / 64).toNat) * 1 + 0)), (43, u64 ((chW true ws s (k : Int)).getD (((k : Int) / 64).toNat) 0#64)), (44, .int .i64 ((k : Int))), (45, .int .i64 ((k : Int) % 64)), (46, .int .u64 ((k : Int) % 64)), (47, u64 ((1#64) <<< ((k : Int) % 64 : Int).toNat)), (48, u64 (((chW true ws s (k : Int)).getD (((k : Int) / 64).toNat) 0#64) ||| ((1#64) <<< ((k : Int) % 64 : Int).toNat)))] τ) _
        refine RW.step (Ex.index st22 rfl rfl (((k : Int) / 64).toNat) (hM.rowNe (k := 1) rfl (by omega)) (by omega) (by omega)) rfl rfl rfl ?_
        refine RW.storeR hM 1 ((((k : Int) / 64).toNat) * 1 + 0) (u64 (((chW true ws s (k : Int)).getD (((k : Int) / 64).toNat) 0#64) ||| ((1#64) <<< ((k : Int) % 64 : Int).toNat))) [u64 (((chW true ws s (k : Int)).getD (((k : Int) / 64).toNat) 0#64) ||| ((1#64) <<< ((k : Int) % 64 : Int).toNat))] (((chW true ws s (k : Int)).set (((k : Int) / 64).toNat) (((chW true ws s (k : Int)).getD (((k : Int) / 64).toNat) 0#64) ||| ((1#64) <<< ((k : Int) % 64 : Int).toNat))).map u64) sz55 rfl (hM.rowNe (k := 1) rfl (by omega)) rfl rfl (oneAll ⟨rfl, trivial⟩) rfl (by simp only [List.length_map, List.length_cons, List.length_nil]; first | omega | (rw [chK_length]; omega) | (rw [chW_length]; omega) | (rw [List.length_replicate]; omega) | (rw [mixK_length (by rw [List.length_zipWith, List.length_replicate]; omega)]; first | omega | (rw [List.length_replicate]; omega)) | (rw [mixK_length (by rw [List.length_zipWith]; omega)]; omega)) (setW (by first | omega | (rw [chK_length]; omega) | (rw [chW_length]; omega) | (rw [List.length_replicate]; omega) | (rw [mixK_length (by rw [List.length_zipWith, List.length_replicate]; omega)]; first | omega | (rw [List.length_replicate]; omega)) | (rw [mixK_length (by rw [List.length_zipWith]; omega)]; omega))) [.box b8 24 [.int .i64 (n), .slice A6 ws.length c7], .row (.slice A6 ws.length c7) 55 1 ws.length (((chW true ws s (k : Int)).set (((k : Int) / 64).toNat) (((chW true ws s (k : Int)).getD (((k : Int) / 64).toNat) 0#64) ||| ((1#64) <<< ((k : Int) % 64 : Int).toNat))).map u64), .box b3 24 [.int .i64 (0), .slice none 0 0], .box b2 26 [.int .i64 (s), .int .i64 (c)], .box b1 24 [.int .i64 (n), .slice A1 ws.length c1]] rfl rfl rfl ?_; intro w hM
        refine RW.nil ?_
        refine CW.region ?_
        refine RW.step (Ex.move (.int .i64 ((k : Int))) rfl) rfl rfl rfl ?_
        refine RW.step (Ex.add rfl rfl (by omega) (by omega)) rfl rfl rfl ?_
        refine RW.step (Ex.assign (.int .i64 ((k : Int) + 1)) rfl) rfl rfl rfl ?_
        refine RW.nil ?_
        refine And.intro rfl (Exists.intro (k + 1) (And.intro ⟨sl_canon ⟨rfl, rfl, rfl, rfl, rfl, (show Value.int _ _ = Value.int _ _ from congrArg (Value.int _) (by omega)), trivial⟩, (by rw [← chW_step2 true ws s (k := k) (by omega) (by omega) (by omega) rfl]; exact hM), (by omega), (by omega), trivial⟩ (by omega)))
      · -- no: (k : Int) < (s + c)
        refine CW.exit ?_
        refine CW.seq ?_
        refine CW.region ?_
        refine RW.step (Ex.loadA hM 0 [.int .i64 (n), .slice A6 ws.length c7] ta24 rfl rfl rfl rfl) rfl rfl rfl ?_
        refine RW.store hM 2 (.agg #[.int .i64 (n), .slice A6 ws.length c7]) [.int .i64 (n), .slice A6 ws.length c7] [.int .i64 (n), .slice A6 ws.length c7] sz24 rfl rfl rfl (oneAll ⟨rfl, rfl, trivial⟩) rfl (Nat.le_of_ble_eq_true rfl) rfl [.box b8 24 [.int .i64 (n), .slice A6 ws.length c7], .row (.slice A6 ws.length c7) 55 1 ws.length ((chW true ws s (k : Int)).map u64), .box b3 24 [.int .i64 (n), .slice A6 ws.length c7], .box b2 26 [.int .i64 (s), .int .i64 (c)], .box b1 24 [.int .i64 (n), .slice A1 ws.length c1]] rfl rfl rfl ?_; intro w hM
        refine RW.step (Ex.assign (.int .i64 (0)) rfl) rfl rfl rfl ?_
        refine RW.nil ?_
        refine CW.ret ?_
        refine end_cell_tmp (k := 2) (.inl rfl) rfl hM rfl (.int .i64 (0)) rfl ta24 [.int .i64 (n), .slice A6 ws.length c7] rfl rfl ?_
        obtain ⟨H9, hM9, hle9, hr9⟩ := hM.giveRow (k := 1) rfl
        exact ⟨_, _, hM9, BRv.ok (by rw [show ((k : Nat) : Int) = s + c by omega]; exact chR_ok hc4 hf) (chW_length true ws s (k : Int)).symm hr9⟩

theorem rchange_clear_ret (H : Hp) (A1 : Option Addr) (n : Int) (c1 : Nat) (ws : List (BitVec 64)) (hr1 : RdC H A1 ws.length c1 1 (ws.map u64)) (s c : Int) : Ret Tryd.prog 41 #[.agg #[.int .i64 n, .slice A1 ws.length c1], .agg #[.int .i64 s, .int .i64 c], .bool false] H (BRv (chR false n ws s c)) := by
  have hL := hr1.2.2.1
  have hL1 := hr1.2.1
  unfold maxLen at hL
  refine Ret.of_code Tryd.func41 rfl (Nat.le_of_ble_eq_true rfl) fun w0 hM => ?_
  refine CW.seq ?_
  refine CW.region ?_
  refine RW.box hM (.agg #[.int .i64 (n), .slice A1 ws.length c1]) [.int .i64 (n), .slice A1 ws.length c1] rfl rfl rfl rfl ?_; intro b1 w hM
  refine RW.box hM (.agg #[.int .i64 (s), .int .i64 (c)]) [.int .i64 (s), .int .i64 (c)] rfl rfl rfl rfl ?_; intro b2 w hM
  refine RW.alloc hM tz24 [.int .i64 (0), .slice none 0 0] rfl rfl rfl ?_; intro b3 w hM
  refine RW.step (Ex.assign (.int .i64 (0)) rfl) rfl rfl rfl ?_
  refine RW.nil ?_
  refine CW.seq ?_
  refine CW.seq ?_
  refine CW.region ?_
  refine RW.step (Ex.loadA hM 2 [.int .i64 (n), .slice A1 ws.length c1] ta24 rfl rfl rfl rfl) rfl rfl rfl ?_
  refine RW.callV hM (rcheck_ret _ _ n _ ws hr1) en21 rfl rfl rfl rfl ?_; intro w hM
  refine RW.step (Ex.neq rfl rfl) rfl rfl rfl ?_
  refine RW.nil ?_
  refine CW.cond_dec rfl (fun hc4 => ?_) (fun hc4 => ?_)
  · -- yes: (chk n ws) ≠ 0
    refine CW.seq ?_
    refine CW.region ?_
    refine RW.step (Ex.build bs24 [] [.int .i64 (0), .slice none 0 0] rfl rfl) rfl rfl rfl ?_
    refine RW.store hM 0 (.agg #[.int .i64 (0), .slice none 0 0]) [.int .i64 (0), .slice none 0 0] [.int .i64 (0), .slice none 0 0] sz24 rfl rfl rfl (oneAll ⟨rfl, rfl, trivial⟩) rfl (Nat.le_of_ble_eq_true rfl) rfl [.box b3 24 [.int .i64 (0), .slice none 0 0], .box b2 26 [.int .i64 (s), .int .i64 (c)], .box b1 24 [.int .i64 (n), .slice A1 ws.length c1]] rfl rfl rfl ?_; intro w hM
    refine RW.step (Ex.assign (.int .i64 (3)) rfl) rfl rfl rfl ?_
    refine RW.nil ?_
    refine CW.ret ?_
    refine thenQ_ret ?_
    refine end_cell_tmp (k := 0) (.inl rfl) rfl hM rfl (.int .i64 (3)) rfl ta24 [.int .i64 (0), .slice none 0 0] rfl rfl ?_
    exact ⟨_, _, hM, BRv.bad (chR_form hc4) rfl⟩
  · -- no: (chk n ws) ≠ 0
    have hwl := wf_len (Classical.not_not.1 hc4)
    refine CW.skip ?_
    refine CW.seq ?_
    refine CW.seq ?_
    refine CW.region ?_
    refine RW.step (Ex.loadA hM 1 [.int .i64 (s), .int .i64 (c)] ta26 rfl rfl rfl rfl) rfl rfl rfl ?_
    refine RW.step (Ex.fieldAddr fa24_0 rfl) rfl rfl rfl ?_
    refine RW.step (Ex.load1 hM 2 to3 rfl rfl rfl) rfl rfl rfl ?_
    refine RW.callV hM (rfits_ret _ s c n (by omega) (by omega)) en56 rfl rfl rfl rfl ?_; intro w hM
    refine RW.step (Ex.not rfl) rfl rfl rfl ?_
    refine RW.nil ?_
    refine CW.cond_dec rfl (fun hc5 => ?_) (fun hc5 => ?_)
    · -- yes: ¬ (fitsB s c n = true)
      refine CW.seq ?_
      refine CW.region ?_
      refine RW.step (Ex.build bs24 [] [.int .i64 (0), .slice none 0 0] rfl rfl) rfl rfl rfl ?_
      refine RW.store hM 0 (.agg #[.int .i64 (0), .slice none 0 0]) [.int .i64 (0), .slice none 0 0] [.int .i64 (0), .slice none 0 0] sz24 rfl rfl rfl (oneAll ⟨rfl, rfl, trivial⟩) rfl (Nat.le_of_ble_eq_true rfl) rfl [.box b3 24 [.int .i64 (0), .slice none 0 0], .box b2 26 [.int .i64 (s), .int .i64 (c)], .box b1 24 [.int .i64 (n), .slice A1 ws.length c1]] rfl rfl rfl ?_; intro w hM
      refine RW.step (Ex.assign (.int .i64 (2)) rfl) rfl rfl rfl ?_
      refine RW.nil ?_
      refine CW.ret ?_
      refine thenQ_ret ?_
      refine end_cell_tmp (k := 0) (.inl rfl) rfl hM rfl (.int .i64 (2)) rfl ta24 [.int .i64 (0), .slice none 0 0] rfl rfl ?_
      exact ⟨_, _, hM, BRv.bad (chR_range hc4 hc5) rfl⟩
    · -- no: ¬ (fitsB s c n = true)
      have hf := Classical.not_not.1 hc5
      have hff := fitsB_iff.1 hf
      refine CW.skip ?_
      refine CW.seq ?_
      refine CW.region ?_
      refine RW.step (Ex.loadA hM 2 [.int .i64 (n), .slice A1 ws.length c1] ta24 rfl rfl rfl rfl) rfl rfl rfl ?_
      refine RW.callO hM (copy_ret _ _ n _ ws hr1 (by omega)) en50 rfl rfl rfl rfl ?_; rintro _ w _ ⟨A6, c7, rfl, rfl⟩ hM
      replace hM : Mem w0 H w H [.row (.slice A6 ws.length c7) 55 1 ws.length (ws.map u64), .box b3 24 [.int .i64 (0), .slice none 0 0], .box b2 26 [.int .i64 (s), .int .i64 (c)], .box b1 24 [.int .i64 (n), .slice A1 ws.length c1]] := hM
      refine RW.alloc hM tz24 [.int .i64 (0), .slice none 0 0] rfl rfl rfl ?_; intro b8 w hM
      refine RW.store hM 0 (.agg #[.int .i64 (n), .slice A6 ws.length c7]) [.int .i64 (n), .slice A6 ws.length c7] [.int .i64 (n), .slice A6 ws.length c7] sz24 rfl rfl rfl (oneAll ⟨rfl, rfl, trivial⟩) rfl (Nat.le_of_ble_eq_true rfl) rfl [.box b8 24 [.int .i64 (n), .slice A6 ws.length c7], .row (.slice A6 ws.length c7) 55 1 ws.length (ws.map u64), .box b3 24 [.int .i64 (0), .slice none 0 0], .box b2 26 [.int .i64 (s), .int .i64 (c)], .box b1 24 [.int .i64 (n), .slice A1 ws.length c1]] rfl rfl rfl ?_; intro w hM
      refine RW.nil ?_
      refine CW.seq ?_
      refine CW.seq ?_
      refine CW.region ?_
      refine RW.step (Ex.fieldAddr fa26_0 rfl) rfl rfl rfl ?_
      refine RW.step (Ex.load1 hM 3 to3 rfl rfl rfl) rfl rfl rfl ?_
      refine RW.step (Ex.assign (.int .i64 (s)) rfl) rfl rfl rfl ?_
      refine RW.nil ?_
      refine CW.block ?_
      refine CW.loop (β := Nat) (fun (k : Nat) σ w => (∃ τ, σ = sl [(2, .bool false), (4, .pointer (some ⟨b2, 0, none⟩)), (6, .pointer (some ⟨b3, 0, none⟩)), (7, .int .i64 (0)), (8, .pointer (some ⟨b8, 0, none⟩)), (9, .int .i64 ((k : Int)))] τ) ∧ Mem w0 H w H [.box b8 24 [.int .i64 (n), .slice A6 ws.length c7], .row (.slice A6 ws.length c7) 55 1 ws.length ((chW false ws s (k : Int)).map u64), .box b3 24 [.int .i64 (0), .slice none 0 0], .box b2 26 [.int .i64 (s), .int .i64 (c)], .box b1 24 [.int .i64 (n), .slice A1 ws.length c1]] ∧ (s ≤ (k : Int)) ∧ ((k : Int) ≤ s + c) ∧ True) (fun k => (s + c).toNat - k) (s.toNat) ⟨sl_canon ⟨rfl, rfl, rfl, rfl, rfl, (show Value.int _ _ = Value.int _ _ from congrArg (Value.int _) (by omega)), trivial⟩, (by rw [chW_none false ws (show ((s.toNat : Nat) : Int) ≤ s by omega)]; exact hM), (by omega), (by omega), trivial⟩ ?_
      rintro k _ w ⟨⟨τ, rfl⟩, hM, hk1, hk2, -⟩
      refine CW.seq ?_
      refine CW.seq ?_
      refine CW.region ?_
      refine RW.step (Ex.move (.int .i64 ((k : Int))) rfl) rfl rfl rfl ?_
      refine RW.step (Ex.fieldAddr fa26_0 rfl) rfl rfl rfl ?_
      refine RW.step (Ex.load1 hM 3 to3 rfl rfl rfl) rfl rfl rfl ?_
      refine RW.step (Ex.fieldAddr fa26_1 rfl) rfl rfl rfl ?_
      refine RW.step (Ex.load1 hM 3 to3 rfl rfl rfl) rfl rfl rfl ?_
      refine RW.step (Ex.add rfl rfl (by omega) (by omega)) rfl rfl rfl ?_
      refine RW.step (Ex.lss rfl rfl) rfl rfl rfl ?_
      refine RW.nil ?_
      refine CW.cond_dec rfl (fun hc9 => ?_) (fun hc9 => ?_)
      · -- yes: (k : Int) < (s + c)
        refine CW.skip ?_
        refine CW.seq ?_
        refine CW.block ?_
        refine CW.seq ?_
        refine CW.region ?_
        refine RW.step (Ex.move (.bool false) rfl) rfl rfl rfl ?_
        refine RW.nil ?_
        refine CW.cond_false rfl ?_
        refine CW.drawE 15 [.pointer (some ⟨b8, 1, none⟩), .slice A6 ws.length c7, .int .i64 ((k : Int)), .int .i64 ((k : Int) / 64), .pointer (some ⟨b8, 1, none⟩), .slice A6 ws.length c7, .int .i64 ((k : Int)), .int .i64 ((k : Int) / 64), elp A6 ((((k : Int) / 64).toNat) * 1 + 0), u64 ((chW false ws s (k : Int)).getD (((k : Int) / 64).toNat) 0#64), .int .i64 ((k : Int)), .int .i64 ((k : Int) % 64), .int .u64 ((k : Int) % 64), u64 ((1#64) <<< ((k : Int) % 64 : Int).toNat), u64 (((chW false ws s (k : Int)).getD (((k : Int) / 64).toNat) 0#64) &&& ~~~((1#64) <<< ((k : Int) % 64 : Int).toNat))]
          [[(8, none)], [(50, some 0)], [(9, none)], [(52, some 2)], [(8, none)], [(54, some 4)], [(9, none)], [(56, some 6)], [(55, some 5), (57, some 7)], [(58, some 8)], [(9, none)], [(60, some 10)], [(61, some 11)], [(62, some 12)], [(59, some 9), (63, some 13)]] [(2, none), (4, none), (6, none), (7, none), (8, none), (9, none), (24, none), (25, none), (26, none), (27, none), (28, none), (29, none), (30, none), (33, none), (50, some 0), (51, some 1), (52, some 2), (53, some 3), (54, some 4), (55, some 5), (56, some 6), (57, some 7), (58, some 8), (59, some 9), (60, some 10), (61, some 11), (62, some 12), (63, some 13), (64, some 14)] (by kernel_rfl) hM (by kernel_rfl) ⟨?_, ?_, ?_, ?_, ?_, ?_, ?_, ?_, ?_, ?_, ?_, ?_, ?_, ?_, ?_, trivial⟩ ?_
        · exact One.ex (fun H' τ w hled hM => Ex.fieldAddr fa24_1 rfl) rfl (fun _ => rfl) rfl
        · exact One.ex (fun H' τ w hled hM => Ex.load1 hM 0 to22 rfl rfl rfl) rfl (fun _ => rfl) rfl
        · exact One.ex (fun H' τ w hled hM => Ex.move (.int .i64 ((k : Int))) rfl) rfl (fun _ => rfl) rfl
        · exact One.ex (fun H' τ w hled hM => Ex.quo rfl rfl (by omega) (by omega) (by omega)) rfl (fun _ => rfl) rfl
        · exact One.ex (fun H' τ w hled hM => Ex.fieldAddr fa24_1 rfl) rfl (fun _ => rfl) rfl
        · exact One.ex (fun H' τ w hled hM => Ex.load1 hM 0 to22 rfl rfl rfl) rfl (fun _ => rfl) rfl
        · exact One.ex (fun H' τ w hled hM => Ex.move (.int .i64 ((k : Int))) rfl) rfl (fun _ => rfl) rfl
        · exact One.ex (fun H' τ w hled hM => Ex.quo rfl rfl (by omega) (by omega) (by omega)) rfl (fun _ => rfl) rfl
        · exact One.ex (fun H' τ w hled hM => Ex.index st22 rfl rfl (((k : Int) / 64).toNat) (hM.rowNe (k := 1) rfl (by omega)) (by omega) (by omega)) rfl (fun _ => rfl) rfl
        · exact One.ex (fun H' τ w hled hM => Ex.loadR hM 1 rfl to55 (hM.rowNe (k := 1) rfl (by omega)) rfl (getW (by first | omega | (rw [chK_length]; omega) | (rw [chW_length]; omega) | (rw [List.length_replicate]; omega) | (rw [mixK_length (by rw [List.length_zipWith, List.length_replicate]; omega)]; first | omega | (rw [List.length_replicate]; omega)) | (rw [mixK_length (by rw [List.length_zipWith]; omega)]; omega)))) rfl (fun _ => rfl) rfl
        · exact One.ex (fun H' τ w hled hM => Ex.move (.int .i64 ((k : Int))) rfl) rfl (fun _ => rfl) rfl
        · exact One.ex (fun H' τ w hled hM => Ex.rem rfl rfl (by omega) (by omega)) rfl (fun _ => rfl) rfl
        · exact One.ex (fun H' τ w hled hM => Ex.conv Tryd.underlying3 Tryd.underlying70 rfl (wrap_u64_id (by omega) (by omega))) rfl (fun _ => rfl) rfl
        · exact One.ex (fun H' τ w hled hM => Ex.shl64 (a := 1#64) (n := (k : Int) % 64) rfl rfl (by omega)) rfl (fun _ => rfl) rfl
        · exact One.ex (fun H' τ w hled hM => Ex.andNot64 (a := (chW false ws s (k : Int)).getD (((k : Int) / 64).toNat) 0#64) (b := (1#64) <<< ((k : Int) % 64 : Int).toNat) rfl rfl) rfl (fun _ => rfl) rfl
        intro τ w hM
        change RW _ _ _ _ _ _ _ _ (sl [(2, .bool false), (4, .pointer (some ⟨b2, 0, none⟩)), (6, .pointer (some ⟨b3, 0, none⟩)), (7, .int .i64 (0)), (8, .pointer (some ⟨b8, 0, none⟩)), (9, .int .i64 ((k : Int))), (24, .int .i64 ((k : Int))), (25, .pointer (some ⟨b2, 0, none⟩)), (26, .int .i64 (s)), (27, .pointer (some ⟨b2, 1, none⟩)), (28, .int .i64 (c)), (29, .int .i64 (s + c)), (30, .bool (decide ((k : Int) < (s + c)))), (33, .bool false), (50, .pointer (some ⟨b8, 1, none⟩)), (51, .slice A6 ws.length c7), (52, .int .i64 ((k : Int))), (53, .int .i64 ((k : Int) / 64)), (54, .pointer (some ⟨b8, 1, none⟩)), (55, .slice A6 ws.length c7), (56, .int .i64 ((k : Int))), (57, .int .i64 ((k : Int) / 64)), (58, elp A6 ((((k : Int) / 64).toNat) * 1 + 0)), (59, u64 ((chW false ws s (k : Int)).getD (((k : Int) / 64).toNat) 0#64)), (60, .int .i64 ((k : Int))), (61, .int .i64 ((k : Int) % 64)), (62, .int .u64 ((k : Int) % 64)), (63, u64 ((1#64) <<< ((k : Int) % 64 : Int).toNat)), (64, u64 (((chW false ws s (k : Int)).getD (((k : Int) / 64).toNat) 0#64) &&& ~~~((1#64) <<< ((k : Int) % 64 : Int).toNat)))] τ) _
        refine RW.step (Ex.index st22 rfl rfl (((k : Int) / 64).toNat) (hM.rowNe (k := 1) rfl (by omega)) (by omega) (by omega)) rfl rfl rfl ?_
        refine RW.storeR hM 1 ((((k : Int) / 64).toNat) * 1 + 0) (u64 (((chW false ws s (k : Int)).getD (((k : Int) / 64).toNat) 0#64) &&& ~~~((1#64) <<< ((k : Int) % 64 : Int).toNat))) [u64 (((chW false ws s (k : Int)).getD (((k : Int) / 64).toNat) 0#64) &&& ~~~((1#64) <<< ((k : Int) % 64 : Int).toNat))] (((chW false ws s (k : Int)).set (((k : Int) / 64).toNat) (((chW false ws s (k : Int)).getD (((k : Int) / 64).toNat) 0#64) &&& ~~~((1#64) <<< ((k : Int) % 64 : Int).toNat))).map u64) sz55 rfl (hM.rowNe (k := 1) rfl (by omega)) rfl rfl (oneAll ⟨rfl, trivial⟩) rfl (by simp only [List.length_map, List.length_cons, List.length_nil]; first | omega | (rw [chK_length]; omega) | (rw [chW_length]; omega) | (rw [List.length_replicate]; omega) | (rw [mixK_length (by rw [List.length_zipWith, List.length_replicate]; omega)]; first | omega | (rw [List.length_replicate]; omega)) | (rw [mixK_length (by rw [List.length_zipWith]; omega)]; omega)) (setW (by first | omega | (rw [chK_length]; omega) | (rw [chW_length]; omega) | (rw [List.length_replicate]; omega) | (rw [mixK_length (by rw [List.length_zipWith, List.length_replicate]; omega)]; first | omega | (rw [List.length_replicate]; omega)) | (rw [mixK_length (by rw [List.length_zipWith]; omega)]; omega))) [.box b8 24 [.int .i64 (n), .slice A6 ws.length c7], .row (.slice A6 ws.length c7) 55 1 ws.length (((chW false ws s (k : Int)).set (((k : Int) / 64).toNat) (((chW false ws s (k : Int)).getD (((k : Int) / 64).toNat) 0#64) &&& ~~~((1#64) <<< ((k : Int) % 64 : Int).toNat))).map u64), .box b3 24 [.int .i64 (0), .slice none 0 0], .box b2 26 [.int .i64 (s), .int .i64 (c)], .box b1 24 [.int .i64 (n), .slice A1 ws.length c1]] rfl rfl rfl ?_; intro w hM
        refine RW.nil ?_
        refine CW.region ?_
        refine RW.step (Ex.move (.int .i64 ((k : Int))) rfl) rfl rfl rfl ?_
        refine RW.step (Ex.add rfl rfl (by omega) (by omega)) rfl rfl rfl ?_
        refine RW.step (Ex.assign (.int .i64 ((k : Int) + 1)) rfl) rfl rfl rfl ?_
        refine RW.nil ?_
        refine And.intro rfl (Exists.intro (k + 1) (And.intro ⟨sl_canon ⟨rfl, rfl, rfl, rfl, rfl, (show Value.int _ _ = Value.int _ _ from congrArg (Value.int _) (by omega)), trivial⟩, (by rw [← chW_step2 false ws s (k := k) (by omega) (by omega) (by omega) rfl]; exact hM), (by omega), (by omega), trivial⟩ (by omega)))
      · -- no: (k : Int) < (s + c)
        refine CW.exit ?_
        refine CW.seq ?_
        refine CW.region ?_
        refine RW.step (Ex.loadA hM 0 [.int .i64 (n), .slice A6 ws.length c7] ta24 rfl rfl rfl rfl) rfl rfl rfl ?_
        refine RW.store hM 2 (.agg #[.int .i64 (n), .slice A6 ws.length c7]) [.int .i64 (n), .slice A6 ws.length c7] [.int .i64 (n), .slice A6 ws.length c7] sz24 rfl rfl rfl (oneAll ⟨rfl, rfl, trivial⟩) rfl (Nat.le_of_ble_eq_true rfl) rfl [.box b8 24 [.int .i64 (n), .slice A6 ws.length c7], .row (.slice A6 ws.length c7) 55 1 ws.length ((chW false ws s (k : Int)).map u64), .box b3 24 [.int .i64 (n), .slice A6 ws.length c7], .box b2 26 [.int .i64 (s), .int .i64 (c)], .box b1 24 [.int .i64 (n), .slice A1 ws.length c1]] rfl rfl rfl ?_; intro w hM
        refine RW.step (Ex.assign (.int .i64 (0)) rfl) rfl rfl rfl ?_
        refine RW.nil ?_
        refine CW.ret ?_
        refine end_cell_tmp (k := 2) (.inl rfl) rfl hM rfl (.int .i64 (0)) rfl ta24 [.int .i64 (n), .slice A6 ws.length c7] rfl rfl ?_
        obtain ⟨H9, hM9, hle9, hr9⟩ := hM.giveRow (k := 1) rfl
        exact ⟨_, _, hM9, BRv.ok (by rw [show ((k : Nat) : Int) = s + c by omega]; exact chR_ok hc4 hf) (chW_length false ws s (k : Int)).symm hr9⟩

theorem set_ret (H : Hp) (A1 : Option Addr) (n : Int) (c1 : Nat) (ws : List (BitVec 64)) (hr1 : RdC H A1 ws.length c1 1 (ws.map u64)) (s c : Int) : Ret Tryd.prog 13 #[.agg #[.int .i64 n, .slice A1 ws.length c1], .agg #[.int .i64 s, .int .i64 c]] H (BRv (chR true n ws s c)) := by
  have hL := hr1.2.2.1
  have hL1 := hr1.2.1
  unfold maxLen at hL
  refine Ret.of_code Tryd.func13 rfl (Nat.le_of_ble_eq_true rfl) fun w0 hM => ?_
  refine CW.seq ?_
  refine CW.region ?_
  refine RW.box hM (.agg #[.int .i64 (n), .slice A1 ws.length c1]) [.int .i64 (n), .slice A1 ws.length c1] rfl rfl rfl rfl ?_; intro b1 w hM
  refine RW.box hM (.agg #[.int .i64 (s), .int .i64 (c)]) [.int .i64 (s), .int .i64 (c)] rfl rfl rfl rfl ?_; intro b2 w hM
  refine RW.alloc hM tz24 [.int .i64 (0), .slice none 0 0] rfl rfl rfl ?_; intro b3 w hM
  refine RW.step (Ex.assign (.int .i64 (0)) rfl) rfl rfl rfl ?_
  refine RW.nil ?_
  refine CW.seq ?_
  refine CW.region ?_
  refine RW.step (Ex.build bs58 [(0, .func (.func 39) #[] #[])] [.func (.func 39) #[] #[]] rfl rfl) rfl rfl rfl ?_
  refine RW.step (Ex.loadA hM 2 [.int .i64 (n), .slice A1 ws.length c1] ta24 rfl rfl rfl rfl) rfl rfl rfl ?_
  refine RW.step (Ex.loadA hM 1 [.int .i64 (s), .int .i64 (c)] ta26 rfl rfl rfl rfl) rfl rfl rfl ?_
  refine RW.call hM (apply_set_ret _ _ n _ ws hr1 s c) en40 rfl rfl rfl rfl ?_; rintro _ w H4 hle5 ⟨A6, c7, rfl, hr8⟩ hM
  refine RW.step (Ex.extract rfl rfl) rfl rfl rfl ?_
  refine RW.step (Ex.extract rfl rfl) rfl rfl rfl ?_
  refine RW.store hM 0 (.agg #[.int .i64 ((chR true n ws s c).n), .slice A6 ((chR true n ws s c).ws.length) c7]) [.int .i64 ((chR true n ws s c).n), .slice A6 ((chR true n ws s c).ws.length) c7] [.int .i64 ((chR true n ws s c).n), .slice A6 ((chR true n ws s c).ws.length) c7] sz24 rfl rfl rfl (oneAll ⟨rfl, rfl, trivial⟩) rfl (Nat.le_of_ble_eq_true rfl) rfl [.box b3 24 [.int .i64 ((chR true n ws s c).n), .slice A6 ((chR true n ws s c).ws.length) c7], .box b2 26 [.int .i64 (s), .int .i64 (c)], .box b1 24 [.int .i64 (n), .slice A1 ws.length c1]] rfl rfl rfl ?_; intro w hM
  refine RW.step (Ex.assign (.int .i64 ((chR true n ws s c).e)) rfl) rfl rfl rfl ?_
  refine RW.nil ?_
  refine CW.ret ?_
  refine end_cell_tmp (k := 0) (.inl rfl) rfl hM rfl (.int .i64 ((chR true n ws s c).e)) rfl ta24 [.int .i64 ((chR true n ws s c).n), .slice A6 ((chR true n ws s c).ws.length) c7] rfl rfl ?_
  exact ⟨_, _, hM, BRv.same rfl rfl hr8⟩

theorem clear_ret (H : Hp) (A1 : Option Addr) (n : Int) (c1 : Nat) (ws : List (BitVec 64)) (hr1 : RdC H A1 ws.length c1 1 (ws.map u64)) (s c : Int) : Ret Tryd.prog 15 #[.agg #[.int .i64 n, .slice A1 ws.length c1], .agg #[.int .i64 s, .int .i64 c]] H (BRv (chR false n ws s c)) := by
  have hL := hr1.2.2.1
  have hL1 := hr1.2.1
  unfold maxLen at hL
  refine Ret.of_code Tryd.func15 rfl (Nat.le_of_ble_eq_true rfl) fun w0 hM => ?_
  refine CW.seq ?_
  refine CW.region ?_
  refine RW.box hM (.agg #[.int .i64 (n), .slice A1 ws.length c1]) [.int .i64 (n), .slice A1 ws.length c1] rfl rfl rfl rfl ?_; intro b1 w hM
  refine RW.box hM (.agg #[.int .i64 (s), .int .i64 (c)]) [.int .i64 (s), .int .i64 (c)] rfl rfl rfl rfl ?_; intro b2 w hM
  refine RW.alloc hM tz24 [.int .i64 (0), .slice none 0 0] rfl rfl rfl ?_; intro b3 w hM
  refine RW.step (Ex.assign (.int .i64 (0)) rfl) rfl rfl rfl ?_
  refine RW.nil ?_
  refine CW.seq ?_
  refine CW.region ?_
  refine RW.step (Ex.build bs58 [(0, .func (.func 42) #[] #[])] [.func (.func 42) #[] #[]] rfl rfl) rfl rfl rfl ?_
  refine RW.step (Ex.loadA hM 2 [.int .i64 (n), .slice A1 ws.length c1] ta24 rfl rfl rfl rfl) rfl rfl rfl ?_
  refine RW.step (Ex.loadA hM 1 [.int .i64 (s), .int .i64 (c)] ta26 rfl rfl rfl rfl) rfl rfl rfl ?_
  refine RW.call hM (apply_clear_ret _ _ n _ ws hr1 s c) en40 rfl rfl rfl rfl ?_; rintro _ w H4 hle5 ⟨A6, c7, rfl, hr8⟩ hM
  refine RW.step (Ex.extract rfl rfl) rfl rfl rfl ?_
  refine RW.step (Ex.extract rfl rfl) rfl rfl rfl ?_
  refine RW.store hM 0 (.agg #[.int .i64 ((chR false n ws s c).n), .slice A6 ((chR false n ws s c).ws.length) c7]) [.int .i64 ((chR false n ws s c).n), .slice A6 ((chR false n ws s c).ws.length) c7] [.int .i64 ((chR false n ws s c).n), .slice A6 ((chR false n ws s c).ws.length) c7] sz24 rfl rfl rfl (oneAll ⟨rfl, rfl, trivial⟩) rfl (Nat.le_of_ble_eq_true rfl) rfl [.box b3 24 [.int .i64 ((chR false n ws s c).n), .slice A6 ((chR false n ws s c).ws.length) c7], .box b2 26 [.int .i64 (s), .int .i64 (c)], .box b1 24 [.int .i64 (n), .slice A1 ws.length c1]] rfl rfl rfl ?_; intro w hM
  refine RW.step (Ex.assign (.int .i64 ((chR false n ws s c).e)) rfl) rfl rfl rfl ?_
  refine RW.nil ?_
  refine CW.ret ?_
  refine end_cell_tmp (k := 0) (.inl rfl) rfl hM rfl (.int .i64 ((chR false n ws s c).e)) rfl ta24 [.int .i64 ((chR false n ws s c).n), .slice A6 ((chR false n ws s c).ws.length) c7] rfl rfl ?_
  exact ⟨_, _, hM, BRv.same rfl rfl hr8⟩

theorem rset_ret (H : Hp) (A1 : Option Addr) (n : Int) (c1 : Nat) (ws : List (BitVec 64)) (hr1 : RdC H A1 ws.length c1 1 (ws.map u64)) (s c : Int) : Ret Tryd.prog 14 #[.agg #[.int .i64 n, .slice A1 ws.length c1], .agg #[.int .i64 s, .int .i64 c]] H (BRv (chR true n ws s c)) := by
  have hL := hr1.2.2.1
  have hL1 := hr1.2.1
  unfold maxLen at hL
  refine Ret.of_code Tryd.func14 rfl (Nat.le_of_ble_eq_true rfl) fun w0 hM => ?_
  refine CW.seq ?_
  refine CW.region ?_
  refine RW.box hM (.agg #[.int .i64 (n), .slice A1 ws.length c1]) [.int .i64 (n), .slice A1 ws.length c1] rfl rfl rfl rfl ?_; intro b1 w hM
  refine RW.box hM (.agg #[.int .i64 (s), .int .i64 (c)]) [.int .i64 (s), .int .i64 (c)] rfl rfl rfl rfl ?_; intro b2 w hM
  refine RW.alloc hM tz24 [.int .i64 (0), .slice none 0 0] rfl rfl rfl ?_; intro b3 w hM
  refine RW.step (Ex.assign (.int .i64 (0)) rfl) rfl rfl rfl ?_
  refine RW.nil ?_
  refine CW.seq ?_
  refine CW.region ?_
  refine RW.step (Ex.loadA hM 2 [.int .i64 (n), .slice A1 ws.length c1] ta24 rfl rfl rfl rfl) rfl rfl rfl ?_
  refine RW.step (Ex.loadA hM 1 [.int .i64 (s), .int .i64 (c)] ta26 rfl rfl rfl rfl) rfl rfl rfl ?_
  refine RW.call hM (rchange_set_ret _ _ n _ ws hr1 s c) en41 rfl rfl rfl rfl ?_; rintro _ w H4 hle5 ⟨A6, c7, rfl, hr8⟩ hM
  refine RW.step (Ex.extract rfl rfl) rfl rfl rfl ?_
  refine RW.step (Ex.extract rfl rfl) rfl rfl rfl ?_
  refine RW.store hM 0 (.agg #[.int .i64 ((chR true n ws s c).n), .slice A6 ((chR true n ws s c).ws.length) c7]) [.int .i64 ((chR true n ws s c).n), .slice A6 ((chR true n ws s c).ws.length) c7] [.int .i64 ((chR true n ws s c).n), .slice A6 ((chR true n ws s c).ws.length) c7] sz24 rfl rfl rfl (oneAll ⟨rfl, rfl, trivial⟩) rfl (Nat.le_of_ble_eq_true rfl) rfl [.box b3 24 [.int .i64 ((chR true n ws s c).n), .slice A6 ((chR true n ws s c).ws.length) c7], .box b2 26 [.int .i64 (s), .int .i64 (c)], .box b1 24 [.int .i64 (n), .slice A1 ws.length c1]] rfl rfl rfl ?_; intro w hM
  refine RW.step (Ex.assign (.int .i64 ((chR true n ws s c).e)) rfl) rfl rfl rfl ?_
  refine RW.nil ?_
  refine CW.ret ?_
  refine end_cell_tmp (k := 0) (.inl rfl) rfl hM rfl (.int .i64 ((chR true n ws s c).e)) rfl ta24 [.int .i64 ((chR true n ws s c).n), .slice A6 ((chR true n ws s c).ws.length) c7] rfl rfl ?_
  exact ⟨_, _, hM, BRv.same rfl rfl hr8⟩

theorem rclear_ret (H : Hp) (A1 : Option Addr) (n : Int) (c1 : Nat) (ws : List (BitVec 64)) (hr1 : RdC H A1 ws.length c1 1 (ws.map u64)) (s c : Int) : Ret Tryd.prog 16 #[.agg #[.int .i64 n, .slice A1 ws.length c1], .agg #[.int .i64 s, .int .i64 c]] H (BRv (chR false n ws s c)) := by
  have hL := hr1.2.2.1
  have hL1 := hr1.2.1
  unfold maxLen at hL
  refine Ret.of_code Tryd.func16 rfl (Nat.le_of_ble_eq_true rfl) fun w0 hM => ?_
  refine CW.seq ?_
  refine CW.region ?_
  refine RW.box hM (.agg #[.int .i64 (n), .slice A1 ws.length c1]) [.int .i64 (n), .slice A1 ws.length c1] rfl rfl rfl rfl ?_; intro b1 w hM
  refine RW.box hM (.agg #[.int .i64 (s), .int .i64 (c)]) [.int .i64 (s), .int .i64 (c)] rfl rfl rfl rfl ?_; intro b2 w hM
  refine RW.alloc hM tz24 [.int .i64 (0), .slice none 0 0] rfl rfl rfl ?_; intro b3 w hM
  refine RW.step (Ex.assign (.int .i64 (0)) rfl) rfl rfl rfl ?_
  refine RW.nil ?_
  refine CW.seq ?_
  refine CW.region ?_
  refine RW.step (Ex.loadA hM 2 [.int .i64 (n), .slice A1 ws.length c1] ta24 rfl rfl rfl rfl) rfl rfl rfl ?_
  refine RW.step (Ex.loadA hM 1 [.int .i64 (s), .int .i64 (c)] ta26 rfl rfl rfl rfl) rfl rfl rfl ?_
  refine RW.call hM (rchange_clear_ret _ _ n _ ws hr1 s c) en41 rfl rfl rfl rfl ?_; rintro _ w H4 hle5 ⟨A6, c7, rfl, hr8⟩ hM
  refine RW.step (Ex.extract rfl rfl) rfl rfl rfl ?_
  refine RW.step (Ex.extract rfl rfl) rfl rfl rfl ?_
  refine RW.store hM 0 (.agg #[.int .i64 ((chR false n ws s c).n), .slice A6 ((chR false n ws s c).ws.length) c7]) [.int .i64 ((chR false n ws s c).n), .slice A6 ((chR false n ws s c).ws.length) c7] [.int .i64 ((chR false n ws s c).n), .slice A6 ((chR false n ws s c).ws.length) c7] sz24 rfl rfl rfl (oneAll ⟨rfl, rfl, trivial⟩) rfl (Nat.le_of_ble_eq_true rfl) rfl [.box b3 24 [.int .i64 ((chR false n ws s c).n), .slice A6 ((chR false n ws s c).ws.length) c7], .box b2 26 [.int .i64 (s), .int .i64 (c)], .box b1 24 [.int .i64 (n), .slice A1 ws.length c1]] rfl rfl rfl ?_; intro w hM
  refine RW.step (Ex.assign (.int .i64 ((chR false n ws s c).e)) rfl) rfl rfl rfl ?_
  refine RW.nil ?_
  refine CW.ret ?_
  refine end_cell_tmp (k := 0) (.inl rfl) rfl hM rfl (.int .i64 ((chR false n ws s c).e)) rfl ta24 [.int .i64 ((chR false n ws s c).n), .slice A6 ((chR false n ws s c).ws.length) c7] rfl rfl ?_
  exact ⟨_, _, hM, BRv.same rfl rfl hr8⟩

end Go.Proofs.YtackllehpecfgaaDoor
