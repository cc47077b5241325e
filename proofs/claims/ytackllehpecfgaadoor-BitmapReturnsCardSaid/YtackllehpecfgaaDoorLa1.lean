/- the statements on bitmaps that hold them against the reference -/
import Derived.Test.YtackllehpecfgaaDoorBm8
namespace Go.Proofs.YtackllehpecfgaaDoor
open Go.RowKit

theorem awake_ret (H : Hp) (hT : TabH H 0) : RetV Tryd.prog 12 #[] H (.bool true) := by
  have hlen : (chR true (newR 70).n (newR 70).ws 60 8).ws.length = 2 := by decide +kernel
  refine Ret.of_code Tryd.func12 rfl (Nat.le_of_ble_eq_true rfl) fun w0 hM => ?_
  refine CW.seq ?_
  refine CW.region ?_
  refine RW.step (Ex.assign (.bool false) rfl) rfl rfl rfl ?_
  refine RW.nil ?_
  refine CW.seq ?_
  refine CW.region ?_
  refine RW.call hM (new_ret _ 70) en18 rfl rfl rfl rfl ?_; rintro _ w H1 hle2 ⟨A3, c4, rfl, hr5⟩ hM
  refine RW.step (Ex.move (.tuple #[.agg #[.int .i64 ((newR 70).n), .slice A3 ((newR 70).ws.length) c4], .int .i64 ((newR 70).e)]) rfl) rfl rfl rfl ?_
  refine RW.step (Ex.extract rfl rfl) rfl rfl rfl ?_
  refine RW.step (Ex.extract rfl rfl) rfl rfl rfl ?_
  refine RW.alloc hM tz24 [.int .i64 (0), .slice none 0 0] rfl rfl rfl ?_; intro b6 w hM
  refine RW.store hM 0 (.agg #[.int .i64 ((newR 70).n), .slice A3 ((newR 70).ws.length) c4]) [.int .i64 ((newR 70).n), .slice A3 ((newR 70).ws.length) c4] [.int .i64 ((newR 70).n), .slice A3 ((newR 70).ws.length) c4] sz24 rfl rfl rfl (oneAll ⟨rfl, rfl, trivial⟩) rfl (Nat.le_of_ble_eq_true rfl) rfl [.box b6 24 [.int .i64 ((newR 70).n), .slice A3 ((newR 70).ws.length) c4]] rfl rfl rfl ?_; intro w hM
  refine RW.step (Ex.assign (.int .i64 ((newR 70).e)) rfl) rfl rfl rfl ?_
  refine RW.nil ?_
  refine CW.seq ?_
  refine CW.region ?_
  refine RW.step (Ex.loadA hM 0 [.int .i64 ((newR 70).n), .slice A3 ((newR 70).ws.length) c4] ta24 rfl rfl rfl rfl) rfl rfl rfl ?_
  refine RW.step (Ex.build bs26 [(0, .int .i64 (60)), (1, .int .i64 (8))] [.int .i64 (60), .int .i64 (8)] rfl rfl) rfl rfl rfl ?_
  refine RW.call hM (set_ret _ _ ((newR 70).n) _ ((newR 70).ws) hr5 60 8) en13 rfl rfl rfl rfl ?_; rintro _ w H7 hle8 ⟨A9, c10, rfl, hr11⟩ hM
  refine RW.step (Ex.move (.tuple #[.agg #[.int .i64 ((chR true ((newR 70).n) ((newR 70).ws) 60 8).n), .slice A9 ((chR true ((newR 70).n) ((newR 70).ws) 60 8).ws.length) c10], .int .i64 ((chR true ((newR 70).n) ((newR 70).ws) 60 8).e)]) rfl) rfl rfl rfl ?_
  refine RW.step (Ex.extract rfl rfl) rfl rfl rfl ?_
  refine RW.step (Ex.extract rfl rfl) rfl rfl rfl ?_
  refine RW.alloc hM tz24 [.int .i64 (0), .slice none 0 0] rfl rfl rfl ?_; intro b12 w hM
  refine RW.store hM 0 (.agg #[.int .i64 ((chR true ((newR 70).n) ((newR 70).ws) 60 8).n), .slice A9 ((chR true ((newR 70).n) ((newR 70).ws) 60 8).ws.length) c10]) [.int .i64 ((chR true ((newR 70).n) ((newR 70).ws) 60 8).n), .slice A9 ((chR true ((newR 70).n) ((newR 70).ws) 60 8).ws.length) c10] [.int .i64 ((chR true ((newR 70).n) ((newR 70).ws) 60 8).n), .slice A9 ((chR true ((newR 70).n) ((newR 70).ws) 60 8).ws.length) c10] sz24 rfl rfl rfl (oneAll ⟨rfl, rfl, trivial⟩) rfl (Nat.le_of_ble_eq_true rfl) rfl [.box b12 24 [.int .i64 ((chR true ((newR 70).n) ((newR 70).ws) 60 8).n), .slice A9 ((chR true ((newR 70).n) ((newR 70).ws) 60 8).ws.length) c10], .box b6 24 [.int .i64 ((newR 70).n), .slice A3 ((newR 70).ws.length) c4]] rfl rfl rfl ?_; intro w hM
  refine RW.step (Ex.assign (.int .i64 ((chR true ((newR 70).n) ((newR 70).ws) 60 8).e)) rfl) rfl rfl rfl ?_
  refine RW.nil ?_
  refine CW.seq ?_
  refine CW.region ?_
  refine RW.step (Ex.loadA hM 0 [.int .i64 ((chR true ((newR 70).n) ((newR 70).ws) 60 8).n), .slice A9 ((chR true ((newR 70).n) ((newR 70).ws) 60 8).ws.length) c10] ta24 rfl rfl rfl rfl) rfl rfl rfl ?_
  refine RW.step (Ex.build bs26 [(0, .int .i64 (62)), (1, .int .i64 (2))] [.int .i64 (62), .int .i64 (2)] rfl rfl) rfl rfl rfl ?_
  refine RW.call hM (clear_ret _ _ ((chR true ((newR 70).n) ((newR 70).ws) 60 8).n) _ ((chR true ((newR 70).n) ((newR 70).ws) 60 8).ws) hr11 62 2) en15 rfl rfl rfl rfl ?_; rintro _ w H13 hle14 ⟨A15, c16, rfl, hr17⟩ hM
  refine RW.step (Ex.move (.tuple #[.agg #[.int .i64 ((chR false ((chR true ((newR 70).n) ((newR 70).ws) 60 8).n) ((chR true ((newR 70).n) ((newR 70).ws) 60 8).ws) 62 2).n), .slice A15 ((chR false ((chR true ((newR 70).n) ((newR 70).ws) 60 8).n) ((chR true ((newR 70).n) ((newR 70).ws) 60 8).ws) 62 2).ws.length) c16], .int .i64 ((chR false ((chR true ((newR 70).n) ((newR 70).ws) 60 8).n) ((chR true ((newR 70).n) ((newR 70).ws) 60 8).ws) 62 2).e)]) rfl) rfl rfl rfl ?_
  refine RW.step (Ex.extract rfl rfl) rfl rfl rfl ?_
  refine RW.step (Ex.extract rfl rfl) rfl rfl rfl ?_
  refine RW.alloc hM tz24 [.int .i64 (0), .slice none 0 0] rfl rfl rfl ?_; intro b18 w hM
  refine RW.store hM 0 (.agg #[.int .i64 ((chR false ((chR true ((newR 70).n) ((newR 70).ws) 60 8).n) ((chR true ((newR 70).n) ((newR 70).ws) 60 8).ws) 62 2).n), .slice A15 ((chR false ((chR true ((newR 70).n) ((newR 70).ws) 60 8).n) ((chR true ((newR 70).n) ((newR 70).ws) 60 8).ws) 62 2).ws.length) c16]) [.int .i64 ((chR false ((chR true ((newR 70).n) ((newR 70).ws) 60 8).n) ((chR true ((newR 70).n) ((newR 70).ws) 60 8).ws) 62 2).n), .slice A15 ((chR false ((chR true ((newR 70).n) ((newR 70).ws) 60 8).n) ((chR true ((newR 70).n) ((newR 70).ws) 60 8).ws) 62 2).ws.length) c16] [.int .i64 ((chR false ((chR true ((newR 70).n) ((newR 70).ws) 60 8).n) ((chR true ((newR 70).n) ((newR 70).ws) 60 8).ws) 62 2).n), .slice A15 ((chR false ((chR true ((newR 70).n) ((newR 70).ws) 60 8).n) ((chR true ((newR 70).n) ((newR 70).ws) 60 8).ws) 62 2).ws.length) c16] sz24 rfl rfl rfl (oneAll ⟨rfl, rfl, trivial⟩) rfl (Nat.le_of_ble_eq_true rfl) rfl [.box b18 24 [.int .i64 ((chR false ((chR true ((newR 70).n) ((newR 70).ws) 60 8).n) ((chR true ((newR 70).n) ((newR 70).ws) 60 8).ws) 62 2).n), .slice A15 ((chR false ((chR true ((newR 70).n) ((newR 70).ws) 60 8).n) ((chR true ((newR 70).n) ((newR 70).ws) 60 8).ws) 62 2).ws.length) c16], .box b12 24 [.int .i64 ((chR true ((newR 70).n) ((newR 70).ws) 60 8).n), .slice A9 ((chR true ((newR 70).n) ((newR 70).ws) 60 8).ws.length) c10], .box b6 24 [.int .i64 ((newR 70).n), .slice A3 ((newR 70).ws.length) c4]] rfl rfl rfl ?_; intro w hM
  refine RW.step (Ex.assign (.int .i64 ((chR false ((chR true ((newR 70).n) ((newR 70).ws) 60 8).n) ((chR true ((newR 70).n) ((newR 70).ws) 60 8).ws) 62 2).e)) rfl) rfl rfl rfl ?_
  refine RW.nil ?_
  refine CW.seq ?_
  refine CW.region ?_
  refine RW.step (Ex.loadA hM 2 [.int .i64 ((newR 70).n), .slice A3 ((newR 70).ws.length) c4] ta24 rfl rfl rfl rfl) rfl rfl rfl ?_
  refine RW.step (Ex.build bs26 [(0, .int .i64 (69)), (1, .int .i64 (2))] [.int .i64 (69), .int .i64 (2)] rfl rfl) rfl rfl rfl ?_
  refine RW.call hM (set_ret _ _ ((newR 70).n) _ ((newR 70).ws) (hr5.mono (hle8.trans hle14)) 69 2) en13 rfl rfl rfl rfl ?_; rintro _ w H19 hle20 ⟨A21, c22, rfl, hr23⟩ hM
  refine RW.step (Ex.move (.tuple #[.agg #[.int .i64 ((chR true ((newR 70).n) ((newR 70).ws) 69 2).n), .slice A21 ((chR true ((newR 70).n) ((newR 70).ws) 69 2).ws.length) c22], .int .i64 ((chR true ((newR 70).n) ((newR 70).ws) 69 2).e)]) rfl) rfl rfl rfl ?_
  refine RW.step (Ex.extract rfl rfl) rfl rfl rfl ?_
  refine RW.step (Ex.extract rfl rfl) rfl rfl rfl ?_
  refine RW.alloc hM tz24 [.int .i64 (0), .slice none 0 0] rfl rfl rfl ?_; intro b24 w hM
  refine RW.store hM 0 (.agg #[.int .i64 ((chR true ((newR 70).n) ((newR 70).ws) 69 2).n), .slice A21 ((chR true ((newR 70).n) ((newR 70).ws) 69 2).ws.length) c22]) [.int .i64 ((chR true ((newR 70).n) ((newR 70).ws) 69 2).n), .slice A21 ((chR true ((newR 70).n) ((newR 70).ws) 69 2).ws.length) c22] [.int .i64 ((chR true ((newR 70).n) ((newR 70).ws) 69 2).n), .slice A21 ((chR true ((newR 70).n) ((newR 70).ws) 69 2).ws.length) c22] sz24 rfl rfl rfl (oneAll ⟨rfl, rfl, trivial⟩) rfl (Nat.le_of_ble_eq_true rfl) rfl [.box b24 24 [.int .i64 ((chR true ((newR 70).n) ((newR 70).ws) 69 2).n), .slice A21 ((chR true ((newR 70).n) ((newR 70).ws) 69 2).ws.length) c22], .box b18 24 [.int .i64 ((chR false ((chR true ((newR 70).n) ((newR 70).ws) 60 8).n) ((chR true ((newR 70).n) ((newR 70).ws) 60 8).ws) 62 2).n), .slice A15 ((chR false ((chR true ((newR 70).n) ((newR 70).ws) 60 8).n) ((chR true ((newR 70).n) ((newR 70).ws) 60 8).ws) 62 2).ws.length) c16], .box b12 24 [.int .i64 ((chR true ((newR 70).n) ((newR 70).ws) 60 8).n), .slice A9 ((chR true ((newR 70).n) ((newR 70).ws) 60 8).ws.length) c10], .box b6 24 [.int .i64 ((newR 70).n), .slice A3 ((newR 70).ws.length) c4]] rfl rfl rfl ?_; intro w hM
  refine RW.step (Ex.assign (.int .i64 ((chR true ((newR 70).n) ((newR 70).ws) 69 2).e)) rfl) rfl rfl rfl ?_
  refine RW.nil ?_
  refine CW.seq ?_
  refine CW.seq ?_
  refine CW.region ?_
  refine RW.step (Ex.move (.int .i64 ((newR 70).e)) rfl) rfl rfl rfl ?_
  refine RW.step (Ex.no (Ex.neq rfl rfl) (by decide +kernel)) rfl rfl rfl ?_
  refine RW.step (Ex.move (.bool false) rfl) rfl rfl rfl ?_
  refine RW.step (Ex.move (.int .i64 ((chR true ((newR 70).n) ((newR 70).ws) 60 8).e)) rfl) rfl rfl rfl ?_
  refine RW.step (Ex.no (Ex.neq rfl rfl) (by decide +kernel)) rfl rfl rfl ?_
  refine RW.step (Ex.pickF (.bool false) rfl rfl) rfl rfl rfl ?_
  refine RW.step (Ex.move (.bool false) rfl) rfl rfl rfl ?_
  refine RW.step (Ex.move (.int .i64 ((chR false ((chR true ((newR 70).n) ((newR 70).ws) 60 8).n) ((chR true ((newR 70).n) ((newR 70).ws) 60 8).ws) 62 2).e)) rfl) rfl rfl rfl ?_
  refine RW.step (Ex.no (Ex.neq rfl rfl) (by decide +kernel)) rfl rfl rfl ?_
  refine RW.step (Ex.pickF (.bool false) rfl rfl) rfl rfl rfl ?_
  refine RW.step (Ex.move (.bool false) rfl) rfl rfl rfl ?_
  refine RW.step (Ex.move (.int .i64 ((chR true ((newR 70).n) ((newR 70).ws) 69 2).e)) rfl) rfl rfl rfl ?_
  refine RW.step (Ex.no (Ex.neq rfl rfl) (by decide +kernel)) rfl rfl rfl ?_
  refine RW.step (Ex.pickF (.bool false) rfl rfl) rfl rfl rfl ?_
  refine RW.step (Ex.move (.bool false) rfl) rfl rfl rfl ?_
  refine RW.step (Ex.fieldAddr fa24_1 rfl) rfl rfl rfl ?_
  refine RW.step (Ex.load1 hM 2 to22 rfl rfl rfl) rfl rfl rfl ?_
  refine RW.step (Ex.len st22.1 rfl) rfl rfl rfl ?_
  refine RW.step (Ex.no (Ex.neq rfl rfl) (by decide +kernel)) rfl rfl rfl ?_
  refine RW.step (Ex.pickF (.bool false) rfl rfl) rfl rfl rfl ?_
  refine RW.nil ?_
  refine CW.cond_false rfl ?_
  refine CW.skip ?_
  refine CW.seq ?_
  refine CW.region ?_
  refine RW.step (Ex.loadA hM 1 [.int .i64 ((chR false ((chR true ((newR 70).n) ((newR 70).ws) 60 8).n) ((chR true ((newR 70).n) ((newR 70).ws) 60 8).ws) 62 2).n), .slice A15 ((chR false ((chR true ((newR 70).n) ((newR 70).ws) 60 8).n) ((chR true ((newR 70).n) ((newR 70).ws) 60 8).ws) 62 2).ws.length) c16] ta24 rfl rfl rfl rfl) rfl rfl rfl ?_
  refine RW.call hM (exts_ret _ _ ((chR false ((chR true ((newR 70).n) ((newR 70).ws) 60 8).n) ((chR true ((newR 70).n) ((newR 70).ws) 60 8).ws) 62 2).n) _ ((chR false ((chR true ((newR 70).n) ((newR 70).ws) 60 8).n) ((chR true ((newR 70).n) ((newR 70).ws) 60 8).ws) 62 2).ws) (hr17.mono hle20) (hT.mono (((hle2.trans hle8).trans hle14).trans hle20))) en31 rfl rfl rfl rfl ?_; rintro _ w H25 hle26 ⟨A27, c28, rfl, hr29⟩ hM
  refine RW.step (Ex.assign (.slice A27 ((extR ((chR false ((chR true ((newR 70).n) ((newR 70).ws) 60 8).n) ((chR true ((newR 70).n) ((newR 70).ws) 60 8).ws) 62 2).n) ((chR false ((chR true ((newR 70).n) ((newR 70).ws) 60 8).n) ((chR true ((newR 70).n) ((newR 70).ws) 60 8).ws) 62 2).ws)).length) c28) rfl) rfl rfl rfl ?_
  refine RW.nil ?_
  refine CW.seq ?_
  refine CW.region ?_
  refine RW.step (Ex.fieldAddr fa24_1 rfl) rfl rfl rfl ?_
  refine RW.step (Ex.load1 hM 2 to22 rfl rfl rfl) rfl rfl rfl ?_
  refine RW.step (Ex.index st22 rfl rfl 0 (hr11.ne (by omega)) (by omega) (by omega)) rfl rfl rfl ?_
  refine RW.step (Ex.loadE hM ((hle14.trans hle20).trans hle26) hr11 to55 rfl (getW (by omega))) rfl rfl rfl ?_
  refine RW.step (Ex.yes (Ex.eql64 (a := ((chR true ((newR 70).n) ((newR 70).ws) 60 8).ws).getD 0 0#64) (b := 17293822569102704640#64) rfl rfl) (by decide +kernel)) rfl rfl rfl ?_
  refine RW.step (Ex.move (.bool true) rfl) rfl rfl rfl ?_
  refine RW.step (Ex.fieldAddr fa24_1 rfl) rfl rfl rfl ?_
  refine RW.step (Ex.load1 hM 2 to22 rfl rfl rfl) rfl rfl rfl ?_
  refine RW.step (Ex.index st22 rfl rfl 1 (hr11.ne (by omega)) (by omega) (by omega)) rfl rfl rfl ?_
  refine RW.step (Ex.loadE hM ((hle14.trans hle20).trans hle26) hr11 to55 rfl (getW (by omega))) rfl rfl rfl ?_
  refine RW.step (Ex.yes (Ex.eql64 (a := ((chR true ((newR 70).n) ((newR 70).ws) 60 8).ws).getD 1 0#64) (b := 15#64) rfl rfl) (by decide +kernel)) rfl rfl rfl ?_
  refine RW.step (Ex.pickT (.bool true) rfl rfl) rfl rfl rfl ?_
  refine RW.step (Ex.move (.bool true) rfl) rfl rfl rfl ?_
  refine RW.step (Ex.loadA hM 2 [.int .i64 ((chR true ((newR 70).n) ((newR 70).ws) 60 8).n), .slice A9 ((chR true ((newR 70).n) ((newR 70).ws) 60 8).ws.length) c10] ta24 rfl rfl rfl rfl) rfl rfl rfl ?_
  refine RW.callV hM (next_ret _ _ ((chR true ((newR 70).n) ((newR 70).ws) 60 8).n) _ ((chR true ((newR 70).n) ((newR 70).ws) 60 8).ws) (hr11.mono ((hle14.trans hle20).trans hle26)) 0 (by omega) (hT.mono ((((hle2.trans hle8).trans hle14).trans hle20).trans hle26))) en26 rfl rfl rfl rfl ?_; intro w hM
  refine RW.step (Ex.yes (Ex.eql rfl rfl) (by decide +kernel)) rfl rfl rfl ?_
  refine RW.step (Ex.pickT (.bool true) rfl rfl) rfl rfl rfl ?_
  refine RW.step (Ex.move (.bool true) rfl) rfl rfl rfl ?_
  refine RW.step (Ex.loadA hM 2 [.int .i64 ((chR true ((newR 70).n) ((newR 70).ws) 60 8).n), .slice A9 ((chR true ((newR 70).n) ((newR 70).ws) 60 8).ws.length) c10] ta24 rfl rfl rfl rfl) rfl rfl rfl ?_
  refine RW.callV hM (next_ret _ _ ((chR true ((newR 70).n) ((newR 70).ws) 60 8).n) _ ((chR true ((newR 70).n) ((newR 70).ws) 60 8).ws) (hr11.mono ((hle14.trans hle20).trans hle26)) 68 (by omega) (hT.mono ((((hle2.trans hle8).trans hle14).trans hle20).trans hle26))) en26 rfl rfl rfl rfl ?_; intro w hM
  refine RW.step (Ex.yes (Ex.eql rfl rfl) (by decide +kernel)) rfl rfl rfl ?_
  refine RW.step (Ex.pickT (.bool true) rfl rfl) rfl rfl rfl ?_
  refine RW.step (Ex.move (.bool true) rfl) rfl rfl rfl ?_
  refine RW.step (Ex.loadA hM 2 [.int .i64 ((chR true ((newR 70).n) ((newR 70).ws) 60 8).n), .slice A9 ((chR true ((newR 70).n) ((newR 70).ws) 60 8).ws.length) c10] ta24 rfl rfl rfl rfl) rfl rfl rfl ?_
  refine RW.callV hM (count_ret _ _ ((chR true ((newR 70).n) ((newR 70).ws) 60 8).n) _ ((chR true ((newR 70).n) ((newR 70).ws) 60 8).ws) (hr11.mono ((hle14.trans hle20).trans hle26))) en24 rfl rfl rfl rfl ?_; intro w hM
  refine RW.step (Ex.yes (Ex.eql rfl rfl) (by decide +kernel)) rfl rfl rfl ?_
  refine RW.step (Ex.pickT (.bool true) rfl rfl) rfl rfl rfl ?_
  refine RW.step (Ex.move (.bool true) rfl) rfl rfl rfl ?_
  refine RW.step (Ex.move (.slice A27 ((extR ((chR false ((chR true ((newR 70).n) ((newR 70).ws) 60 8).n) ((chR true ((newR 70).n) ((newR 70).ws) 60 8).ws) 62 2).n) ((chR false ((chR true ((newR 70).n) ((newR 70).ws) 60 8).n) ((chR true ((newR 70).n) ((newR 70).ws) 60 8).ws) 62 2).ws)).length) c28) rfl) rfl rfl rfl ?_
  refine RW.step (Ex.build bs26 [(0, .int .i64 (60)), (1, .int .i64 (2))] [.int .i64 (60), .int .i64 (2)] rfl rfl) rfl rfl rfl ?_
  refine RW.step (Ex.build bs26 [(0, .int .i64 (64)), (1, .int .i64 (4))] [.int .i64 (64), .int .i64 (4)] rfl rfl) rfl rfl rfl ?_
  refine RW.buildSlice hM st44 tz26 [(0, .agg #[.int .i64 (60), .int .i64 (2)]), (1, .agg #[.int .i64 (64), .int .i64 (4)])] [.int .i64 (60), .int .i64 (2), .int .i64 (64), .int .i64 (4)] (by decide) rfl rfl rfl (by decide) rfl rfl ?_; intro b30 w hM
  obtain ⟨H31, hM, hle32, hr33⟩ := hM.giveRow (k := 0) rfl
  replace hr33 : RdC H31 (some ⟨b30, 0, none⟩) ([(60, 2), (64, 4)]).length 2 2 (([(60, 2), (64, 4)]).flatMap eC) := hr33
  replace hM : Mem w0 H w H31 [.box b24 24 [.int .i64 ((chR true ((newR 70).n) ((newR 70).ws) 69 2).n), .slice A21 ((chR true ((newR 70).n) ((newR 70).ws) 69 2).ws.length) c22], .box b18 24 [.int .i64 ((chR false ((chR true ((newR 70).n) ((newR 70).ws) 60 8).n) ((chR true ((newR 70).n) ((newR 70).ws) 60 8).ws) 62 2).n), .slice A15 ((chR false ((chR true ((newR 70).n) ((newR 70).ws) 60 8).n) ((chR true ((newR 70).n) ((newR 70).ws) 60 8).ws) 62 2).ws.length) c16], .box b12 24 [.int .i64 ((chR true ((newR 70).n) ((newR 70).ws) 60 8).n), .slice A9 ((chR true ((newR 70).n) ((newR 70).ws) 60 8).ws.length) c10], .box b6 24 [.int .i64 ((newR 70).n), .slice A3 ((newR 70).ws.length) c4]] := hM
  refine RW.callV hM (RetV.yes (sameExt_ret _ _ _ (extR ((chR false ((chR true ((newR 70).n) ((newR 70).ws) 60 8).n) ((chR true ((newR 70).n) ((newR 70).ws) 60 8).ws) 62 2).n) ((chR false ((chR true ((newR 70).n) ((newR 70).ws) 60 8).n) ((chR true ((newR 70).n) ((newR 70).ws) 60 8).ws) 62 2).ws)) (hr29.mono hle32) _ _ ([(60, 2), (64, 4)]) hr33) (by decide +kernel)) en30 rfl rfl rfl rfl ?_; intro w hM
  refine RW.step (Ex.pickT (.bool true) rfl rfl) rfl rfl rfl ?_
  refine RW.step (Ex.move (.bool true) rfl) rfl rfl rfl ?_
  refine RW.buildSlice hM st22 tz55 [(0, .int .u64 (8))] [.int .u64 (8)] (by decide) rfl rfl rfl (by decide) rfl rfl ?_; intro b34 w hM
  refine RW.step (Ex.build bs24 [(0, .int .i64 (3)), (1, .slice (some ⟨b34, 0, none⟩) 1 1)] [.int .i64 (3), .slice (some ⟨b34, 0, none⟩) 1 1] rfl rfl) rfl rfl rfl ?_
  obtain ⟨H35, hM, hle36, hr37⟩ := hM.giveRow (k := 0) rfl
  replace hr37 : RdC H35 (some ⟨b34, 0, none⟩) ([8#64]).length 1 1 (([8#64]).map u64) := hr37
  replace hM : Mem w0 H w H35 [.box b24 24 [.int .i64 ((chR true ((newR 70).n) ((newR 70).ws) 69 2).n), .slice A21 ((chR true ((newR 70).n) ((newR 70).ws) 69 2).ws.length) c22], .box b18 24 [.int .i64 ((chR false ((chR true ((newR 70).n) ((newR 70).ws) 60 8).n) ((chR true ((newR 70).n) ((newR 70).ws) 60 8).ws) 62 2).n), .slice A15 ((chR false ((chR true ((newR 70).n) ((newR 70).ws) 60 8).n) ((chR true ((newR 70).n) ((newR 70).ws) 60 8).ws) 62 2).ws.length) c16], .box b12 24 [.int .i64 ((chR true ((newR 70).n) ((newR 70).ws) 60 8).n), .slice A9 ((chR true ((newR 70).n) ((newR 70).ws) 60 8).ws.length) c10], .box b6 24 [.int .i64 ((newR 70).n), .slice A3 ((newR 70).ws.length) c4]] := hM
  refine RW.callV hM (check_ret _ _ 3 _ ([8#64]) hr37) en20 rfl rfl rfl rfl ?_; intro w hM
  refine RW.step (Ex.yes (Ex.eql rfl rfl) (by decide +kernel)) rfl rfl rfl ?_
  refine RW.step (Ex.pickT (.bool true) rfl rfl) rfl rfl rfl ?_
  refine RW.step (Ex.assign (.bool true) rfl) rfl rfl rfl ?_
  refine RW.nil ?_
  refine CW.ret ?_
  refine end_tmp (.inl rfl) rfl (.bool true) rfl ?_
  exact ⟨_, _, hM, rfl⟩

theorem bitmapChanges_ret (H : Hp) (A1 : Option Addr) (n : Int) (c1 : Nat) (ws : List (BitVec 64)) (hr1 : RdC H A1 ws.length c1 1 (ws.map u64)) (s c : Int) (hT : TabH H 0) : RetV Tryd.prog 3 #[.agg #[.int .i64 n, .slice A1 ws.length c1], .agg #[.int .i64 s, .int .i64 c]] H (.bool true) := by
  have hL := hr1.2.2.1
  have hL1 := hr1.2.1
  unfold maxLen at hL
  refine Ret.of_code Tryd.func3 rfl (Nat.le_of_ble_eq_true rfl) fun w0 hM => ?_
  refine CW.seq ?_
  refine CW.region ?_
  refine RW.box hM (.agg #[.int .i64 (n), .slice A1 ws.length c1]) [.int .i64 (n), .slice A1 ws.length c1] rfl rfl rfl rfl ?_; intro b1 w hM
  refine RW.box hM (.agg #[.int .i64 (s), .int .i64 (c)]) [.int .i64 (s), .int .i64 (c)] rfl rfl rfl rfl ?_; intro b2 w hM
  refine RW.step (Ex.assign (.bool false) rfl) rfl rfl rfl ?_
  refine RW.nil ?_
  refine CW.seq ?_
  refine CW.seq ?_
  refine CW.region ?_
  refine RW.step (Ex.loadA hM 1 [.int .i64 (n), .slice A1 ws.length c1] ta24 rfl rfl rfl rfl) rfl rfl rfl ?_
  refine RW.buildSlice hM st54 tz24 [(0, .agg #[.int .i64 (n), .slice A1 ws.length c1])] [.int .i64 (n), .slice A1 ws.length c1] (by decide) rfl rfl rfl (by decide) rfl rfl ?_; intro b3 w hM
  obtain ⟨H4, hM, hle5, hr6⟩ := hM.giveRow (k := 0) rfl
  replace hr6 : RdC H4 (some ⟨b3, 0, none⟩) (List.length (α := BV) ([⟨n, A1, ws.length, c1⟩])) 1 2 (List.flatMap bvC ([⟨n, A1, ws.length, c1⟩])) := hr6
  replace hM : Mem w0 H w H4 [.box b2 26 [.int .i64 (s), .int .i64 (c)], .box b1 24 [.int .i64 (n), .slice A1 ws.length c1]] := hM
  refine RW.callV hM (few_ret _ _ _ [⟨n, A1, ws.length, c1⟩] hr6) en11 rfl rfl rfl rfl ?_; intro w hM
  refine RW.step (Ex.not rfl) rfl rfl rfl ?_
  refine RW.nil ?_
  refine CW.cond_dec rfl (fun hc7 => ?_) (fun hc7 => ?_)
  · -- yes: ¬ (fewB [⟨n, A1, ws.length, c1⟩] = true)
    refine CW.seq ?_
    refine CW.region ?_
    refine RW.callV hM (awake_ret _ (hT.mono hle5)) en12 rfl rfl rfl rfl ?_; intro w hM
    refine RW.step (Ex.assign (.bool true) rfl) rfl rfl rfl ?_
    refine RW.nil ?_
    refine CW.ret ?_
    refine thenQ_ret ?_
    refine end_tmp (.inl rfl) rfl (.bool true) rfl ?_
    exact ⟨_, _, hM, rfl⟩
  · -- no: ¬ (fewB [⟨n, A1, ws.length, c1⟩] = true)
    refine CW.skip ?_
    refine CW.seq ?_
    refine CW.region ?_
    refine RW.step (Ex.loadA hM 1 [.int .i64 (n), .slice A1 ws.length c1] ta24 rfl rfl rfl rfl) rfl rfl rfl ?_
    refine RW.step (Ex.loadA hM 0 [.int .i64 (s), .int .i64 (c)] ta26 rfl rfl rfl rfl) rfl rfl rfl ?_
    refine RW.call hM (set_ret _ _ n _ ws (hr1.mono hle5) s c) en13 rfl rfl rfl rfl ?_; rintro _ w H8 hle9 ⟨A10, c11, rfl, hr12⟩ hM
    refine RW.step (Ex.move (.tuple #[.agg #[.int .i64 ((chR true n ws s c).n), .slice A10 ((chR true n ws s c).ws.length) c11], .int .i64 ((chR true n ws s c).e)]) rfl) rfl rfl rfl ?_
    refine RW.step (Ex.extract rfl rfl) rfl rfl rfl ?_
    refine RW.step (Ex.extract rfl rfl) rfl rfl rfl ?_
    refine RW.alloc hM tz24 [.int .i64 (0), .slice none 0 0] rfl rfl rfl ?_; intro b13 w hM
    refine RW.store hM 0 (.agg #[.int .i64 ((chR true n ws s c).n), .slice A10 ((chR true n ws s c).ws.length) c11]) [.int .i64 ((chR true n ws s c).n), .slice A10 ((chR true n ws s c).ws.length) c11] [.int .i64 ((chR true n ws s c).n), .slice A10 ((chR true n ws s c).ws.length) c11] sz24 rfl rfl rfl (oneAll ⟨rfl, rfl, trivial⟩) rfl (Nat.le_of_ble_eq_true rfl) rfl [.box b13 24 [.int .i64 ((chR true n ws s c).n), .slice A10 ((chR true n ws s c).ws.length) c11], .box b2 26 [.int .i64 (s), .int .i64 (c)], .box b1 24 [.int .i64 (n), .slice A1 ws.length c1]] rfl rfl rfl ?_; intro w hM
    refine RW.step (Ex.assign (.int .i64 ((chR true n ws s c).e)) rfl) rfl rfl rfl ?_
    refine RW.nil ?_
    refine CW.seq ?_
    refine CW.region ?_
    refine RW.step (Ex.loadA hM 2 [.int .i64 (n), .slice A1 ws.length c1] ta24 rfl rfl rfl rfl) rfl rfl rfl ?_
    refine RW.step (Ex.loadA hM 1 [.int .i64 (s), .int .i64 (c)] ta26 rfl rfl rfl rfl) rfl rfl rfl ?_
    refine RW.call hM (rset_ret _ _ n _ ws (hr1.mono (hle5.trans hle9)) s c) en14 rfl rfl rfl rfl ?_; rintro _ w H14 hle15 ⟨A16, c17, rfl, hr18⟩ hM
    refine RW.step (Ex.move (.tuple #[.agg #[.int .i64 ((chR true n ws s c).n), .slice A16 ((chR true n ws s c).ws.length) c17], .int .i64 ((chR true n ws s c).e)]) rfl) rfl rfl rfl ?_
    refine RW.step (Ex.extract rfl rfl) rfl rfl rfl ?_
    refine RW.step (Ex.extract rfl rfl) rfl rfl rfl ?_
    refine RW.alloc hM tz24 [.int .i64 (0), .slice none 0 0] rfl rfl rfl ?_; intro b19 w hM
    refine RW.store hM 0 (.agg #[.int .i64 ((chR true n ws s c).n), .slice A16 ((chR true n ws s c).ws.length) c17]) [.int .i64 ((chR true n ws s c).n), .slice A16 ((chR true n ws s c).ws.length) c17] [.int .i64 ((chR true n ws s c).n), .slice A16 ((chR true n ws s c).ws.length) c17] sz24 rfl rfl rfl (oneAll ⟨rfl, rfl, trivial⟩) rfl (Nat.le_of_ble_eq_true rfl) rfl [.box b19 24 [.int .i64 ((chR true n ws s c).n), .slice A16 ((chR true n ws s c).ws.length) c17], .box b13 24 [.int .i64 ((chR true n ws s c).n), .slice A10 ((chR true n ws s c).ws.length) c11], .box b2 26 [.int .i64 (s), .int .i64 (c)], .box b1 24 [.int .i64 (n), .slice A1 ws.length c1]] rfl rfl rfl ?_; intro w hM
    refine RW.step (Ex.assign (.int .i64 ((chR true n ws s c).e)) rfl) rfl rfl rfl ?_
    refine RW.nil ?_
    refine CW.seq ?_
    refine CW.region ?_
    refine RW.step (Ex.loadA hM 3 [.int .i64 (n), .slice A1 ws.length c1] ta24 rfl rfl rfl rfl) rfl rfl rfl ?_
    refine RW.step (Ex.loadA hM 2 [.int .i64 (s), .int .i64 (c)] ta26 rfl rfl rfl rfl) rfl rfl rfl ?_
    refine RW.call hM (clear_ret _ _ n _ ws (hr1.mono ((hle5.trans hle9).trans hle15)) s c) en15 rfl rfl rfl rfl ?_; rintro _ w H20 hle21 ⟨A22, c23, rfl, hr24⟩ hM
    refine RW.step (Ex.move (.tuple #[.agg #[.int .i64 ((chR false n ws s c).n), .slice A22 ((chR false n ws s c).ws.length) c23], .int .i64 ((chR false n ws s c).e)]) rfl) rfl rfl rfl ?_
    refine RW.step (Ex.extract rfl rfl) rfl rfl rfl ?_
    refine RW.step (Ex.extract rfl rfl) rfl rfl rfl ?_
    refine RW.alloc hM tz24 [.int .i64 (0), .slice none 0 0] rfl rfl rfl ?_; intro b25 w hM
    refine RW.store hM 0 (.agg #[.int .i64 ((chR false n ws s c).n), .slice A22 ((chR false n ws s c).ws.length) c23]) [.int .i64 ((chR false n ws s c).n), .slice A22 ((chR false n ws s c).ws.length) c23] [.int .i64 ((chR false n ws s c).n), .slice A22 ((chR false n ws s c).ws.length) c23] sz24 rfl rfl rfl (oneAll ⟨rfl, rfl, trivial⟩) rfl (Nat.le_of_ble_eq_true rfl) rfl [.box b25 24 [.int .i64 ((chR false n ws s c).n), .slice A22 ((chR false n ws s c).ws.length) c23], .box b19 24 [.int .i64 ((chR true n ws s c).n), .slice A16 ((chR true n ws s c).ws.length) c17], .box b13 24 [.int .i64 ((chR true n ws s c).n), .slice A10 ((chR true n ws s c).ws.length) c11], .box b2 26 [.int .i64 (s), .int .i64 (c)], .box b1 24 [.int .i64 (n), .slice A1 ws.length c1]] rfl rfl rfl ?_; intro w hM
    refine RW.step (Ex.assign (.int .i64 ((chR false n ws s c).e)) rfl) rfl rfl rfl ?_
    refine RW.nil ?_
    refine CW.seq ?_
    refine CW.region ?_
    refine RW.step (Ex.loadA hM 4 [.int .i64 (n), .slice A1 ws.length c1] ta24 rfl rfl rfl rfl) rfl rfl rfl ?_
    refine RW.step (Ex.loadA hM 3 [.int .i64 (s), .int .i64 (c)] ta26 rfl rfl rfl rfl) rfl rfl rfl ?_
    refine RW.call hM (rclear_ret _ _ n _ ws (hr1.mono (((hle5.trans hle9).trans hle15).trans hle21)) s c) en16 rfl rfl rfl rfl ?_; rintro _ w H26 hle27 ⟨A28, c29, rfl, hr30⟩ hM
    refine RW.step (Ex.move (.tuple #[.agg #[.int .i64 ((chR false n ws s c).n), .slice A28 ((chR false n ws s c).ws.length) c29], .int .i64 ((chR false n ws s c).e)]) rfl) rfl rfl rfl ?_
    refine RW.step (Ex.extract rfl rfl) rfl rfl rfl ?_
    refine RW.step (Ex.extract rfl rfl) rfl rfl rfl ?_
    refine RW.alloc hM tz24 [.int .i64 (0), .slice none 0 0] rfl rfl rfl ?_; intro b31 w hM
    refine RW.store hM 0 (.agg #[.int .i64 ((chR false n ws s c).n), .slice A28 ((chR false n ws s c).ws.length) c29]) [.int .i64 ((chR false n ws s c).n), .slice A28 ((chR false n ws s c).ws.length) c29] [.int .i64 ((chR false n ws s c).n), .slice A28 ((chR false n ws s c).ws.length) c29] sz24 rfl rfl rfl (oneAll ⟨rfl, rfl, trivial⟩) rfl (Nat.le_of_ble_eq_true rfl) rfl [.box b31 24 [.int .i64 ((chR false n ws s c).n), .slice A28 ((chR false n ws s c).ws.length) c29], .box b25 24 [.int .i64 ((chR false n ws s c).n), .slice A22 ((chR false n ws s c).ws.length) c23], .box b19 24 [.int .i64 ((chR true n ws s c).n), .slice A16 ((chR true n ws s c).ws.length) c17], .box b13 24 [.int .i64 ((chR true n ws s c).n), .slice A10 ((chR true n ws s c).ws.length) c11], .box b2 26 [.int .i64 (s), .int .i64 (c)], .box b1 24 [.int .i64 (n), .slice A1 ws.length c1]] rfl rfl rfl ?_; intro w hM
    refine RW.step (Ex.assign (.int .i64 ((chR false n ws s c).e)) rfl) rfl rfl rfl ?_
    refine RW.nil ?_
    refine CW.seq ?_
    refine CW.region ?_
    refine RW.callV hM (awake_ret _ (hT.mono ((((hle5.trans hle9).trans hle15).trans hle21).trans hle27))) en12 rfl rfl rfl rfl ?_; intro w hM
    refine RW.step (Ex.move (.bool true) rfl) rfl rfl rfl ?_
    refine RW.step (Ex.loadA hM 3 [.int .i64 ((chR true n ws s c).n), .slice A10 ((chR true n ws s c).ws.length) c11] ta24 rfl rfl rfl rfl) rfl rfl rfl ?_
    refine RW.step (Ex.loadA hM 2 [.int .i64 ((chR true n ws s c).n), .slice A16 ((chR true n ws s c).ws.length) c17] ta24 rfl rfl rfl rfl) rfl rfl rfl ?_
    refine RW.callV hM (RetV.yes (same_ret _ _ ((chR true n ws s c).n) _ ((chR true n ws s c).ws) (hr12.mono ((hle15.trans hle21).trans hle27)) _ ((chR true n ws s c).n) _ ((chR true n ws s c).ws) (hr18.mono (hle21.trans hle27))) ⟨rfl, rfl⟩) en17 rfl rfl rfl rfl ?_; intro w hM
    refine RW.step (Ex.pickT (.bool true) rfl rfl) rfl rfl rfl ?_
    refine RW.step (Ex.move (.bool true) rfl) rfl rfl rfl ?_
    refine RW.step (Ex.move (.int .i64 ((chR true n ws s c).e)) rfl) rfl rfl rfl ?_
    refine RW.step (Ex.move (.int .i64 ((chR true n ws s c).e)) rfl) rfl rfl rfl ?_
    refine RW.step (Ex.yes (Ex.eql rfl rfl) rfl) rfl rfl rfl ?_
    refine RW.step (Ex.pickT (.bool true) rfl rfl) rfl rfl rfl ?_
    refine RW.step (Ex.move (.bool true) rfl) rfl rfl rfl ?_
    refine RW.step (Ex.loadA hM 1 [.int .i64 ((chR false n ws s c).n), .slice A22 ((chR false n ws s c).ws.length) c23] ta24 rfl rfl rfl rfl) rfl rfl rfl ?_
    refine RW.step (Ex.loadA hM 0 [.int .i64 ((chR false n ws s c).n), .slice A28 ((chR false n ws s c).ws.length) c29] ta24 rfl rfl rfl rfl) rfl rfl rfl ?_
    refine RW.callV hM (RetV.yes (same_ret _ _ ((chR false n ws s c).n) _ ((chR false n ws s c).ws) (hr24.mono hle27) _ ((chR false n ws s c).n) _ ((chR false n ws s c).ws) hr30) ⟨rfl, rfl⟩) en17 rfl rfl rfl rfl ?_; intro w hM
    refine RW.step (Ex.pickT (.bool true) rfl rfl) rfl rfl rfl ?_
    refine RW.step (Ex.move (.bool true) rfl) rfl rfl rfl ?_
    refine RW.step (Ex.move (.int .i64 ((chR false n ws s c).e)) rfl) rfl rfl rfl ?_
    refine RW.step (Ex.move (.int .i64 ((chR false n ws s c).e)) rfl) rfl rfl rfl ?_
    refine RW.step (Ex.yes (Ex.eql rfl rfl) rfl) rfl rfl rfl ?_
    refine RW.step (Ex.pickT (.bool true) rfl rfl) rfl rfl rfl ?_
    refine RW.step (Ex.assign (.bool true) rfl) rfl rfl rfl ?_
    refine RW.nil ?_
    refine CW.ret ?_
    refine end_tmp (.inl rfl) rfl (.bool true) rfl ?_
    exact ⟨_, _, hM, rfl⟩

theorem bitmapMakes_ret (H : Hp) (A1 : Option Addr) (n : Int) (c1 : Nat) (ws : List (BitVec 64)) (hr1 : RdC H A1 ws.length c1 1 (ws.map u64)) (z a : Int) (ha1 : a ≤ 9223372036854775807) (hT : TabH H 0) : RetV Tryd.prog 4 #[.agg #[.int .i64 n, .slice A1 ws.length c1], .int .i64 z, .int .i64 a] H (.bool true) := by
  have hL := hr1.2.2.1
  have hL1 := hr1.2.1
  unfold maxLen at hL
  refine Ret.of_code Tryd.func4 rfl (Nat.le_of_ble_eq_true rfl) fun w0 hM => ?_
  refine CW.seq ?_
  refine CW.region ?_
  refine RW.box hM (.agg #[.int .i64 (n), .slice A1 ws.length c1]) [.int .i64 (n), .slice A1 ws.length c1] rfl rfl rfl rfl ?_; intro b1 w hM
  refine RW.step (Ex.assign (.bool false) rfl) rfl rfl rfl ?_
  refine RW.nil ?_
  refine CW.seq ?_
  refine CW.seq ?_
  refine CW.region ?_
  refine RW.step (Ex.loadA hM 0 [.int .i64 (n), .slice A1 ws.length c1] ta24 rfl rfl rfl rfl) rfl rfl rfl ?_
  refine RW.buildSlice hM st54 tz24 [(0, .agg #[.int .i64 (n), .slice A1 ws.length c1])] [.int .i64 (n), .slice A1 ws.length c1] (by decide) rfl rfl rfl (by decide) rfl rfl ?_; intro b2 w hM
  obtain ⟨H3, hM, hle4, hr5⟩ := hM.giveRow (k := 0) rfl
  replace hr5 : RdC H3 (some ⟨b2, 0, none⟩) (List.length (α := BV) ([⟨n, A1, ws.length, c1⟩])) 1 2 (List.flatMap bvC ([⟨n, A1, ws.length, c1⟩])) := hr5
  replace hM : Mem w0 H w H3 [.box b1 24 [.int .i64 (n), .slice A1 ws.length c1]] := hM
  refine RW.callV hM (few_ret _ _ _ [⟨n, A1, ws.length, c1⟩] hr5) en11 rfl rfl rfl rfl ?_; intro w hM
  refine RW.step (Ex.not rfl) rfl rfl rfl ?_
  refine RW.nil ?_
  refine CW.cond_dec rfl (fun hc6 => ?_) (fun hc6 => ?_)
  · -- yes: ¬ (fewB [⟨n, A1, ws.length, c1⟩] = true)
    refine CW.seq ?_
    refine CW.region ?_
    refine RW.callV hM (awake_ret _ (hT.mono hle4)) en12 rfl rfl rfl rfl ?_; intro w hM
    refine RW.step (Ex.assign (.bool true) rfl) rfl rfl rfl ?_
    refine RW.nil ?_
    refine CW.ret ?_
    refine thenQ_ret ?_
    refine end_tmp (.inl rfl) rfl (.bool true) rfl ?_
    exact ⟨_, _, hM, rfl⟩
  · -- no: ¬ (fewB [⟨n, A1, ws.length, c1⟩] = true)
    refine CW.skip ?_
    refine CW.seq ?_
    refine CW.region ?_
    refine RW.step (Ex.move (.int .i64 (z)) rfl) rfl rfl rfl ?_
    refine RW.call hM (new_ret _ z) en18 rfl rfl rfl rfl ?_; rintro _ w H7 hle8 ⟨A9, c10, rfl, hr11⟩ hM
    refine RW.step (Ex.move (.tuple #[.agg #[.int .i64 ((newR z).n), .slice A9 ((newR z).ws.length) c10], .int .i64 ((newR z).e)]) rfl) rfl rfl rfl ?_
    refine RW.step (Ex.extract rfl rfl) rfl rfl rfl ?_
    refine RW.step (Ex.extract rfl rfl) rfl rfl rfl ?_
    refine RW.alloc hM tz24 [.int .i64 (0), .slice none 0 0] rfl rfl rfl ?_; intro b12 w hM
    refine RW.store hM 0 (.agg #[.int .i64 ((newR z).n), .slice A9 ((newR z).ws.length) c10]) [.int .i64 ((newR z).n), .slice A9 ((newR z).ws.length) c10] [.int .i64 ((newR z).n), .slice A9 ((newR z).ws.length) c10] sz24 rfl rfl rfl (oneAll ⟨rfl, rfl, trivial⟩) rfl (Nat.le_of_ble_eq_true rfl) rfl [.box b12 24 [.int .i64 ((newR z).n), .slice A9 ((newR z).ws.length) c10], .box b1 24 [.int .i64 (n), .slice A1 ws.length c1]] rfl rfl rfl ?_; intro w hM
    refine RW.step (Ex.assign (.int .i64 ((newR z).e)) rfl) rfl rfl rfl ?_
    refine RW.nil ?_
    refine CW.seq ?_
    refine CW.region ?_
    refine RW.step (Ex.move (.int .i64 (z)) rfl) rfl rfl rfl ?_
    refine RW.call hM (rnew_ret _ z) en19 rfl rfl rfl rfl ?_; rintro _ w H13 hle14 ⟨A15, c16, rfl, hr17⟩ hM
    refine RW.step (Ex.move (.tuple #[.agg #[.int .i64 ((newR z).n), .slice A15 ((newR z).ws.length) c16], .int .i64 ((newR z).e)]) rfl) rfl rfl rfl ?_
    refine RW.step (Ex.extract rfl rfl) rfl rfl rfl ?_
    refine RW.step (Ex.extract rfl rfl) rfl rfl rfl ?_
    refine RW.alloc hM tz24 [.int .i64 (0), .slice none 0 0] rfl rfl rfl ?_; intro b18 w hM
    refine RW.store hM 0 (.agg #[.int .i64 ((newR z).n), .slice A15 ((newR z).ws.length) c16]) [.int .i64 ((newR z).n), .slice A15 ((newR z).ws.length) c16] [.int .i64 ((newR z).n), .slice A15 ((newR z).ws.length) c16] sz24 rfl rfl rfl (oneAll ⟨rfl, rfl, trivial⟩) rfl (Nat.le_of_ble_eq_true rfl) rfl [.box b18 24 [.int .i64 ((newR z).n), .slice A15 ((newR z).ws.length) c16], .box b12 24 [.int .i64 ((newR z).n), .slice A9 ((newR z).ws.length) c10], .box b1 24 [.int .i64 (n), .slice A1 ws.length c1]] rfl rfl rfl ?_; intro w hM
    refine RW.step (Ex.assign (.int .i64 ((newR z).e)) rfl) rfl rfl rfl ?_
    refine RW.nil ?_
    refine CW.seq ?_
    refine CW.seq ?_
    refine CW.drawE 16 [.agg #[.int .i64 ((newR z).n), .slice A9 ((newR z).ws.length) c10], .agg #[.int .i64 ((newR z).n), .slice A15 ((newR z).ws.length) c16], .bool true, .bool false, .bool false, .int .i64 ((newR z).e), .int .i64 ((newR z).e), .bool false, .bool false, .bool false, .agg #[.int .i64 (n), .slice A1 ws.length c1], .int .i64 (chk n ws), .agg #[.int .i64 (n), .slice A1 ws.length c1], .int .i64 (chk n ws), .bool false, .bool false]
      [[(7, none)], [(9, none)], [(26, some 0), (27, some 1)], [(28, some 2)], [(29, some 3)], [(8, none), (30, some 4)], [(10, none), (30, some 4)], [(30, some 4), (31, some 5), (32, some 6)], [(30, some 4), (33, some 7)], [(34, some 8)], [(3, none), (35, some 9)], [(35, some 9), (36, some 10)], [(3, none), (35, some 9)], [(35, some 9), (38, some 12)], [(35, some 9), (37, some 11), (39, some 13)], [(35, some 9), (40, some 14)]] [(2, none), (3, none), (6, none), (41, some 15)] (by kernel_rfl) hM (by kernel_rfl) ⟨?_, ?_, ?_, ?_, ?_, ?_, ?_, ?_, ?_, ?_, ?_, ?_, ?_, ?_, ?_, ?_, trivial⟩ ?_
    · exact One.ex (fun H' τ w hled hM => Ex.loadA hM 1 [.int .i64 ((newR z).n), .slice A9 ((newR z).ws.length) c10] ta24 rfl rfl rfl rfl) rfl (fun _ => rfl) rfl
    · exact One.ex (fun H' τ w hled hM => Ex.loadA hM 0 [.int .i64 ((newR z).n), .slice A15 ((newR z).ws.length) c16] ta24 rfl rfl rfl rfl) rfl (fun _ => rfl) rfl
    · exact One.call (RetV.yes (same_ret _ _ ((newR z).n) _ ((newR z).ws) (hr11.mono hle14) _ ((newR z).n) _ ((newR z).ws) hr17) ⟨rfl, rfl⟩) en17 (fun _ => rfl) (fun _ => rfl) (fun _ => rfl) rfl
    · exact One.ex (fun H' τ w hled hM => Ex.notB (b := true) rfl) rfl (fun _ => rfl) rfl
    · exact One.ex (fun H' τ w hled hM => Ex.move (.bool false) rfl) rfl (fun _ => rfl) rfl
    · exact One.ex (fun H' τ w hled hM => Ex.move (.int .i64 ((newR z).e)) rfl) rfl (fun _ => rfl) rfl
    · exact One.ex (fun H' τ w hled hM => Ex.move (.int .i64 ((newR z).e)) rfl) rfl (fun _ => rfl) rfl
    · exact One.ex (fun H' τ w hled hM => Ex.no (Ex.neq rfl rfl) (fun h => h rfl)) rfl (fun _ => rfl) rfl
    · exact One.ex (fun H' τ w hled hM => Ex.pickF (.bool false) rfl rfl) rfl (fun _ => rfl) rfl
    · exact One.ex (fun H' τ w hled hM => Ex.move (.bool false) rfl) rfl (fun _ => rfl) rfl
    · exact One.ex (fun H' τ w hled hM => Ex.loadA hM 2 [.int .i64 (n), .slice A1 ws.length c1] ta24 rfl rfl rfl rfl) rfl (fun _ => rfl) rfl
    · exact One.call (check_ret _ _ n _ ws (hr1.mono ((hle4.trans hle8).trans hle14))) en20 (fun _ => rfl) (fun _ => rfl) (fun _ => rfl) rfl
    · exact One.ex (fun H' τ w hled hM => Ex.loadA hM 2 [.int .i64 (n), .slice A1 ws.length c1] ta24 rfl rfl rfl rfl) rfl (fun _ => rfl) rfl
    · exact One.call (rcheck_ret _ _ n _ ws (hr1.mono ((hle4.trans hle8).trans hle14))) en21 (fun _ => rfl) (fun _ => rfl) (fun _ => rfl) rfl
    · exact One.ex (fun H' τ w hled hM => Ex.no (Ex.neq rfl rfl) (fun h => h rfl)) rfl (fun _ => rfl) rfl
    · exact One.ex (fun H' τ w hled hM => Ex.pickF (.bool false) rfl rfl) rfl (fun _ => rfl) rfl
    intro τ w hM
    change RW _ _ _ _ _ _ _ _ (sl [(2, .int .i64 (a)), (3, .pointer (some ⟨b1, 0, none⟩)), (6, .bool false), (41, .bool false)] τ) _
    refine RW.nil ?_
    refine CW.cond_false rfl ?_
    refine CW.skip ?_
    refine CW.seq ?_
    refine CW.drawE 26 [.bool true, .bool true, .agg #[.int .i64 (n), .slice A1 ws.length c1], .int .i64 (a), .bool (decide (getB n ws a = true)), .agg #[.int .i64 (n), .slice A1 ws.length c1], .int .i64 (a), .bool (decide (getB n ws a = true)), .bool true, .bool true, .bool true, .agg #[.int .i64 (n), .slice A1 ws.length c1], .int .i64 (cntR n ws), .agg #[.int .i64 (n), .slice A1 ws.length c1], .int .i64 (cntR n ws), .bool true, .bool true, .bool true, .agg #[.int .i64 (n), .slice A1 ws.length c1], .int .i64 (a), .int .i64 (nextR n ws a), .agg #[.int .i64 (n), .slice A1 ws.length c1], .int .i64 (a), .int .i64 (nextR n ws a), .bool true, .bool true]
      [[], [(42, some 0)], [(3, none), (43, some 1)], [(2, none), (43, some 1)], [(43, some 1), (44, some 2), (45, some 3)], [(3, none), (43, some 1)], [(2, none), (43, some 1)], [(43, some 1), (47, some 5), (48, some 6)], [(43, some 1), (46, some 4), (49, some 7)], [(43, some 1), (50, some 8)], [(51, some 9)], [(3, none), (52, some 10)], [(52, some 10), (53, some 11)], [(3, none), (52, some 10)], [(52, some 10), (55, some 13)], [(52, some 10), (54, some 12), (56, some 14)], [(52, some 10), (57, some 15)], [(58, some 16)], [(3, none), (59, some 17)], [(2, none), (59, some 17)], [(59, some 17), (60, some 18), (61, some 19)], [(3, none), (59, some 17)], [(2, none), (59, some 17)], [(59, some 17), (63, some 21), (64, some 22)], [(59, some 17), (62, some 20), (65, some 23)], [(59, some 17), (66, some 24)]] [(6, none), (67, some 25)] (by kernel_rfl) hM (by kernel_rfl) ⟨?_, ?_, ?_, ?_, ?_, ?_, ?_, ?_, ?_, ?_, ?_, ?_, ?_, ?_, ?_, ?_, ?_, ?_, ?_, ?_, ?_, ?_, ?_, ?_, ?_, ?_, trivial⟩ ?_
    · exact One.call (awake_ret _ (hT.mono ((hle4.trans hle8).trans hle14))) en12 (fun _ => rfl) (fun _ => rfl) (fun _ => rfl) rfl
    · exact One.ex (fun H' τ w hled hM => Ex.move (.bool true) rfl) rfl (fun _ => rfl) rfl
    · exact One.ex (fun H' τ w hled hM => Ex.loadA hM 2 [.int .i64 (n), .slice A1 ws.length c1] ta24 rfl rfl rfl rfl) rfl (fun _ => rfl) rfl
    · exact One.ex (fun H' τ w hled hM => Ex.move (.int .i64 (a)) rfl) rfl (fun _ => rfl) rfl
    · exact One.call (get_ret _ _ n _ ws (hr1.mono ((hle4.trans hle8).trans hle14)) a) en22 (fun _ => rfl) (fun _ => rfl) (fun _ => rfl) rfl
    · exact One.ex (fun H' τ w hled hM => Ex.loadA hM 2 [.int .i64 (n), .slice A1 ws.length c1] ta24 rfl rfl rfl rfl) rfl (fun _ => rfl) rfl
    · exact One.ex (fun H' τ w hled hM => Ex.move (.int .i64 (a)) rfl) rfl (fun _ => rfl) rfl
    · exact One.call (rget_ret _ _ n _ ws (hr1.mono ((hle4.trans hle8).trans hle14)) a) en23 (fun _ => rfl) (fun _ => rfl) (fun _ => rfl) rfl
    · exact One.ex (fun H' τ w hled hM => Ex.yes (Ex.eqlB Tryd.underlying4 rfl rfl) rfl) rfl (fun _ => rfl) rfl
    · exact One.ex (fun H' τ w hled hM => Ex.pickT (.bool true) rfl rfl) rfl (fun _ => rfl) rfl
    · exact One.ex (fun H' τ w hled hM => Ex.move (.bool true) rfl) rfl (fun _ => rfl) rfl
    · exact One.ex (fun H' τ w hled hM => Ex.loadA hM 2 [.int .i64 (n), .slice A1 ws.length c1] ta24 rfl rfl rfl rfl) rfl (fun _ => rfl) rfl
    · exact One.call (count_ret _ _ n _ ws (hr1.mono ((hle4.trans hle8).trans hle14))) en24 (fun _ => rfl) (fun _ => rfl) (fun _ => rfl) rfl
    · exact One.ex (fun H' τ w hled hM => Ex.loadA hM 2 [.int .i64 (n), .slice A1 ws.length c1] ta24 rfl rfl rfl rfl) rfl (fun _ => rfl) rfl
    · exact One.call (rcount_ret _ _ n _ ws (hr1.mono ((hle4.trans hle8).trans hle14))) en25 (fun _ => rfl) (fun _ => rfl) (fun _ => rfl) rfl
    · exact One.ex (fun H' τ w hled hM => Ex.yes (Ex.eql rfl rfl) rfl) rfl (fun _ => rfl) rfl
    · exact One.ex (fun H' τ w hled hM => Ex.pickT (.bool true) rfl rfl) rfl (fun _ => rfl) rfl
    · exact One.ex (fun H' τ w hled hM => Ex.move (.bool true) rfl) rfl (fun _ => rfl) rfl
    · exact One.ex (fun H' τ w hled hM => Ex.loadA hM 2 [.int .i64 (n), .slice A1 ws.length c1] ta24 rfl rfl rfl rfl) rfl (fun _ => rfl) rfl
    · exact One.ex (fun H' τ w hled hM => Ex.move (.int .i64 (a)) rfl) rfl (fun _ => rfl) rfl
    · exact One.call (next_ret _ _ n _ ws (hr1.mono ((hle4.trans hle8).trans hle14)) a (by omega) (hT.mono ((hle4.trans hle8).trans hle14))) en26 (fun _ => rfl) (fun _ => rfl) (fun _ => rfl) rfl
    · exact One.ex (fun H' τ w hled hM => Ex.loadA hM 2 [.int .i64 (n), .slice A1 ws.length c1] ta24 rfl rfl rfl rfl) rfl (fun _ => rfl) rfl
    · exact One.ex (fun H' τ w hled hM => Ex.move (.int .i64 (a)) rfl) rfl (fun _ => rfl) rfl
    · exact One.call (rnext_ret _ _ n _ ws (hr1.mono ((hle4.trans hle8).trans hle14)) a) en27 (fun _ => rfl) (fun _ => rfl) (fun _ => rfl) rfl
    · exact One.ex (fun H' τ w hled hM => Ex.yes (Ex.eql rfl rfl) rfl) rfl (fun _ => rfl) rfl
    · exact One.ex (fun H' τ w hled hM => Ex.pickT (.bool true) rfl rfl) rfl (fun _ => rfl) rfl
    intro τ w hM
    change RW _ _ _ _ _ _ _ _ (sl [(6, .bool false), (67, .bool true)] τ) _
    refine RW.step (Ex.assign (.bool true) rfl) rfl rfl rfl ?_
    refine RW.nil ?_
    refine CW.ret ?_
    refine end_tmp (.inl rfl) rfl (.bool true) rfl ?_
    exact ⟨_, _, hM, rfl⟩

theorem bitmapCombines_ret (H : Hp) (A1 : Option Addr) (n : Int) (c1 : Nat) (ws : List (BitVec 64)) (hr1 : RdC H A1 ws.length c1 1 (ws.map u64)) (A2 : Option Addr) (m : Int) (c2 : Nat) (vs : List (BitVec 64)) (hr2 : RdC H A2 vs.length c2 1 (vs.map u64)) (hT : TabH H 0) : RetV Tryd.prog 9 #[.agg #[.int .i64 n, .slice A1 ws.length c1], .agg #[.int .i64 m, .slice A2 vs.length c2]] H (.bool true) := by
  have hL := hr1.2.2.1
  have hL1 := hr1.2.1
  unfold maxLen at hL
  have hK := hr2.2.2.1
  have hK1 := hr2.2.1
  unfold maxLen at hK
  refine Ret.of_code Tryd.func9 rfl (Nat.le_of_ble_eq_true rfl) fun w0 hM => ?_
  refine CW.seq ?_
  refine CW.region ?_
  refine RW.box hM (.agg #[.int .i64 (n), .slice A1 ws.length c1]) [.int .i64 (n), .slice A1 ws.length c1] rfl rfl rfl rfl ?_; intro b1 w hM
  refine RW.box hM (.agg #[.int .i64 (m), .slice A2 vs.length c2]) [.int .i64 (m), .slice A2 vs.length c2] rfl rfl rfl rfl ?_; intro b2 w hM
  refine RW.step (Ex.assign (.bool false) rfl) rfl rfl rfl ?_
  refine RW.nil ?_
  refine CW.seq ?_
  refine CW.seq ?_
  refine CW.region ?_
  refine RW.step (Ex.loadA hM 1 [.int .i64 (n), .slice A1 ws.length c1] ta24 rfl rfl rfl rfl) rfl rfl rfl ?_
  refine RW.step (Ex.loadA hM 0 [.int .i64 (m), .slice A2 vs.length c2] ta24 rfl rfl rfl rfl) rfl rfl rfl ?_
  refine RW.buildSlice hM st54 tz24 [(0, .agg #[.int .i64 (n), .slice A1 ws.length c1]), (1, .agg #[.int .i64 (m), .slice A2 vs.length c2])] [.int .i64 (n), .slice A1 ws.length c1, .int .i64 (m), .slice A2 vs.length c2] (by decide) rfl rfl rfl (by decide) rfl rfl ?_; intro b3 w hM
  obtain ⟨H4, hM, hle5, hr6⟩ := hM.giveRow (k := 0) rfl
  replace hr6 : RdC H4 (some ⟨b3, 0, none⟩) (List.length (α := BV) ([⟨n, A1, ws.length, c1⟩, ⟨m, A2, vs.length, c2⟩])) 2 2 (List.flatMap bvC ([⟨n, A1, ws.length, c1⟩, ⟨m, A2, vs.length, c2⟩])) := hr6
  replace hM : Mem w0 H w H4 [.box b2 24 [.int .i64 (m), .slice A2 vs.length c2], .box b1 24 [.int .i64 (n), .slice A1 ws.length c1]] := hM
  refine RW.callV hM (few_ret _ _ _ [⟨n, A1, ws.length, c1⟩, ⟨m, A2, vs.length, c2⟩] hr6) en11 rfl rfl rfl rfl ?_; intro w hM
  refine RW.step (Ex.not rfl) rfl rfl rfl ?_
  refine RW.nil ?_
  refine CW.cond_dec rfl (fun hc7 => ?_) (fun hc7 => ?_)
  · -- yes: ¬ (fewB [⟨n, A1, ws.length, c1⟩, ⟨m, A2, vs.length, c2⟩] = true)
    refine CW.seq ?_
    refine CW.region ?_
    refine RW.callV hM (awake_ret _ (hT.mono hle5)) en12 rfl rfl rfl rfl ?_; intro w hM
    refine RW.step (Ex.assign (.bool true) rfl) rfl rfl rfl ?_
    refine RW.nil ?_
    refine CW.ret ?_
    refine thenQ_ret ?_
    refine end_tmp (.inl rfl) rfl (.bool true) rfl ?_
    exact ⟨_, _, hM, rfl⟩
  · -- no: ¬ (fewB [⟨n, A1, ws.length, c1⟩, ⟨m, A2, vs.length, c2⟩] = true)
    refine CW.skip ?_
    refine CW.seq ?_
    refine CW.region ?_
    refine RW.step (Ex.loadA hM 1 [.int .i64 (n), .slice A1 ws.length c1] ta24 rfl rfl rfl rfl) rfl rfl rfl ?_
    refine RW.step (Ex.loadA hM 0 [.int .i64 (m), .slice A2 vs.length c2] ta24 rfl rfl rfl rfl) rfl rfl rfl ?_
    refine RW.call hM (bOr_ret _ _ n _ ws (hr1.mono hle5) _ m _ vs (hr2.mono hle5)) en33 rfl rfl rfl rfl ?_; rintro _ w H8 hle9 ⟨A10, c11, rfl, hr12⟩ hM
    refine RW.step (Ex.move (.tuple #[.agg #[.int .i64 ((bothR (fun a b => a ||| b) n ws m vs).n), .slice A10 ((bothR (fun a b => a ||| b) n ws m vs).ws.length) c11], .int .i64 ((bothR (fun a b => a ||| b) n ws m vs).e)]) rfl) rfl rfl rfl ?_
    refine RW.step (Ex.extract rfl rfl) rfl rfl rfl ?_
    refine RW.step (Ex.extract rfl rfl) rfl rfl rfl ?_
    refine RW.alloc hM tz24 [.int .i64 (0), .slice none 0 0] rfl rfl rfl ?_; intro b13 w hM
    refine RW.store hM 0 (.agg #[.int .i64 ((bothR (fun a b => a ||| b) n ws m vs).n), .slice A10 ((bothR (fun a b => a ||| b) n ws m vs).ws.length) c11]) [.int .i64 ((bothR (fun a b => a ||| b) n ws m vs).n), .slice A10 ((bothR (fun a b => a ||| b) n ws m vs).ws.length) c11] [.int .i64 ((bothR (fun a b => a ||| b) n ws m vs).n), .slice A10 ((bothR (fun a b => a ||| b) n ws m vs).ws.length) c11] sz24 rfl rfl rfl (oneAll ⟨rfl, rfl, trivial⟩) rfl (Nat.le_of_ble_eq_true rfl) rfl [.box b13 24 [.int .i64 ((bothR (fun a b => a ||| b) n ws m vs).n), .slice A10 ((bothR (fun a b => a ||| b) n ws m vs).ws.length) c11], .box b2 24 [.int .i64 (m), .slice A2 vs.length c2], .box b1 24 [.int .i64 (n), .slice A1 ws.length c1]] rfl rfl rfl ?_; intro w hM
    refine RW.step (Ex.assign (.int .i64 ((bothR (fun a b => a ||| b) n ws m vs).e)) rfl) rfl rfl rfl ?_
    refine RW.nil ?_
    refine CW.seq ?_
    refine CW.region ?_
    refine RW.step (Ex.loadA hM 2 [.int .i64 (n), .slice A1 ws.length c1] ta24 rfl rfl rfl rfl) rfl rfl rfl ?_
    refine RW.step (Ex.loadA hM 1 [.int .i64 (m), .slice A2 vs.length c2] ta24 rfl rfl rfl rfl) rfl rfl rfl ?_
    refine RW.call hM (rOr_ret _ _ n _ ws (hr1.mono (hle5.trans hle9)) _ m _ vs (hr2.mono (hle5.trans hle9))) en34 rfl rfl rfl rfl ?_; rintro _ w H14 hle15 ⟨A16, c17, rfl, hr18⟩ hM
    refine RW.step (Ex.move (.tuple #[.agg #[.int .i64 ((bothR (fun a b => a ||| b) n ws m vs).n), .slice A16 ((bothR (fun a b => a ||| b) n ws m vs).ws.length) c17], .int .i64 ((bothR (fun a b => a ||| b) n ws m vs).e)]) rfl) rfl rfl rfl ?_
    refine RW.step (Ex.extract rfl rfl) rfl rfl rfl ?_
    refine RW.step (Ex.extract rfl rfl) rfl rfl rfl ?_
    refine RW.alloc hM tz24 [.int .i64 (0), .slice none 0 0] rfl rfl rfl ?_; intro b19 w hM
    refine RW.store hM 0 (.agg #[.int .i64 ((bothR (fun a b => a ||| b) n ws m vs).n), .slice A16 ((bothR (fun a b => a ||| b) n ws m vs).ws.length) c17]) [.int .i64 ((bothR (fun a b => a ||| b) n ws m vs).n), .slice A16 ((bothR (fun a b => a ||| b) n ws m vs).ws.length) c17] [.int .i64 ((bothR (fun a b => a ||| b) n ws m vs).n), .slice A16 ((bothR (fun a b => a ||| b) n ws m vs).ws.length) c17] sz24 rfl rfl rfl (oneAll ⟨rfl, rfl, trivial⟩) rfl (Nat.le_of_ble_eq_true rfl) rfl [.box b19 24 [.int .i64 ((bothR (fun a b => a ||| b) n ws m vs).n), .slice A16 ((bothR (fun a b => a ||| b) n ws m vs).ws.length) c17], .box b13 24 [.int .i64 ((bothR (fun a b => a ||| b) n ws m vs).n), .slice A10 ((bothR (fun a b => a ||| b) n ws m vs).ws.length) c11], .box b2 24 [.int .i64 (m), .slice A2 vs.length c2], .box b1 24 [.int .i64 (n), .slice A1 ws.length c1]] rfl rfl rfl ?_; intro w hM
    refine RW.step (Ex.assign (.int .i64 ((bothR (fun a b => a ||| b) n ws m vs).e)) rfl) rfl rfl rfl ?_
    refine RW.nil ?_
    refine CW.seq ?_
    refine CW.seq ?_
    refine CW.region ?_
    refine RW.step (Ex.loadA hM 1 [.int .i64 ((bothR (fun a b => a ||| b) n ws m vs).n), .slice A10 ((bothR (fun a b => a ||| b) n ws m vs).ws.length) c11] ta24 rfl rfl rfl rfl) rfl rfl rfl ?_
    refine RW.step (Ex.loadA hM 0 [.int .i64 ((bothR (fun a b => a ||| b) n ws m vs).n), .slice A16 ((bothR (fun a b => a ||| b) n ws m vs).ws.length) c17] ta24 rfl rfl rfl rfl) rfl rfl rfl ?_
    refine RW.callV hM (RetV.yes (same_ret _ _ ((bothR (fun a b => a ||| b) n ws m vs).n) _ ((bothR (fun a b => a ||| b) n ws m vs).ws) (hr12.mono hle15) _ ((bothR (fun a b => a ||| b) n ws m vs).n) _ ((bothR (fun a b => a ||| b) n ws m vs).ws) hr18) ⟨rfl, rfl⟩) en17 rfl rfl rfl rfl ?_; intro w hM
    refine RW.step (Ex.notB (b := true) rfl) rfl rfl rfl ?_
    refine RW.step (Ex.move (.bool false) rfl) rfl rfl rfl ?_
    refine RW.step (Ex.move (.int .i64 ((bothR (fun a b => a ||| b) n ws m vs).e)) rfl) rfl rfl rfl ?_
    refine RW.step (Ex.move (.int .i64 ((bothR (fun a b => a ||| b) n ws m vs).e)) rfl) rfl rfl rfl ?_
    refine RW.step (Ex.no (Ex.neq rfl rfl) (fun h => h rfl)) rfl rfl rfl ?_
    refine RW.step (Ex.pickF (.bool false) rfl rfl) rfl rfl rfl ?_
    refine RW.nil ?_
    refine CW.cond_false rfl ?_
    refine CW.skip ?_
    refine CW.seq ?_
    refine CW.region ?_
    refine RW.step (Ex.loadA hM 3 [.int .i64 (n), .slice A1 ws.length c1] ta24 rfl rfl rfl rfl) rfl rfl rfl ?_
    refine RW.step (Ex.loadA hM 2 [.int .i64 (m), .slice A2 vs.length c2] ta24 rfl rfl rfl rfl) rfl rfl rfl ?_
    refine RW.call hM (bAnd_ret _ _ n _ ws (hr1.mono ((hle5.trans hle9).trans hle15)) _ m _ vs (hr2.mono ((hle5.trans hle9).trans hle15))) en35 rfl rfl rfl rfl ?_; rintro _ w H20 hle21 ⟨A22, c23, rfl, hr24⟩ hM
    refine RW.step (Ex.move (.tuple #[.agg #[.int .i64 ((bothR (fun a b => a &&& b) n ws m vs).n), .slice A22 ((bothR (fun a b => a &&& b) n ws m vs).ws.length) c23], .int .i64 ((bothR (fun a b => a &&& b) n ws m vs).e)]) rfl) rfl rfl rfl ?_
    refine RW.step (Ex.extract rfl rfl) rfl rfl rfl ?_
    refine RW.step (Ex.extract rfl rfl) rfl rfl rfl ?_
    refine RW.store hM 1 (.agg #[.int .i64 ((bothR (fun a b => a &&& b) n ws m vs).n), .slice A22 ((bothR (fun a b => a &&& b) n ws m vs).ws.length) c23]) [.int .i64 ((bothR (fun a b => a &&& b) n ws m vs).n), .slice A22 ((bothR (fun a b => a &&& b) n ws m vs).ws.length) c23] [.int .i64 ((bothR (fun a b => a &&& b) n ws m vs).n), .slice A22 ((bothR (fun a b => a &&& b) n ws m vs).ws.length) c23] sz24 rfl rfl rfl (oneAll ⟨rfl, rfl, trivial⟩) rfl (Nat.le_of_ble_eq_true rfl) rfl [.box b19 24 [.int .i64 ((bothR (fun a b => a ||| b) n ws m vs).n), .slice A16 ((bothR (fun a b => a ||| b) n ws m vs).ws.length) c17], .box b13 24 [.int .i64 ((bothR (fun a b => a &&& b) n ws m vs).n), .slice A22 ((bothR (fun a b => a &&& b) n ws m vs).ws.length) c23], .box b2 24 [.int .i64 (m), .slice A2 vs.length c2], .box b1 24 [.int .i64 (n), .slice A1 ws.length c1]] rfl rfl rfl ?_; intro w hM
    refine RW.step (Ex.assign (.int .i64 ((bothR (fun a b => a &&& b) n ws m vs).e)) rfl) rfl rfl rfl ?_
    refine RW.nil ?_
    refine CW.seq ?_
    refine CW.region ?_
    refine RW.step (Ex.loadA hM 3 [.int .i64 (n), .slice A1 ws.length c1] ta24 rfl rfl rfl rfl) rfl rfl rfl ?_
    refine RW.step (Ex.loadA hM 2 [.int .i64 (m), .slice A2 vs.length c2] ta24 rfl rfl rfl rfl) rfl rfl rfl ?_
    refine RW.call hM (rAnd_ret _ _ n _ ws (hr1.mono (((hle5.trans hle9).trans hle15).trans hle21)) _ m _ vs (hr2.mono (((hle5.trans hle9).trans hle15).trans hle21))) en36 rfl rfl rfl rfl ?_; rintro _ w H25 hle26 ⟨A27, c28, rfl, hr29⟩ hM
    refine RW.step (Ex.move (.tuple #[.agg #[.int .i64 ((bothR (fun a b => a &&& b) n ws m vs).n), .slice A27 ((bothR (fun a b => a &&& b) n ws m vs).ws.length) c28], .int .i64 ((bothR (fun a b => a &&& b) n ws m vs).e)]) rfl) rfl rfl rfl ?_
    refine RW.step (Ex.extract rfl rfl) rfl rfl rfl ?_
    refine RW.step (Ex.extract rfl rfl) rfl rfl rfl ?_
    refine RW.store hM 0 (.agg #[.int .i64 ((bothR (fun a b => a &&& b) n ws m vs).n), .slice A27 ((bothR (fun a b => a &&& b) n ws m vs).ws.length) c28]) [.int .i64 ((bothR (fun a b => a &&& b) n ws m vs).n), .slice A27 ((bothR (fun a b => a &&& b) n ws m vs).ws.length) c28] [.int .i64 ((bothR (fun a b => a &&& b) n ws m vs).n), .slice A27 ((bothR (fun a b => a &&& b) n ws m vs).ws.length) c28] sz24 rfl rfl rfl (oneAll ⟨rfl, rfl, trivial⟩) rfl (Nat.le_of_ble_eq_true rfl) rfl [.box b19 24 [.int .i64 ((bothR (fun a b => a &&& b) n ws m vs).n), .slice A27 ((bothR (fun a b => a &&& b) n ws m vs).ws.length) c28], .box b13 24 [.int .i64 ((bothR (fun a b => a &&& b) n ws m vs).n), .slice A22 ((bothR (fun a b => a &&& b) n ws m vs).ws.length) c23], .box b2 24 [.int .i64 (m), .slice A2 vs.length c2], .box b1 24 [.int .i64 (n), .slice A1 ws.length c1]] rfl rfl rfl ?_; intro w hM
    refine RW.step (Ex.assign (.int .i64 ((bothR (fun a b => a &&& b) n ws m vs).e)) rfl) rfl rfl rfl ?_
    refine RW.nil ?_
    refine CW.seq ?_
    refine CW.seq ?_
    refine CW.region ?_
    refine RW.step (Ex.loadA hM 1 [.int .i64 ((bothR (fun a b => a &&& b) n ws m vs).n), .slice A22 ((bothR (fun a b => a &&& b) n ws m vs).ws.length) c23] ta24 rfl rfl rfl rfl) rfl rfl rfl ?_
    refine RW.step (Ex.loadA hM 0 [.int .i64 ((bothR (fun a b => a &&& b) n ws m vs).n), .slice A27 ((bothR (fun a b => a &&& b) n ws m vs).ws.length) c28] ta24 rfl rfl rfl rfl) rfl rfl rfl ?_
    refine RW.callV hM (RetV.yes (same_ret _ _ ((bothR (fun a b => a &&& b) n ws m vs).n) _ ((bothR (fun a b => a &&& b) n ws m vs).ws) (hr24.mono hle26) _ ((bothR (fun a b => a &&& b) n ws m vs).n) _ ((bothR (fun a b => a &&& b) n ws m vs).ws) hr29) ⟨rfl, rfl⟩) en17 rfl rfl rfl rfl ?_; intro w hM
    refine RW.step (Ex.notB (b := true) rfl) rfl rfl rfl ?_
    refine RW.step (Ex.move (.bool false) rfl) rfl rfl rfl ?_
    refine RW.step (Ex.move (.int .i64 ((bothR (fun a b => a &&& b) n ws m vs).e)) rfl) rfl rfl rfl ?_
    refine RW.step (Ex.move (.int .i64 ((bothR (fun a b => a &&& b) n ws m vs).e)) rfl) rfl rfl rfl ?_
    refine RW.step (Ex.no (Ex.neq rfl rfl) (fun h => h rfl)) rfl rfl rfl ?_
    refine RW.step (Ex.pickF (.bool false) rfl rfl) rfl rfl rfl ?_
    refine RW.nil ?_
    refine CW.cond_false rfl ?_
    refine CW.skip ?_
    refine CW.seq ?_
    refine CW.region ?_
    refine RW.step (Ex.loadA hM 3 [.int .i64 (n), .slice A1 ws.length c1] ta24 rfl rfl rfl rfl) rfl rfl rfl ?_
    refine RW.step (Ex.loadA hM 2 [.int .i64 (m), .slice A2 vs.length c2] ta24 rfl rfl rfl rfl) rfl rfl rfl ?_
    refine RW.call hM (bAndNot_ret _ _ n _ ws (hr1.mono ((((hle5.trans hle9).trans hle15).trans hle21).trans hle26)) _ m _ vs (hr2.mono ((((hle5.trans hle9).trans hle15).trans hle21).trans hle26))) en37 rfl rfl rfl rfl ?_; rintro _ w H30 hle31 ⟨A32, c33, rfl, hr34⟩ hM
    refine RW.step (Ex.move (.tuple #[.agg #[.int .i64 ((bothR (fun a b => a &&& ~~~b) n ws m vs).n), .slice A32 ((bothR (fun a b => a &&& ~~~b) n ws m vs).ws.length) c33], .int .i64 ((bothR (fun a b => a &&& ~~~b) n ws m vs).e)]) rfl) rfl rfl rfl ?_
    refine RW.step (Ex.extract rfl rfl) rfl rfl rfl ?_
    refine RW.step (Ex.extract rfl rfl) rfl rfl rfl ?_
    refine RW.store hM 1 (.agg #[.int .i64 ((bothR (fun a b => a &&& ~~~b) n ws m vs).n), .slice A32 ((bothR (fun a b => a &&& ~~~b) n ws m vs).ws.length) c33]) [.int .i64 ((bothR (fun a b => a &&& ~~~b) n ws m vs).n), .slice A32 ((bothR (fun a b => a &&& ~~~b) n ws m vs).ws.length) c33] [.int .i64 ((bothR (fun a b => a &&& ~~~b) n ws m vs).n), .slice A32 ((bothR (fun a b => a &&& ~~~b) n ws m vs).ws.length) c33] sz24 rfl rfl rfl (oneAll ⟨rfl, rfl, trivial⟩) rfl (Nat.le_of_ble_eq_true rfl) rfl [.box b19 24 [.int .i64 ((bothR (fun a b => a &&& b) n ws m vs).n), .slice A27 ((bothR (fun a b => a &&& b) n ws m vs).ws.length) c28], .box b13 24 [.int .i64 ((bothR (fun a b => a &&& ~~~b) n ws m vs).n), .slice A32 ((bothR (fun a b => a &&& ~~~b) n ws m vs).ws.length) c33], .box b2 24 [.int .i64 (m), .slice A2 vs.length c2], .box b1 24 [.int .i64 (n), .slice A1 ws.length c1]] rfl rfl rfl ?_; intro w hM
    refine RW.step (Ex.assign (.int .i64 ((bothR (fun a b => a &&& ~~~b) n ws m vs).e)) rfl) rfl rfl rfl ?_
    refine RW.nil ?_
    refine CW.seq ?_
    refine CW.region ?_
    refine RW.step (Ex.loadA hM 3 [.int .i64 (n), .slice A1 ws.length c1] ta24 rfl rfl rfl rfl) rfl rfl rfl ?_
    refine RW.step (Ex.loadA hM 2 [.int .i64 (m), .slice A2 vs.length c2] ta24 rfl rfl rfl rfl) rfl rfl rfl ?_
    refine RW.call hM (rAndNot_ret _ _ n _ ws (hr1.mono (((((hle5.trans hle9).trans hle15).trans hle21).trans hle26).trans hle31)) _ m _ vs (hr2.mono (((((hle5.trans hle9).trans hle15).trans hle21).trans hle26).trans hle31))) en38 rfl rfl rfl rfl ?_; rintro _ w H35 hle36 ⟨A37, c38, rfl, hr39⟩ hM
    refine RW.step (Ex.move (.tuple #[.agg #[.int .i64 ((bothR (fun a b => a &&& ~~~b) n ws m vs).n), .slice A37 ((bothR (fun a b => a &&& ~~~b) n ws m vs).ws.length) c38], .int .i64 ((bothR (fun a b => a &&& ~~~b) n ws m vs).e)]) rfl) rfl rfl rfl ?_
    refine RW.step (Ex.extract rfl rfl) rfl rfl rfl ?_
    refine RW.step (Ex.extract rfl rfl) rfl rfl rfl ?_
    refine RW.store hM 0 (.agg #[.int .i64 ((bothR (fun a b => a &&& ~~~b) n ws m vs).n), .slice A37 ((bothR (fun a b => a &&& ~~~b) n ws m vs).ws.length) c38]) [.int .i64 ((bothR (fun a b => a &&& ~~~b) n ws m vs).n), .slice A37 ((bothR (fun a b => a &&& ~~~b) n ws m vs).ws.length) c38] [.int .i64 ((bothR (fun a b => a &&& ~~~b) n ws m vs).n), .slice A37 ((bothR (fun a b => a &&& ~~~b) n ws m vs).ws.length) c38] sz24 rfl rfl rfl (oneAll ⟨rfl, rfl, trivial⟩) rfl (Nat.le_of_ble_eq_true rfl) rfl [.box b19 24 [.int .i64 ((bothR (fun a b => a &&& ~~~b) n ws m vs).n), .slice A37 ((bothR (fun a b => a &&& ~~~b) n ws m vs).ws.length) c38], .box b13 24 [.int .i64 ((bothR (fun a b => a &&& ~~~b) n ws m vs).n), .slice A32 ((bothR (fun a b => a &&& ~~~b) n ws m vs).ws.length) c33], .box b2 24 [.int .i64 (m), .slice A2 vs.length c2], .box b1 24 [.int .i64 (n), .slice A1 ws.length c1]] rfl rfl rfl ?_; intro w hM
    refine RW.step (Ex.assign (.int .i64 ((bothR (fun a b => a &&& ~~~b) n ws m vs).e)) rfl) rfl rfl rfl ?_
    refine RW.nil ?_
    refine CW.seq ?_
    refine CW.region ?_
    refine RW.callV hM (awake_ret _ (hT.mono ((((((hle5.trans hle9).trans hle15).trans hle21).trans hle26).trans hle31).trans hle36))) en12 rfl rfl rfl rfl ?_; intro w hM
    refine RW.step (Ex.move (.bool true) rfl) rfl rfl rfl ?_
    refine RW.step (Ex.loadA hM 1 [.int .i64 ((bothR (fun a b => a &&& ~~~b) n ws m vs).n), .slice A32 ((bothR (fun a b => a &&& ~~~b) n ws m vs).ws.length) c33] ta24 rfl rfl rfl rfl) rfl rfl rfl ?_
    refine RW.step (Ex.loadA hM 0 [.int .i64 ((bothR (fun a b => a &&& ~~~b) n ws m vs).n), .slice A37 ((bothR (fun a b => a &&& ~~~b) n ws m vs).ws.length) c38] ta24 rfl rfl rfl rfl) rfl rfl rfl ?_
    refine RW.callV hM (RetV.yes (same_ret _ _ ((bothR (fun a b => a &&& ~~~b) n ws m vs).n) _ ((bothR (fun a b => a &&& ~~~b) n ws m vs).ws) (hr34.mono hle36) _ ((bothR (fun a b => a &&& ~~~b) n ws m vs).n) _ ((bothR (fun a b => a &&& ~~~b) n ws m vs).ws) hr39) ⟨rfl, rfl⟩) en17 rfl rfl rfl rfl ?_; intro w hM
    refine RW.step (Ex.pickT (.bool true) rfl rfl) rfl rfl rfl ?_
    refine RW.step (Ex.move (.bool true) rfl) rfl rfl rfl ?_
    refine RW.step (Ex.move (.int .i64 ((bothR (fun a b => a &&& ~~~b) n ws m vs).e)) rfl) rfl rfl rfl ?_
    refine RW.step (Ex.move (.int .i64 ((bothR (fun a b => a &&& ~~~b) n ws m vs).e)) rfl) rfl rfl rfl ?_
    refine RW.step (Ex.yes (Ex.eql rfl rfl) rfl) rfl rfl rfl ?_
    refine RW.step (Ex.pickT (.bool true) rfl rfl) rfl rfl rfl ?_
    refine RW.step (Ex.assign (.bool true) rfl) rfl rfl rfl ?_
    refine RW.nil ?_
    refine CW.ret ?_
    refine end_tmp (.inl rfl) rfl (.bool true) rfl ?_
    exact ⟨_, _, hM, rfl⟩

theorem bitmapExtents_ret (H : Hp) (A1 : Option Addr) (n : Int) (c1 : Nat) (ws : List (BitVec 64)) (hr1 : RdC H A1 ws.length c1 1 (ws.map u64)) (z : Int) (Ae : Option Addr) (ce : Nat) (es : List (Int × Int)) (hre : RdC H Ae es.length ce 2 (es.flatMap eC)) (hT : TabH H 0) : RetV Tryd.prog 6 #[.agg #[.int .i64 n, .slice A1 ws.length c1], .int .i64 z, .slice Ae es.length ce] H (.bool true) := by
  have hL := hr1.2.2.1
  have hL1 := hr1.2.1
  unfold maxLen at hL
  have hE := hre.2.2.1
  have hE1 := hre.2.1
  unfold maxLen at hE
  refine Ret.of_code Tryd.func6 rfl (Nat.le_of_ble_eq_true rfl) fun w0 hM => ?_
  refine CW.seq ?_
  refine CW.region ?_
  refine RW.box hM (.agg #[.int .i64 (n), .slice A1 ws.length c1]) [.int .i64 (n), .slice A1 ws.length c1] rfl rfl rfl rfl ?_; intro b1 w hM
  refine RW.step (Ex.assign (.bool false) rfl) rfl rfl rfl ?_
  refine RW.nil ?_
  refine CW.seq ?_
  refine CW.seq ?_
  refine CW.region ?_
  refine RW.step (Ex.loadA hM 0 [.int .i64 (n), .slice A1 ws.length c1] ta24 rfl rfl rfl rfl) rfl rfl rfl ?_
  refine RW.buildSlice hM st54 tz24 [(0, .agg #[.int .i64 (n), .slice A1 ws.length c1])] [.int .i64 (n), .slice A1 ws.length c1] (by decide) rfl rfl rfl (by decide) rfl rfl ?_; intro b2 w hM
  obtain ⟨H3, hM, hle4, hr5⟩ := hM.giveRow (k := 0) rfl
  replace hr5 : RdC H3 (some ⟨b2, 0, none⟩) (List.length (α := BV) ([⟨n, A1, ws.length, c1⟩])) 1 2 (List.flatMap bvC ([⟨n, A1, ws.length, c1⟩])) := hr5
  replace hM : Mem w0 H w H3 [.box b1 24 [.int .i64 (n), .slice A1 ws.length c1]] := hM
  refine RW.callV hM (few_ret _ _ _ [⟨n, A1, ws.length, c1⟩] hr5) en11 rfl rfl rfl rfl ?_; intro w hM
  refine RW.step (Ex.not rfl) rfl rfl rfl ?_
  refine RW.step (Ex.move (.bool (decide (¬ (fewB [⟨n, A1, ws.length, c1⟩] = true)))) rfl) rfl rfl rfl ?_
  refine RW.split 15 rfl (fun hc6 => ?_) (fun hc6 => ?_)
  · -- yes
    refine RW.pass rfl rfl ?_
    refine RW.pass rfl rfl ?_
    refine RW.pass rfl rfl ?_
    refine RW.step (Ex.pickT (.bool true) rfl rfl) rfl rfl rfl ?_
    refine RW.nil ?_
    refine CW.cond_true rfl ?_
    refine CW.seq ?_
    refine CW.region ?_
    refine RW.callV hM (awake_ret _ (hT.mono hle4)) en12 rfl rfl rfl rfl ?_; intro w hM
    refine RW.step (Ex.assign (.bool true) rfl) rfl rfl rfl ?_
    refine RW.nil ?_
    refine CW.ret ?_
    refine thenQ_ret ?_
    refine end_tmp (.inl rfl) rfl (.bool true) rfl ?_
    exact ⟨_, _, hM, rfl⟩
  · -- no
    refine RW.step (Ex.move (.slice Ae es.length ce) rfl) rfl rfl rfl ?_
    refine RW.step (Ex.len st44.1 rfl) rfl rfl rfl ?_
    refine RW.step (Ex.gtr rfl rfl) rfl rfl rfl ?_
    refine RW.step (Ex.pickF (.bool (decide (20 < (es.length : Int)))) rfl rfl) rfl rfl rfl ?_
    refine RW.nil ?_
    refine CW.cond_dec rfl (fun hc7 => ?_) (fun hc7 => ?_)
    · -- yes: 20 < (es.length : Int)
      refine CW.seq ?_
      refine CW.region ?_
      refine RW.callV hM (awake_ret _ (hT.mono hle4)) en12 rfl rfl rfl rfl ?_; intro w hM
      refine RW.step (Ex.assign (.bool true) rfl) rfl rfl rfl ?_
      refine RW.nil ?_
      refine CW.ret ?_
      refine thenQ_ret ?_
      refine end_tmp (.inl rfl) rfl (.bool true) rfl ?_
      exact ⟨_, _, hM, rfl⟩
    · -- no: 20 < (es.length : Int)
      refine CW.skip ?_
      refine CW.seq ?_
      refine CW.region ?_
      refine RW.step (Ex.move (.int .i64 (z)) rfl) rfl rfl rfl ?_
      refine RW.step (Ex.move (.slice Ae es.length ce) rfl) rfl rfl rfl ?_
      refine RW.call hM (fromExt_ret _ z _ _ es (hre.mono hle4)) en28 rfl rfl rfl rfl ?_; rintro _ w H8 hle9 ⟨A10, c11, rfl, hr12⟩ hM
      refine RW.step (Ex.move (.tuple #[.agg #[.int .i64 ((fromR (newR z) es).n), .slice A10 ((fromR (newR z) es).ws.length) c11], .int .i64 ((fromR (newR z) es).e)]) rfl) rfl rfl rfl ?_
      refine RW.step (Ex.extract rfl rfl) rfl rfl rfl ?_
      refine RW.step (Ex.extract rfl rfl) rfl rfl rfl ?_
      refine RW.alloc hM tz24 [.int .i64 (0), .slice none 0 0] rfl rfl rfl ?_; intro b13 w hM
      refine RW.store hM 0 (.agg #[.int .i64 ((fromR (newR z) es).n), .slice A10 ((fromR (newR z) es).ws.length) c11]) [.int .i64 ((fromR (newR z) es).n), .slice A10 ((fromR (newR z) es).ws.length) c11] [.int .i64 ((fromR (newR z) es).n), .slice A10 ((fromR (newR z) es).ws.length) c11] sz24 rfl rfl rfl (oneAll ⟨rfl, rfl, trivial⟩) rfl (Nat.le_of_ble_eq_true rfl) rfl [.box b13 24 [.int .i64 ((fromR (newR z) es).n), .slice A10 ((fromR (newR z) es).ws.length) c11], .box b1 24 [.int .i64 (n), .slice A1 ws.length c1]] rfl rfl rfl ?_; intro w hM
      refine RW.step (Ex.assign (.int .i64 ((fromR (newR z) es).e)) rfl) rfl rfl rfl ?_
      refine RW.nil ?_
      refine CW.seq ?_
      refine CW.region ?_
      refine RW.step (Ex.move (.int .i64 (z)) rfl) rfl rfl rfl ?_
      refine RW.step (Ex.move (.slice Ae es.length ce) rfl) rfl rfl rfl ?_
      refine RW.call hM (rfromExt_ret _ z _ _ es (hre.mono (hle4.trans hle9))) en29 rfl rfl rfl rfl ?_; rintro _ w H14 hle15 ⟨A16, c17, rfl, hr18⟩ hM
      refine RW.step (Ex.move (.tuple #[.agg #[.int .i64 ((fromR (newR z) es).n), .slice A16 ((fromR (newR z) es).ws.length) c17], .int .i64 ((fromR (newR z) es).e)]) rfl) rfl rfl rfl ?_
      refine RW.step (Ex.extract rfl rfl) rfl rfl rfl ?_
      refine RW.step (Ex.extract rfl rfl) rfl rfl rfl ?_
      refine RW.alloc hM tz24 [.int .i64 (0), .slice none 0 0] rfl rfl rfl ?_; intro b19 w hM
      refine RW.store hM 0 (.agg #[.int .i64 ((fromR (newR z) es).n), .slice A16 ((fromR (newR z) es).ws.length) c17]) [.int .i64 ((fromR (newR z) es).n), .slice A16 ((fromR (newR z) es).ws.length) c17] [.int .i64 ((fromR (newR z) es).n), .slice A16 ((fromR (newR z) es).ws.length) c17] sz24 rfl rfl rfl (oneAll ⟨rfl, rfl, trivial⟩) rfl (Nat.le_of_ble_eq_true rfl) rfl [.box b19 24 [.int .i64 ((fromR (newR z) es).n), .slice A16 ((fromR (newR z) es).ws.length) c17], .box b13 24 [.int .i64 ((fromR (newR z) es).n), .slice A10 ((fromR (newR z) es).ws.length) c11], .box b1 24 [.int .i64 (n), .slice A1 ws.length c1]] rfl rfl rfl ?_; intro w hM
      refine RW.step (Ex.assign (.int .i64 ((fromR (newR z) es).e)) rfl) rfl rfl rfl ?_
      refine RW.nil ?_
      refine CW.seq ?_
      refine CW.drawH 18 [(fun Hq us E => us = [.bool true] ∧ E = [] ∧ True), (fun Hq us E => us = [.bool true] ∧ E = [] ∧ True), (fun Hq us E => us = [.agg #[.int .i64 (n), .slice A1 ws.length c1]] ∧ E = [] ∧ True), (fun Hq us E => ∃ (A20 : Option Addr), ∃ (c21 : Nat), us = [.slice A20 ((extR n ws).length) c21] ∧ E = [] ∧ RdC Hq A20 (extR n ws).length c21 2 ((extR n ws).flatMap eC) ∧ True), (fun Hq us E => us = [.agg #[.int .i64 (n), .slice A1 ws.length c1]] ∧ E = [] ∧ True), (fun Hq us E => ∃ (A23 : Option Addr), ∃ (c24 : Nat), us = [.slice A23 ((extR n ws).length) c24] ∧ E = [] ∧ RdC Hq A23 (extR n ws).length c24 2 ((extR n ws).flatMap eC) ∧ True), (fun Hq us E => us = [.bool true] ∧ E = [] ∧ True), (fun Hq us E => us = [.bool true] ∧ E = [] ∧ True), (fun Hq us E => us = [.bool true] ∧ E = [] ∧ True), (fun Hq us E => us = [.agg #[.int .i64 ((fromR (newR z) es).n), .slice A10 ((fromR (newR z) es).ws.length) c11]] ∧ E = [] ∧ True), (fun Hq us E => us = [.agg #[.int .i64 ((fromR (newR z) es).n), .slice A16 ((fromR (newR z) es).ws.length) c17]] ∧ E = [] ∧ True), (fun Hq us E => us = [.bool true] ∧ E = [] ∧ True), (fun Hq us E => us = [.bool true] ∧ E = [] ∧ True), (fun Hq us E => us = [.bool true] ∧ E = [] ∧ True), (fun Hq us E => us = [.int .i64 ((fromR (newR z) es).e)] ∧ E = [] ∧ True), (fun Hq us E => us = [.int .i64 ((fromR (newR z) es).e)] ∧ E = [] ∧ True), (fun Hq us E => us = [.bool true] ∧ E = [] ∧ True), (fun Hq us E => us = [.bool true] ∧ E = [] ∧ True)]
        (fun k => [[0], [1], [2], [3], [4], [5], [6], [7], [8], [9], [10], [11], [12], [13], [14], [15], [16], [17]].getD k []) (fun _ => none) (by kernel_rfl) hM (by kernel_rfl) (by kernel_rfl) (by kernel_rfl) rfl (by simp only [List.forall_mem_cons]; exact ⟨fun _ _ _ _ hle ⟨e1, e2, _⟩ => ⟨e1, e2, trivial⟩, fun _ _ _ _ hle ⟨e1, e2, _⟩ => ⟨e1, e2, trivial⟩, fun _ _ _ _ hle ⟨e1, e2, _⟩ => ⟨e1, e2, trivial⟩, fun _ _ _ _ hle ⟨A20, c21, e1, e2, hr22, _⟩ => ⟨A20, c21, e1, e2, hr22.mono hle, trivial⟩, fun _ _ _ _ hle ⟨e1, e2, _⟩ => ⟨e1, e2, trivial⟩, fun _ _ _ _ hle ⟨A23, c24, e1, e2, hr25, _⟩ => ⟨A23, c24, e1, e2, hr25.mono hle, trivial⟩, fun _ _ _ _ hle ⟨e1, e2, _⟩ => ⟨e1, e2, trivial⟩, fun _ _ _ _ hle ⟨e1, e2, _⟩ => ⟨e1, e2, trivial⟩, fun _ _ _ _ hle ⟨e1, e2, _⟩ => ⟨e1, e2, trivial⟩, fun _ _ _ _ hle ⟨e1, e2, _⟩ => ⟨e1, e2, trivial⟩, fun _ _ _ _ hle ⟨e1, e2, _⟩ => ⟨e1, e2, trivial⟩, fun _ _ _ _ hle ⟨e1, e2, _⟩ => ⟨e1, e2, trivial⟩, fun _ _ _ _ hle ⟨e1, e2, _⟩ => ⟨e1, e2, trivial⟩, fun _ _ _ _ hle ⟨e1, e2, _⟩ => ⟨e1, e2, trivial⟩, fun _ _ _ _ hle ⟨e1, e2, _⟩ => ⟨e1, e2, trivial⟩, fun _ _ _ _ hle ⟨e1, e2, _⟩ => ⟨e1, e2, trivial⟩, fun _ _ _ _ hle ⟨e1, e2, _⟩ => ⟨e1, e2, trivial⟩, fun _ _ _ _ hle ⟨e1, e2, _⟩ => ⟨e1, e2, trivial⟩, by simp⟩) ⟨?_, ?_, ?_, ?_, ?_, ?_, ?_, ?_, ?_, ?_, ?_, ?_, ?_, ?_, ?_, ?_, ?_, ?_, trivial⟩ ?_
      · intro H' σ' w R E hle hMR hE0 hE hp hf
        obtain rfl := hE0 rfl
        obtain ⟨τ, rfl⟩ := sl_canon (σ := σ') (l := []) trivial
        have hM : Mem w0 H w H' [.box b19 24 [.int .i64 ((fromR (newR z) es).n), .slice A16 ((fromR (newR z) es).ws.length) c17], .box b13 24 [.int .i64 ((fromR (newR z) es).n), .slice A10 ((fromR (newR z) es).ws.length) c11], .box b1 24 [.int .i64 (n), .slice A1 ws.length c1]] := hMR.sub (List.sublist_append_right R _)
        refine RW.callV hMR (awake_ret _ (hT.mono (((hle4.trans hle9).trans hle15).trans hle))) en12 rfl rfl rfl rfl ?_; intro w hMR
        exact RW.nil ⟨rfl, rfl, _, rfl, H', [], Hp.le.refl _, hMR, rfl, rfl, trivial⟩
      · intro H' σ' w R E hle hMR hE0 hE hp hf
        obtain rfl := hE0 rfl
        obtain ⟨_, hg⟩ := hp 0 (by decide) (by kernel_rfl)
        obtain ⟨e26, _, _⟩ := hg.get rfl
        have e27 : σ' 33 = .bool true := (List.cons.inj e26).1
        obtain ⟨τ, rfl⟩ := sl_canon (σ := σ') (l := [(33, .bool true)]) ⟨e27, trivial⟩
        have hM : Mem w0 H w H' [.box b19 24 [.int .i64 ((fromR (newR z) es).n), .slice A16 ((fromR (newR z) es).ws.length) c17], .box b13 24 [.int .i64 ((fromR (newR z) es).n), .slice A10 ((fromR (newR z) es).ws.length) c11], .box b1 24 [.int .i64 (n), .slice A1 ws.length c1]] := hMR.sub (List.sublist_append_right R _)
        exact RW.step (Ex.move (.bool true) rfl) rfl rfl rfl (RW.nil ⟨rfl, rfl, _, rfl, H', [], Hp.le.refl _, hMR, rfl, rfl, trivial⟩)
      · intro H' σ' w R E hle hMR hE0 hE hp hf
        obtain rfl := hE0 rfl
        obtain ⟨_, hg⟩ := hp 1 (by decide) (by kernel_rfl)
        obtain ⟨e28, _, _⟩ := hg.get rfl
        have e29 : σ' 34 = .bool true := (List.cons.inj e28).1
        obtain ⟨τ, rfl⟩ := sl_canon (σ := σ') (l := [(3, .pointer (some ⟨b1, 0, none⟩)), (34, .bool true)]) ⟨(hf 3 (by kernel_rfl)).trans rfl, e29, trivial⟩
        have hM : Mem w0 H w H' [.box b19 24 [.int .i64 ((fromR (newR z) es).n), .slice A16 ((fromR (newR z) es).ws.length) c17], .box b13 24 [.int .i64 ((fromR (newR z) es).n), .slice A10 ((fromR (newR z) es).ws.length) c11], .box b1 24 [.int .i64 (n), .slice A1 ws.length c1]] := hMR.sub (List.sublist_append_right R _)
        exact RW.step (Ex.loadA hM 2 [.int .i64 (n), .slice A1 ws.length c1] ta24 rfl rfl rfl rfl) rfl rfl rfl (RW.nil ⟨rfl, rfl, _, rfl, H', [], Hp.le.refl _, hMR, rfl, rfl, trivial⟩)
      · intro H' σ' w R E hle hMR hE0 hE hp hf
        obtain rfl := hE0 rfl
        obtain ⟨_, hg⟩ := hp 1 (by decide) (by kernel_rfl)
        obtain ⟨e30, _, _⟩ := hg.get rfl
        have e31 : σ' 34 = .bool true := (List.cons.inj e30).1
        obtain ⟨_, hg⟩ := hp 2 (by decide) (by kernel_rfl)
        obtain ⟨e32, _, _⟩ := hg.get rfl
        have e33 : σ' 35 = .agg #[.int .i64 (n), .slice A1 ws.length c1] := (List.cons.inj e32).1
        obtain ⟨τ, rfl⟩ := sl_canon (σ := σ') (l := [(34, .bool true), (35, .agg #[.int .i64 (n), .slice A1 ws.length c1])]) ⟨e31, e33, trivial⟩
        have hM : Mem w0 H w H' [.box b19 24 [.int .i64 ((fromR (newR z) es).n), .slice A16 ((fromR (newR z) es).ws.length) c17], .box b13 24 [.int .i64 ((fromR (newR z) es).n), .slice A10 ((fromR (newR z) es).ws.length) c11], .box b1 24 [.int .i64 (n), .slice A1 ws.length c1]] := hMR.sub (List.sublist_append_right R _)
        refine RW.call hMR (exts_ret _ _ n _ ws (hr1.mono (((hle4.trans hle9).trans hle15).trans hle)) (hT.mono (((hle4.trans hle9).trans hle15).trans hle))) en31 rfl rfl rfl rfl ?_; rintro _ w H9 hle9 ⟨A20, c21, rfl, hr22⟩ hMR
        exact RW.nil ⟨rfl, rfl, _, rfl, H9, [], hle9, hMR, A20, c21, rfl, rfl, hr22, trivial⟩
      · intro H' σ' w R E hle hMR hE0 hE hp hf
        obtain rfl := hE0 rfl
        obtain ⟨_, hg⟩ := hp 1 (by decide) (by kernel_rfl)
        obtain ⟨e34, _, _⟩ := hg.get rfl
        have e35 : σ' 34 = .bool true := (List.cons.inj e34).1
        obtain ⟨τ, rfl⟩ := sl_canon (σ := σ') (l := [(3, .pointer (some ⟨b1, 0, none⟩)), (34, .bool true)]) ⟨(hf 3 (by kernel_rfl)).trans rfl, e35, trivial⟩
        have hM : Mem w0 H w H' [.box b19 24 [.int .i64 ((fromR (newR z) es).n), .slice A16 ((fromR (newR z) es).ws.length) c17], .box b13 24 [.int .i64 ((fromR (newR z) es).n), .slice A10 ((fromR (newR z) es).ws.length) c11], .box b1 24 [.int .i64 (n), .slice A1 ws.length c1]] := hMR.sub (List.sublist_append_right R _)
        exact RW.step (Ex.loadA hM 2 [.int .i64 (n), .slice A1 ws.length c1] ta24 rfl rfl rfl rfl) rfl rfl rfl (RW.nil ⟨rfl, rfl, _, rfl, H', [], Hp.le.refl _, hMR, rfl, rfl, trivial⟩)
      · intro H' σ' w R E hle hMR hE0 hE hp hf
        obtain rfl := hE0 rfl
        obtain ⟨_, hg⟩ := hp 1 (by decide) (by kernel_rfl)
        obtain ⟨e36, _, _⟩ := hg.get rfl
        have e37 : σ' 34 = .bool true := (List.cons.inj e36).1
        obtain ⟨_, hg⟩ := hp 4 (by decide) (by kernel_rfl)
        obtain ⟨e38, _, _⟩ := hg.get rfl
        have e39 : σ' 37 = .agg #[.int .i64 (n), .slice A1 ws.length c1] := (List.cons.inj e38).1
        obtain ⟨τ, rfl⟩ := sl_canon (σ := σ') (l := [(34, .bool true), (37, .agg #[.int .i64 (n), .slice A1 ws.length c1])]) ⟨e37, e39, trivial⟩
        have hM : Mem w0 H w H' [.box b19 24 [.int .i64 ((fromR (newR z) es).n), .slice A16 ((fromR (newR z) es).ws.length) c17], .box b13 24 [.int .i64 ((fromR (newR z) es).n), .slice A10 ((fromR (newR z) es).ws.length) c11], .box b1 24 [.int .i64 (n), .slice A1 ws.length c1]] := hMR.sub (List.sublist_append_right R _)
        refine RW.call hMR (rexts_ret _ _ n _ ws (hr1.mono (((hle4.trans hle9).trans hle15).trans hle))) en32 rfl rfl rfl rfl ?_; rintro _ w H9 hle9 ⟨A23, c24, rfl, hr25⟩ hMR
        exact RW.nil ⟨rfl, rfl, _, rfl, H9, [], hle9, hMR, A23, c24, rfl, rfl, hr25, trivial⟩
      · intro H' σ' w R E hle hMR hE0 hE hp hf
        obtain rfl := hE0 rfl
        obtain ⟨_, hg⟩ := hp 1 (by decide) (by kernel_rfl)
        obtain ⟨e40, _, _⟩ := hg.get rfl
        have e41 : σ' 34 = .bool true := (List.cons.inj e40).1
        obtain ⟨_, hg⟩ := hp 3 (by decide) (by kernel_rfl)
        obtain ⟨A20, c21, e42, _, hr22, _⟩ := hg.get rfl
        have e43 : σ' 36 = .slice A20 ((extR n ws).length) c21 := (List.cons.inj e42).1
        obtain ⟨_, hg⟩ := hp 5 (by decide) (by kernel_rfl)
        obtain ⟨A23, c24, e44, _, hr25, _⟩ := hg.get rfl
        have e45 : σ' 38 = .slice A23 ((extR n ws).length) c24 := (List.cons.inj e44).1
        obtain ⟨τ, rfl⟩ := sl_canon (σ := σ') (l := [(34, .bool true), (36, .slice A20 ((extR n ws).length) c21), (38, .slice A23 ((extR n ws).length) c24)]) ⟨e41, e43, e45, trivial⟩
        have hM : Mem w0 H w H' [.box b19 24 [.int .i64 ((fromR (newR z) es).n), .slice A16 ((fromR (newR z) es).ws.length) c17], .box b13 24 [.int .i64 ((fromR (newR z) es).n), .slice A10 ((fromR (newR z) es).ws.length) c11], .box b1 24 [.int .i64 (n), .slice A1 ws.length c1]] := hMR.sub (List.sublist_append_right R _)
        refine RW.callV hMR (RetV.yes (sameExt_ret _ _ _ (extR n ws) hr22 _ _ (extR n ws) hr25) rfl) en30 rfl rfl rfl rfl ?_; intro w hMR
        exact RW.nil ⟨rfl, rfl, _, rfl, H', [], Hp.le.refl _, hMR, rfl, rfl, trivial⟩
      · intro H' σ' w R E hle hMR hE0 hE hp hf
        obtain rfl := hE0 rfl
        obtain ⟨_, hg⟩ := hp 1 (by decide) (by kernel_rfl)
        obtain ⟨e46, _, _⟩ := hg.get rfl
        have e47 : σ' 34 = .bool true := (List.cons.inj e46).1
        obtain ⟨_, hg⟩ := hp 6 (by decide) (by kernel_rfl)
        obtain ⟨e48, _, _⟩ := hg.get rfl
        have e49 : σ' 39 = .bool true := (List.cons.inj e48).1
        obtain ⟨τ, rfl⟩ := sl_canon (σ := σ') (l := [(34, .bool true), (39, .bool true)]) ⟨e47, e49, trivial⟩
        have hM : Mem w0 H w H' [.box b19 24 [.int .i64 ((fromR (newR z) es).n), .slice A16 ((fromR (newR z) es).ws.length) c17], .box b13 24 [.int .i64 ((fromR (newR z) es).n), .slice A10 ((fromR (newR z) es).ws.length) c11], .box b1 24 [.int .i64 (n), .slice A1 ws.length c1]] := hMR.sub (List.sublist_append_right R _)
        exact RW.step (Ex.pickT (.bool true) rfl rfl) rfl rfl rfl (RW.nil ⟨rfl, rfl, _, rfl, H', [], Hp.le.refl _, hMR, rfl, rfl, trivial⟩)
      · intro H' σ' w R E hle hMR hE0 hE hp hf
        obtain rfl := hE0 rfl
        obtain ⟨_, hg⟩ := hp 7 (by decide) (by kernel_rfl)
        obtain ⟨e50, _, _⟩ := hg.get rfl
        have e51 : σ' 40 = .bool true := (List.cons.inj e50).1
        obtain ⟨τ, rfl⟩ := sl_canon (σ := σ') (l := [(40, .bool true)]) ⟨e51, trivial⟩
        have hM : Mem w0 H w H' [.box b19 24 [.int .i64 ((fromR (newR z) es).n), .slice A16 ((fromR (newR z) es).ws.length) c17], .box b13 24 [.int .i64 ((fromR (newR z) es).n), .slice A10 ((fromR (newR z) es).ws.length) c11], .box b1 24 [.int .i64 (n), .slice A1 ws.length c1]] := hMR.sub (List.sublist_append_right R _)
        exact RW.step (Ex.move (.bool true) rfl) rfl rfl rfl (RW.nil ⟨rfl, rfl, _, rfl, H', [], Hp.le.refl _, hMR, rfl, rfl, trivial⟩)
      · intro H' σ' w R E hle hMR hE0 hE hp hf
        obtain rfl := hE0 rfl
        obtain ⟨_, hg⟩ := hp 8 (by decide) (by kernel_rfl)
        obtain ⟨e52, _, _⟩ := hg.get rfl
        have e53 : σ' 41 = .bool true := (List.cons.inj e52).1
        obtain ⟨τ, rfl⟩ := sl_canon (σ := σ') (l := [(7, .pointer (some ⟨b13, 0, none⟩)), (41, .bool true)]) ⟨(hf 7 (by kernel_rfl)).trans rfl, e53, trivial⟩
        have hM : Mem w0 H w H' [.box b19 24 [.int .i64 ((fromR (newR z) es).n), .slice A16 ((fromR (newR z) es).ws.length) c17], .box b13 24 [.int .i64 ((fromR (newR z) es).n), .slice A10 ((fromR (newR z) es).ws.length) c11], .box b1 24 [.int .i64 (n), .slice A1 ws.length c1]] := hMR.sub (List.sublist_append_right R _)
        exact RW.step (Ex.loadA hM 1 [.int .i64 ((fromR (newR z) es).n), .slice A10 ((fromR (newR z) es).ws.length) c11] ta24 rfl rfl rfl rfl) rfl rfl rfl (RW.nil ⟨rfl, rfl, _, rfl, H', [], Hp.le.refl _, hMR, rfl, rfl, trivial⟩)
      · intro H' σ' w R E hle hMR hE0 hE hp hf
        obtain rfl := hE0 rfl
        obtain ⟨_, hg⟩ := hp 8 (by decide) (by kernel_rfl)
        obtain ⟨e54, _, _⟩ := hg.get rfl
        have e55 : σ' 41 = .bool true := (List.cons.inj e54).1
        obtain ⟨τ, rfl⟩ := sl_canon (σ := σ') (l := [(9, .pointer (some ⟨b19, 0, none⟩)), (41, .bool true)]) ⟨(hf 9 (by kernel_rfl)).trans rfl, e55, trivial⟩
        have hM : Mem w0 H w H' [.box b19 24 [.int .i64 ((fromR (newR z) es).n), .slice A16 ((fromR (newR z) es).ws.length) c17], .box b13 24 [.int .i64 ((fromR (newR z) es).n), .slice A10 ((fromR (newR z) es).ws.length) c11], .box b1 24 [.int .i64 (n), .slice A1 ws.length c1]] := hMR.sub (List.sublist_append_right R _)
        exact RW.step (Ex.loadA hM 0 [.int .i64 ((fromR (newR z) es).n), .slice A16 ((fromR (newR z) es).ws.length) c17] ta24 rfl rfl rfl rfl) rfl rfl rfl (RW.nil ⟨rfl, rfl, _, rfl, H', [], Hp.le.refl _, hMR, rfl, rfl, trivial⟩)
      · intro H' σ' w R E hle hMR hE0 hE hp hf
        obtain rfl := hE0 rfl
        obtain ⟨_, hg⟩ := hp 8 (by decide) (by kernel_rfl)
        obtain ⟨e56, _, _⟩ := hg.get rfl
        have e57 : σ' 41 = .bool true := (List.cons.inj e56).1
        obtain ⟨_, hg⟩ := hp 9 (by decide) (by kernel_rfl)
        obtain ⟨e58, _, _⟩ := hg.get rfl
        have e59 : σ' 42 = .agg #[.int .i64 ((fromR (newR z) es).n), .slice A10 ((fromR (newR z) es).ws.length) c11] := (List.cons.inj e58).1
        obtain ⟨_, hg⟩ := hp 10 (by decide) (by kernel_rfl)
        obtain ⟨e60, _, _⟩ := hg.get rfl
        have e61 : σ' 43 = .agg #[.int .i64 ((fromR (newR z) es).n), .slice A16 ((fromR (newR z) es).ws.length) c17] := (List.cons.inj e60).1
        obtain ⟨τ, rfl⟩ := sl_canon (σ := σ') (l := [(41, .bool true), (42, .agg #[.int .i64 ((fromR (newR z) es).n), .slice A10 ((fromR (newR z) es).ws.length) c11]), (43, .agg #[.int .i64 ((fromR (newR z) es).n), .slice A16 ((fromR (newR z) es).ws.length) c17])]) ⟨e57, e59, e61, trivial⟩
        have hM : Mem w0 H w H' [.box b19 24 [.int .i64 ((fromR (newR z) es).n), .slice A16 ((fromR (newR z) es).ws.length) c17], .box b13 24 [.int .i64 ((fromR (newR z) es).n), .slice A10 ((fromR (newR z) es).ws.length) c11], .box b1 24 [.int .i64 (n), .slice A1 ws.length c1]] := hMR.sub (List.sublist_append_right R _)
        refine RW.callV hMR (RetV.yes (same_ret _ _ ((fromR (newR z) es).n) _ ((fromR (newR z) es).ws) (hr12.mono (hle15.trans hle)) _ ((fromR (newR z) es).n) _ ((fromR (newR z) es).ws) (hr18.mono hle)) ⟨rfl, rfl⟩) en17 rfl rfl rfl rfl ?_; intro w hMR
        exact RW.nil ⟨rfl, rfl, _, rfl, H', [], Hp.le.refl _, hMR, rfl, rfl, trivial⟩
      · intro H' σ' w R E hle hMR hE0 hE hp hf
        obtain rfl := hE0 rfl
        obtain ⟨_, hg⟩ := hp 8 (by decide) (by kernel_rfl)
        obtain ⟨e62, _, _⟩ := hg.get rfl
        have e63 : σ' 41 = .bool true := (List.cons.inj e62).1
        obtain ⟨_, hg⟩ := hp 11 (by decide) (by kernel_rfl)
        obtain ⟨e64, _, _⟩ := hg.get rfl
        have e65 : σ' 44 = .bool true := (List.cons.inj e64).1
        obtain ⟨τ, rfl⟩ := sl_canon (σ := σ') (l := [(41, .bool true), (44, .bool true)]) ⟨e63, e65, trivial⟩
        have hM : Mem w0 H w H' [.box b19 24 [.int .i64 ((fromR (newR z) es).n), .slice A16 ((fromR (newR z) es).ws.length) c17], .box b13 24 [.int .i64 ((fromR (newR z) es).n), .slice A10 ((fromR (newR z) es).ws.length) c11], .box b1 24 [.int .i64 (n), .slice A1 ws.length c1]] := hMR.sub (List.sublist_append_right R _)
        exact RW.step (Ex.pickT (.bool true) rfl rfl) rfl rfl rfl (RW.nil ⟨rfl, rfl, _, rfl, H', [], Hp.le.refl _, hMR, rfl, rfl, trivial⟩)
      · intro H' σ' w R E hle hMR hE0 hE hp hf
        obtain rfl := hE0 rfl
        obtain ⟨_, hg⟩ := hp 12 (by decide) (by kernel_rfl)
        obtain ⟨e66, _, _⟩ := hg.get rfl
        have e67 : σ' 45 = .bool true := (List.cons.inj e66).1
        obtain ⟨τ, rfl⟩ := sl_canon (σ := σ') (l := [(45, .bool true)]) ⟨e67, trivial⟩
        have hM : Mem w0 H w H' [.box b19 24 [.int .i64 ((fromR (newR z) es).n), .slice A16 ((fromR (newR z) es).ws.length) c17], .box b13 24 [.int .i64 ((fromR (newR z) es).n), .slice A10 ((fromR (newR z) es).ws.length) c11], .box b1 24 [.int .i64 (n), .slice A1 ws.length c1]] := hMR.sub (List.sublist_append_right R _)
        exact RW.step (Ex.move (.bool true) rfl) rfl rfl rfl (RW.nil ⟨rfl, rfl, _, rfl, H', [], Hp.le.refl _, hMR, rfl, rfl, trivial⟩)
      · intro H' σ' w R E hle hMR hE0 hE hp hf
        obtain rfl := hE0 rfl
        obtain ⟨_, hg⟩ := hp 13 (by decide) (by kernel_rfl)
        obtain ⟨e68, _, _⟩ := hg.get rfl
        have e69 : σ' 46 = .bool true := (List.cons.inj e68).1
        obtain ⟨τ, rfl⟩ := sl_canon (σ := σ') (l := [(8, .int .i64 ((fromR (newR z) es).e)), (46, .bool true)]) ⟨(hf 8 (by kernel_rfl)).trans rfl, e69, trivial⟩
        have hM : Mem w0 H w H' [.box b19 24 [.int .i64 ((fromR (newR z) es).n), .slice A16 ((fromR (newR z) es).ws.length) c17], .box b13 24 [.int .i64 ((fromR (newR z) es).n), .slice A10 ((fromR (newR z) es).ws.length) c11], .box b1 24 [.int .i64 (n), .slice A1 ws.length c1]] := hMR.sub (List.sublist_append_right R _)
        exact RW.step (Ex.move (.int .i64 ((fromR (newR z) es).e)) rfl) rfl rfl rfl (RW.nil ⟨rfl, rfl, _, rfl, H', [], Hp.le.refl _, hMR, rfl, rfl, trivial⟩)
      · intro H' σ' w R E hle hMR hE0 hE hp hf
        obtain rfl := hE0 rfl
        obtain ⟨_, hg⟩ := hp 13 (by decide) (by kernel_rfl)
        obtain ⟨e70, _, _⟩ := hg.get rfl
        have e71 : σ' 46 = .bool true := (List.cons.inj e70).1
        obtain ⟨τ, rfl⟩ := sl_canon (σ := σ') (l := [(10, .int .i64 ((fromR (newR z) es).e)), (46, .bool true)]) ⟨(hf 10 (by kernel_rfl)).trans rfl, e71, trivial⟩
        have hM : Mem w0 H w H' [.box b19 24 [.int .i64 ((fromR (newR z) es).n), .slice A16 ((fromR (newR z) es).ws.length) c17], .box b13 24 [.int .i64 ((fromR (newR z) es).n), .slice A10 ((fromR (newR z) es).ws.length) c11], .box b1 24 [.int .i64 (n), .slice A1 ws.length c1]] := hMR.sub (List.sublist_append_right R _)
        exact RW.step (Ex.move (.int .i64 ((fromR (newR z) es).e)) rfl) rfl rfl rfl (RW.nil ⟨rfl, rfl, _, rfl, H', [], Hp.le.refl _, hMR, rfl, rfl, trivial⟩)
      · intro H' σ' w R E hle hMR hE0 hE hp hf
        obtain rfl := hE0 rfl
        obtain ⟨_, hg⟩ := hp 13 (by decide) (by kernel_rfl)
        obtain ⟨e72, _, _⟩ := hg.get rfl
        have e73 : σ' 46 = .bool true := (List.cons.inj e72).1
        obtain ⟨_, hg⟩ := hp 14 (by decide) (by kernel_rfl)
        obtain ⟨e74, _, _⟩ := hg.get rfl
        have e75 : σ' 47 = .int .i64 ((fromR (newR z) es).e) := (List.cons.inj e74).1
        obtain ⟨_, hg⟩ := hp 15 (by decide) (by kernel_rfl)
        obtain ⟨e76, _, _⟩ := hg.get rfl
        have e77 : σ' 48 = .int .i64 ((fromR (newR z) es).e) := (List.cons.inj e76).1
        obtain ⟨τ, rfl⟩ := sl_canon (σ := σ') (l := [(46, .bool true), (47, .int .i64 ((fromR (newR z) es).e)), (48, .int .i64 ((fromR (newR z) es).e))]) ⟨e73, e75, e77, trivial⟩
        have hM : Mem w0 H w H' [.box b19 24 [.int .i64 ((fromR (newR z) es).n), .slice A16 ((fromR (newR z) es).ws.length) c17], .box b13 24 [.int .i64 ((fromR (newR z) es).n), .slice A10 ((fromR (newR z) es).ws.length) c11], .box b1 24 [.int .i64 (n), .slice A1 ws.length c1]] := hMR.sub (List.sublist_append_right R _)
        exact RW.step (Ex.yes (Ex.eql rfl rfl) rfl) rfl rfl rfl (RW.nil ⟨rfl, rfl, _, rfl, H', [], Hp.le.refl _, hMR, rfl, rfl, trivial⟩)
      · intro H' σ' w R E hle hMR hE0 hE hp hf
        obtain rfl := hE0 rfl
        obtain ⟨_, hg⟩ := hp 13 (by decide) (by kernel_rfl)
        obtain ⟨e78, _, _⟩ := hg.get rfl
        have e79 : σ' 46 = .bool true := (List.cons.inj e78).1
        obtain ⟨_, hg⟩ := hp 16 (by decide) (by kernel_rfl)
        obtain ⟨e80, _, _⟩ := hg.get rfl
        have e81 : σ' 49 = .bool true := (List.cons.inj e80).1
        obtain ⟨τ, rfl⟩ := sl_canon (σ := σ') (l := [(46, .bool true), (49, .bool true)]) ⟨e79, e81, trivial⟩
        have hM : Mem w0 H w H' [.box b19 24 [.int .i64 ((fromR (newR z) es).n), .slice A16 ((fromR (newR z) es).ws.length) c17], .box b13 24 [.int .i64 ((fromR (newR z) es).n), .slice A10 ((fromR (newR z) es).ws.length) c11], .box b1 24 [.int .i64 (n), .slice A1 ws.length c1]] := hMR.sub (List.sublist_append_right R _)
        exact RW.step (Ex.pickT (.bool true) rfl rfl) rfl rfl rfl (RW.nil ⟨rfl, rfl, _, rfl, H', [], Hp.le.refl _, hMR, rfl, rfl, trivial⟩)
      · intro H82 σ' w X hle83 hM hX hf
        obtain ⟨_, g0, y0⟩ := hX 0 (by decide)
        obtain ⟨_, rfl, _⟩ := g0.get rfl
        replace y0 : X 0 = [] := y0
        obtain ⟨_, g0, y1⟩ := hX 1 (by decide)
        obtain ⟨_, rfl, _⟩ := g0.get rfl
        replace y1 : X 1 = [] := y1
        obtain ⟨_, g0, y2⟩ := hX 2 (by decide)
        obtain ⟨_, rfl, _⟩ := g0.get rfl
        replace y2 : X 2 = [] := y2
        obtain ⟨_, g0, y3⟩ := hX 3 (by decide)
        obtain ⟨_, _, _, rfl, _, _⟩ := g0.get rfl
        replace y3 : X 3 = [] := y3
        obtain ⟨_, g0, y4⟩ := hX 4 (by decide)
        obtain ⟨_, rfl, _⟩ := g0.get rfl
        replace y4 : X 4 = [] := y4
        obtain ⟨_, g0, y5⟩ := hX 5 (by decide)
        obtain ⟨_, _, _, rfl, _, _⟩ := g0.get rfl
        replace y5 : X 5 = [] := y5
        obtain ⟨_, g0, y6⟩ := hX 6 (by decide)
        obtain ⟨_, rfl, _⟩ := g0.get rfl
        replace y6 : X 6 = [] := y6
        obtain ⟨_, g0, y7⟩ := hX 7 (by decide)
        obtain ⟨_, rfl, _⟩ := g0.get rfl
        replace y7 : X 7 = [] := y7
        obtain ⟨_, g0, y8⟩ := hX 8 (by decide)
        obtain ⟨_, rfl, _⟩ := g0.get rfl
        replace y8 : X 8 = [] := y8
        obtain ⟨_, g0, y9⟩ := hX 9 (by decide)
        obtain ⟨_, rfl, _⟩ := g0.get rfl
        replace y9 : X 9 = [] := y9
        obtain ⟨_, g0, y10⟩ := hX 10 (by decide)
        obtain ⟨_, rfl, _⟩ := g0.get rfl
        replace y10 : X 10 = [] := y10
        obtain ⟨_, g0, y11⟩ := hX 11 (by decide)
        obtain ⟨_, rfl, _⟩ := g0.get rfl
        replace y11 : X 11 = [] := y11
        obtain ⟨_, g0, y12⟩ := hX 12 (by decide)
        obtain ⟨_, rfl, _⟩ := g0.get rfl
        replace y12 : X 12 = [] := y12
        obtain ⟨_, g0, y13⟩ := hX 13 (by decide)
        obtain ⟨_, rfl, _⟩ := g0.get rfl
        replace y13 : X 13 = [] := y13
        obtain ⟨_, g0, y14⟩ := hX 14 (by decide)
        obtain ⟨_, rfl, _⟩ := g0.get rfl
        replace y14 : X 14 = [] := y14
        obtain ⟨_, g0, y15⟩ := hX 15 (by decide)
        obtain ⟨_, rfl, _⟩ := g0.get rfl
        replace y15 : X 15 = [] := y15
        obtain ⟨_, g0, y16⟩ := hX 16 (by decide)
        obtain ⟨_, rfl, _⟩ := g0.get rfl
        replace y16 : X 16 = [] := y16
        obtain ⟨_, g0, y17⟩ := hX 17 (by decide)
        obtain ⟨e84, rfl, _⟩ := g0.get rfl
        have e85 : σ' 50 = .bool true := (List.cons.inj e84).1
        replace y17 : X 17 = [] := y17
        have hfl : flatX X 18 = [] := by
          show X 0 ++ (X 1 ++ (X 2 ++ (X 3 ++ (X 4 ++ (X 5 ++ (X 6 ++ (X 7 ++ (X 8 ++ (X 9 ++ (X 10 ++ (X 11 ++ (X 12 ++ (X 13 ++ (X 14 ++ (X 15 ++ (X 16 ++ (X 17 ++ []))))))))))))))))) = _
          rw [y0, y1, y2, y3, y4, y5, y6, y7, y8, y9, y10, y11, y12, y13, y14, y15, y16, y17]; rfl
        rw [hfl] at hM
        obtain ⟨τ, rfl⟩ := sl_canon (σ := σ') (l := [(6, .bool false), (50, .bool true)]) ⟨(hf 6 (by kernel_rfl)).trans rfl, e85, trivial⟩
        replace hM : Mem w0 H w H82 [.box b19 24 [.int .i64 ((fromR (newR z) es).n), .slice A16 ((fromR (newR z) es).ws.length) c17], .box b13 24 [.int .i64 ((fromR (newR z) es).n), .slice A10 ((fromR (newR z) es).ws.length) c11], .box b1 24 [.int .i64 (n), .slice A1 ws.length c1]] := hM
        refine RW.step (Ex.assign (.bool true) rfl) rfl rfl rfl ?_
        refine RW.nil ?_
        refine CW.ret ?_
        refine end_tmp (.inl rfl) rfl (.bool true) rfl ?_
        exact ⟨_, _, hM, rfl⟩

end Go.Proofs.YtackllehpecfgaaDoor
