/- package bitmap and its reference: extents, counts -/
import Derived.Test.YtackllehpecfgaaDoorBm4
namespace Go.Proofs.YtackllehpecfgaaDoor
open Go.RowKit

theorem fromExt_ret (H : Hp) (n : Int) (Ae : Option Addr) (ce : Nat) (es : List (Int × Int)) (hre : RdC H Ae es.length ce 2 (es.flatMap eC)) : Ret Tryd.prog 28 #[.int .i64 n, .slice Ae es.length ce] H (BRv (fromR (newR n) es)) := by
  have hE := hre.2.2.1
  have hE1 := hre.2.1
  unfold maxLen at hE
  refine Ret.of_code Tryd.func28 rfl (Nat.le_of_ble_eq_true rfl) fun w0 hM => ?_
  refine CW.seq ?_
  refine CW.region ?_
  refine RW.alloc hM tz24 [.int .i64 (0), .slice none 0 0] rfl rfl rfl ?_; intro b1 w hM
  refine RW.step (Ex.assign (.int .i64 (0)) rfl) rfl rfl rfl ?_
  refine RW.nil ?_
  refine CW.seq ?_
  refine CW.region ?_
  refine RW.step (Ex.move (.int .i64 (n)) rfl) rfl rfl rfl ?_
  refine RW.call hM (new_ret _ n) en18 rfl rfl rfl rfl ?_; rintro _ w H2 hle3 ⟨A4, c5, rfl, hr6⟩ hM
  refine RW.step (Ex.move (.tuple #[.agg #[.int .i64 ((newR n).n), .slice A4 ((newR n).ws.length) c5], .int .i64 ((newR n).e)]) rfl) rfl rfl rfl ?_
  refine RW.step (Ex.extract rfl rfl) rfl rfl rfl ?_
  refine RW.step (Ex.extract rfl rfl) rfl rfl rfl ?_
  refine RW.alloc hM tz24 [.int .i64 (0), .slice none 0 0] rfl rfl rfl ?_; intro b7 w hM
  refine RW.store hM 0 (.agg #[.int .i64 ((newR n).n), .slice A4 ((newR n).ws.length) c5]) [.int .i64 ((newR n).n), .slice A4 ((newR n).ws.length) c5] [.int .i64 ((newR n).n), .slice A4 ((newR n).ws.length) c5] sz24 rfl rfl rfl (oneAll ⟨rfl, rfl, trivial⟩) rfl (Nat.le_of_ble_eq_true rfl) rfl [.box b7 24 [.int .i64 ((newR n).n), .slice A4 ((newR n).ws.length) c5], .box b1 24 [.int .i64 (0), .slice none 0 0]] rfl rfl rfl ?_; intro w hM
  refine RW.step (Ex.assign (.int .i64 ((newR n).e)) rfl) rfl rfl rfl ?_
  refine RW.nil ?_
  refine CW.seq ?_
  refine CW.seq ?_
  refine CW.region ?_
  refine RW.step (Ex.move (.int .i64 ((newR n).e)) rfl) rfl rfl rfl ?_
  refine RW.step (Ex.neq rfl rfl) rfl rfl rfl ?_
  refine RW.nil ?_
  refine CW.cond_dec rfl (fun hc8 => ?_) (fun hc8 => ?_)
  · -- yes: ((newR n).e) ≠ 0
    refine CW.seq ?_
    refine CW.region ?_
    refine RW.step (Ex.build bs24 [] [.int .i64 (0), .slice none 0 0] rfl rfl) rfl rfl rfl ?_
    refine RW.step (Ex.move (.int .i64 ((newR n).e)) rfl) rfl rfl rfl ?_
    refine RW.store hM 1 (.agg #[.int .i64 (0), .slice none 0 0]) [.int .i64 (0), .slice none 0 0] [.int .i64 (0), .slice none 0 0] sz24 rfl rfl rfl (oneAll ⟨rfl, rfl, trivial⟩) rfl (Nat.le_of_ble_eq_true rfl) rfl [.box b7 24 [.int .i64 ((newR n).n), .slice A4 ((newR n).ws.length) c5], .box b1 24 [.int .i64 (0), .slice none 0 0]] rfl rfl rfl ?_; intro w hM
    refine RW.step (Ex.assign (.int .i64 ((newR n).e)) rfl) rfl rfl rfl ?_
    refine RW.nil ?_
    refine CW.ret ?_
    refine thenQ_ret ?_
    refine end_cell_tmp (k := 1) (.inl rfl) rfl hM rfl (.int .i64 ((newR n).e)) rfl ta24 [.int .i64 (0), .slice none 0 0] rfl rfl ?_
    exact ⟨_, _, hM, BRv.bad ((fromR_err hc8 _).trans (newR_err hc8)) rfl⟩
  · -- no: ((newR n).e) ≠ 0
    refine CW.skip ?_
    refine CW.seq ?_
    refine CW.seq ?_
    refine CW.region ?_
    refine RW.step (Ex.move (.slice Ae es.length ce) rfl) rfl rfl rfl ?_
    refine RW.step (Ex.len st44.1 rfl) rfl rfl rfl ?_
    refine RW.step (Ex.move (.int .i64 (0)) rfl) rfl rfl rfl ?_
    refine RW.nil ?_
    refine CW.block ?_
    refine CW.loop (β := Nat) (fun (k : Nat) σ w => ∃ (r : BR), ∃ (Ar : Option Addr), ∃ (cr : Nat), ∃ Hl, H2.le Hl ∧ (∃ τ, σ = sl [(4, .pointer (some ⟨b1, 0, none⟩)), (6, .pointer (some ⟨b7, 0, none⟩)), (19, .slice Ae es.length ce), (20, .int .i64 ((es.length : Int))), (21, .int .i64 ((k : Int)))] τ) ∧ Mem w0 H w Hl [.box b7 24 [.int .i64 (r.n), .slice Ar r.ws.length cr], .box b1 24 [.int .i64 (0), .slice none 0 0]] ∧ (k ≤ es.length) ∧ (RdC Hl Ar r.ws.length cr 1 (r.ws.map u64)) ∧ (fromR (newR n) es = fromR r (es.drop k)) ∧ (r.e = 0) ∧ True) (fun k => es.length - k) (0) ⟨(newR n), A4, c5, H2, Hp.le.refl _, sl_canon ⟨rfl, rfl, rfl, rfl, (show Value.int _ _ = Value.int _ _ from congrArg (Value.int _) (by omega)), trivial⟩, hM, (by omega), hr6, rfl, (Classical.not_not.1 hc8), trivial⟩ ?_
    rintro k _ w ⟨r, Ar, cr, Hl, hle9, ⟨τ, rfl⟩, hM, hk, hrr, hfr, he0, -⟩
    refine CW.seq ?_
    refine CW.region ?_
    refine RW.step (Ex.lss rfl rfl) rfl rfl rfl ?_
    refine RW.nil ?_
    refine CW.seq ?_
    refine CW.cond_dec rfl (fun hc10 => ?_) (fun hc10 => ?_)
    · -- yes: (k : Int) < (es.length : Int)
      refine CW.skip ?_
      refine CW.seq ?_
      refine CW.block ?_
      refine CW.seq ?_
      refine CW.region ?_
      refine RW.step (Ex.index st44 rfl rfl k (hre.ne (by omega)) (by omega) (by omega)) rfl rfl rfl ?_
      refine RW.step (Ex.loadEA hM (hle3.trans hle9) hre [.int .i64 ((es.getD k (0, 0)).1), .int .i64 ((es.getD k (0, 0)).2)] ta26 rfl (hre.ne (by omega)) rfl (getEA (by omega))) rfl rfl rfl ?_
      refine RW.alloc hM tz26 [.int .i64 (0), .int .i64 (0)] rfl rfl rfl ?_; intro b11 w hM
      refine RW.store hM 0 (.agg #[.int .i64 ((es.getD k (0, 0)).1), .int .i64 ((es.getD k (0, 0)).2)]) [.int .i64 ((es.getD k (0, 0)).1), .int .i64 ((es.getD k (0, 0)).2)] [.int .i64 ((es.getD k (0, 0)).1), .int .i64 ((es.getD k (0, 0)).2)] sz26 rfl rfl rfl (oneAll ⟨rfl, rfl, trivial⟩) rfl (Nat.le_of_ble_eq_true rfl) rfl [.box b11 26 [.int .i64 ((es.getD k (0, 0)).1), .int .i64 ((es.getD k (0, 0)).2)], .box b7 24 [.int .i64 (r.n), .slice Ar r.ws.length cr], .box b1 24 [.int .i64 (0), .slice none 0 0]] rfl rfl rfl ?_; intro w hM
      refine RW.nil ?_
      refine CW.seq ?_
      refine CW.region ?_
      refine RW.step (Ex.loadA hM 1 [.int .i64 (r.n), .slice Ar r.ws.length cr] ta24 rfl rfl rfl rfl) rfl rfl rfl ?_
      refine RW.step (Ex.loadA hM 0 [.int .i64 ((es.getD k (0, 0)).1), .int .i64 ((es.getD k (0, 0)).2)] ta26 rfl rfl rfl rfl) rfl rfl rfl ?_
      refine RW.call hM (set_ret _ _ r.n _ r.ws hrr ((es.getD k (0, 0)).1) ((es.getD k (0, 0)).2)) en13 rfl rfl rfl rfl ?_; rintro _ w H12 hle13 ⟨A14, c15, rfl, hr16⟩ hM
      refine RW.step (Ex.move (.tuple #[.agg #[.int .i64 ((chR true r.n r.ws ((es.getD k (0, 0)).1) ((es.getD k (0, 0)).2)).n), .slice A14 ((chR true r.n r.ws ((es.getD k (0, 0)).1) ((es.getD k (0, 0)).2)).ws.length) c15], .int .i64 ((chR true r.n r.ws ((es.getD k (0, 0)).1) ((es.getD k (0, 0)).2)).e)]) rfl) rfl rfl rfl ?_
      refine RW.step (Ex.extract rfl rfl) rfl rfl rfl ?_
      refine RW.step (Ex.extract rfl rfl) rfl rfl rfl ?_
      refine RW.store hM 1 (.agg #[.int .i64 ((chR true r.n r.ws ((es.getD k (0, 0)).1) ((es.getD k (0, 0)).2)).n), .slice A14 ((chR true r.n r.ws ((es.getD k (0, 0)).1) ((es.getD k (0, 0)).2)).ws.length) c15]) [.int .i64 ((chR true r.n r.ws ((es.getD k (0, 0)).1) ((es.getD k (0, 0)).2)).n), .slice A14 ((chR true r.n r.ws ((es.getD k (0, 0)).1) ((es.getD k (0, 0)).2)).ws.length) c15] [.int .i64 ((chR true r.n r.ws ((es.getD k (0, 0)).1) ((es.getD k (0, 0)).2)).n), .slice A14 ((chR true r.n r.ws ((es.getD k (0, 0)).1) ((es.getD k (0, 0)).2)).ws.length) c15] sz24 rfl rfl rfl (oneAll ⟨rfl, rfl, trivial⟩) rfl (Nat.le_of_ble_eq_true rfl) rfl [.box b11 26 [.int .i64 ((es.getD k (0, 0)).1), .int .i64 ((es.getD k (0, 0)).2)], .box b7 24 [.int .i64 ((chR true r.n r.ws ((es.getD k (0, 0)).1) ((es.getD k (0, 0)).2)).n), .slice A14 ((chR true r.n r.ws ((es.getD k (0, 0)).1) ((es.getD k (0, 0)).2)).ws.length) c15], .box b1 24 [.int .i64 (0), .slice none 0 0]] rfl rfl rfl ?_; intro w hM
      refine RW.step (Ex.assign (.int .i64 ((chR true r.n r.ws ((es.getD k (0, 0)).1) ((es.getD k (0, 0)).2)).e)) rfl) rfl rfl rfl ?_
      refine RW.nil ?_
      refine CW.seq ?_
      refine CW.region ?_
      refine RW.step (Ex.move (.int .i64 ((chR true r.n r.ws ((es.getD k (0, 0)).1) ((es.getD k (0, 0)).2)).e)) rfl) rfl rfl rfl ?_
      refine RW.step (Ex.neq rfl rfl) rfl rfl rfl ?_
      refine RW.nil ?_
      refine CW.cond_dec rfl (fun hc17 => ?_) (fun hc17 => ?_)
      · -- yes: ((chR true r.n r.ws ((es.getD k (0, 0)).1) ((es.getD k (0, 0)).2)).e) ≠ 0
        refine CW.seq ?_
        refine CW.region ?_
        refine RW.step (Ex.build bs24 [] [.int .i64 (0), .slice none 0 0] rfl rfl) rfl rfl rfl ?_
        refine RW.step (Ex.move (.int .i64 ((chR true r.n r.ws ((es.getD k (0, 0)).1) ((es.getD k (0, 0)).2)).e)) rfl) rfl rfl rfl ?_
        refine RW.store hM 2 (.agg #[.int .i64 (0), .slice none 0 0]) [.int .i64 (0), .slice none 0 0] [.int .i64 (0), .slice none 0 0] sz24 rfl rfl rfl (oneAll ⟨rfl, rfl, trivial⟩) rfl (Nat.le_of_ble_eq_true rfl) rfl [.box b11 26 [.int .i64 ((es.getD k (0, 0)).1), .int .i64 ((es.getD k (0, 0)).2)], .box b7 24 [.int .i64 ((chR true r.n r.ws ((es.getD k (0, 0)).1) ((es.getD k (0, 0)).2)).n), .slice A14 ((chR true r.n r.ws ((es.getD k (0, 0)).1) ((es.getD k (0, 0)).2)).ws.length) c15], .box b1 24 [.int .i64 (0), .slice none 0 0]] rfl rfl rfl ?_; intro w hM
        refine RW.step (Ex.assign (.int .i64 ((chR true r.n r.ws ((es.getD k (0, 0)).1) ((es.getD k (0, 0)).2)).e)) rfl) rfl rfl rfl ?_
        refine RW.nil ?_
        refine CW.ret ?_
        refine blockQ_ret (thenQ_ret (thenQ_ret (blockQ_ret (thenQ_ret ?_))))
        refine end_cell_tmp (k := 2) (.inl rfl) rfl hM rfl (.int .i64 ((chR true r.n r.ws ((es.getD k (0, 0)).1) ((es.getD k (0, 0)).2)).e)) rfl ta24 [.int .i64 (0), .slice none 0 0] rfl rfl ?_
        exact ⟨_, _, hM, BRv.bad (hfr.trans ((fromR_drop he0 (by omega)).trans ((fromR_err hc17 _).trans (chR_err hc17)))) rfl⟩
      · -- no: ((chR true r.n r.ws ((es.getD k (0, 0)).1) ((es.getD k (0, 0)).2)).e) ≠ 0
        refine CW.skip ?_
        refine CW.region ?_
        refine RW.step (Ex.add rfl rfl (by omega) (by omega)) rfl rfl rfl ?_
        refine RW.step (Ex.move (.int .i64 ((k : Int) + 1)) rfl) rfl rfl rfl ?_
        refine RW.nil ?_
        replace hM := hM.sub (List.Sublist.cons _ (List.Sublist.refl _))
        refine And.intro rfl (Exists.intro (k + 1) (And.intro ⟨(chR true r.n r.ws ((es.getD k (0, 0)).1) ((es.getD k (0, 0)).2)), A14, c15, H12, hle9.trans hle13, sl_canon ⟨rfl, rfl, rfl, rfl, (show Value.int _ _ = Value.int _ _ from congrArg (Value.int _) (by omega)), trivial⟩, hM, (by omega), hr16, (hfr.trans (fromR_drop he0 (by omega))), (Classical.not_not.1 hc17), trivial⟩ (by omega)))
    · -- no: (k : Int) < (es.length : Int)
      refine CW.exit ?_
      refine CW.seq ?_
      refine CW.region ?_
      refine RW.step (Ex.loadA hM 0 [.int .i64 (r.n), .slice Ar r.ws.length cr] ta24 rfl rfl rfl rfl) rfl rfl rfl ?_
      refine RW.store hM 1 (.agg #[.int .i64 (r.n), .slice Ar r.ws.length cr]) [.int .i64 (r.n), .slice Ar r.ws.length cr] [.int .i64 (r.n), .slice Ar r.ws.length cr] sz24 rfl rfl rfl (oneAll ⟨rfl, rfl, trivial⟩) rfl (Nat.le_of_ble_eq_true rfl) rfl [.box b7 24 [.int .i64 (r.n), .slice Ar r.ws.length cr], .box b1 24 [.int .i64 (r.n), .slice Ar r.ws.length cr]] rfl rfl rfl ?_; intro w hM
      refine RW.step (Ex.assign (.int .i64 (0)) rfl) rfl rfl rfl ?_
      refine RW.nil ?_
      refine CW.ret ?_
      refine end_cell_tmp (k := 1) (.inl rfl) rfl hM rfl (.int .i64 (0)) rfl ta24 [.int .i64 (r.n), .slice Ar r.ws.length cr] rfl rfl ?_
      exact ⟨_, _, hM, BRv.same (hfr.trans ((fromR_end (by omega)).trans (show r = ⟨r.n, r.ws, 0⟩ by rw [← he0]))) rfl hrr⟩

theorem rfromExt_ret (H : Hp) (n : Int) (Ae : Option Addr) (ce : Nat) (es : List (Int × Int)) (hre : RdC H Ae es.length ce 2 (es.flatMap eC)) : Ret Tryd.prog 29 #[.int .i64 n, .slice Ae es.length ce] H (BRv (fromR (newR n) es)) := by
  have hE := hre.2.2.1
  have hE1 := hre.2.1
  unfold maxLen at hE
  refine Ret.of_code Tryd.func29 rfl (Nat.le_of_ble_eq_true rfl) fun w0 hM => ?_
  refine CW.seq ?_
  refine CW.region ?_
  refine RW.alloc hM tz24 [.int .i64 (0), .slice none 0 0] rfl rfl rfl ?_; intro b1 w hM
  refine RW.step (Ex.assign (.int .i64 (0)) rfl) rfl rfl rfl ?_
  refine RW.nil ?_
  refine CW.seq ?_
  refine CW.region ?_
  refine RW.step (Ex.move (.int .i64 (n)) rfl) rfl rfl rfl ?_
  refine RW.call hM (rnew_ret _ n) en19 rfl rfl rfl rfl ?_; rintro _ w H2 hle3 ⟨A4, c5, rfl, hr6⟩ hM
  refine RW.step (Ex.move (.tuple #[.agg #[.int .i64 ((newR n).n), .slice A4 ((newR n).ws.length) c5], .int .i64 ((newR n).e)]) rfl) rfl rfl rfl ?_
  refine RW.step (Ex.extract rfl rfl) rfl rfl rfl ?_
  refine RW.step (Ex.extract rfl rfl) rfl rfl rfl ?_
  refine RW.alloc hM tz24 [.int .i64 (0), .slice none 0 0] rfl rfl rfl ?_; intro b7 w hM
  refine RW.store hM 0 (.agg #[.int .i64 ((newR n).n), .slice A4 ((newR n).ws.length) c5]) [.int .i64 ((newR n).n), .slice A4 ((newR n).ws.length) c5] [.int .i64 ((newR n).n), .slice A4 ((newR n).ws.length) c5] sz24 rfl rfl rfl (oneAll ⟨rfl, rfl, trivial⟩) rfl (Nat.le_of_ble_eq_true rfl) rfl [.box b7 24 [.int .i64 ((newR n).n), .slice A4 ((newR n).ws.length) c5], .box b1 24 [.int .i64 (0), .slice none 0 0]] rfl rfl rfl ?_; intro w hM
  refine RW.step (Ex.assign (.int .i64 ((newR n).e)) rfl) rfl rfl rfl ?_
  refine RW.nil ?_
  refine CW.seq ?_
  refine CW.seq ?_
  refine CW.region ?_
  refine RW.step (Ex.assign (.int .i64 (0)) rfl) rfl rfl rfl ?_
  refine RW.nil ?_
  refine CW.block ?_
  refine CW.loop (β := Nat) (fun (k : Nat) σ w => ∃ (r : BR), ∃ (Ar : Option Addr), ∃ (cr : Nat), ∃ Hl, H2.le Hl ∧ (∃ τ, σ = sl [(1, .slice Ae es.length ce), (4, .pointer (some ⟨b1, 0, none⟩)), (5, .int .i64 (0)), (6, .pointer (some ⟨b7, 0, none⟩)), (7, .int .i64 (r.e)), (8, .int .i64 ((k : Int)))] τ) ∧ Mem w0 H w Hl [.box b7 24 [.int .i64 (r.n), .slice Ar r.ws.length cr], .box b1 24 [.int .i64 (0), .slice none 0 0]] ∧ (k ≤ es.length) ∧ (RdC Hl Ar r.ws.length cr 1 (r.ws.map u64)) ∧ (fromR (newR n) es = fromR r (es.drop k)) ∧ True) (fun k => es.length - k) (0) ⟨(newR n), A4, c5, H2, Hp.le.refl _, sl_canon ⟨rfl, rfl, rfl, rfl, rfl, (show Value.int _ _ = Value.int _ _ from congrArg (Value.int _) (by omega)), trivial⟩, hM, (by omega), hr6, rfl, trivial⟩ ?_
  rintro k _ w ⟨r, Ar, cr, Hl, hle8, ⟨τ, rfl⟩, hM, hk, hrr, hfr, -⟩
  refine CW.seq ?_
  refine CW.seq ?_
  refine CW.region ?_
  refine RW.step (Ex.move (.int .i64 ((k : Int))) rfl) rfl rfl rfl ?_
  refine RW.step (Ex.move (.slice Ae es.length ce) rfl) rfl rfl rfl ?_
  refine RW.step (Ex.len st44.1 rfl) rfl rfl rfl ?_
  refine RW.step (Ex.lss rfl rfl) rfl rfl rfl ?_
  refine RW.step (Ex.move (.bool (decide ((k : Int) < (es.length : Int)))) rfl) rfl rfl rfl ?_
  refine RW.split 18 rfl (fun hc9 => ?_) (fun hc9 => ?_)
  · -- yes
    refine RW.step (Ex.move (.int .i64 (r.e)) rfl) rfl rfl rfl ?_
    refine RW.step (Ex.eql rfl rfl) rfl rfl rfl ?_
    refine RW.step (Ex.pickT (.bool (decide (r.e = 0))) rfl rfl) rfl rfl rfl ?_
    refine RW.nil ?_
    refine CW.cond_dec rfl (fun hc10 => ?_) (fun hc10 => ?_)
    · -- yes: r.e = 0
      refine CW.skip ?_
      refine CW.seq ?_
      refine CW.block ?_
      refine CW.drawAE 5 [.agg #[.int .i64 (r.n), .slice Ar r.ws.length cr], .slice Ae es.length ce, .int .i64 ((k : Int)), elp Ae (k * 2 + 0), .agg #[.int .i64 ((es.getD k (0, 0)).1), .int .i64 ((es.getD k (0, 0)).2)]]
        [[(6, none)], [(1, none)], [(8, none)], [(26, some 1), (27, some 2)], [(28, some 3)]] [(1, none), (4, none), (5, none), (6, none), (7, none), (8, none), (14, none), (15, none), (16, none), (17, none), (18, none), (19, none), (20, none), (21, none), (25, some 0), (26, some 1), (27, some 2), (28, some 3), (29, some 4)] (by kernel_rfl) hM (by kernel_rfl) ⟨?_, ?_, ?_, ?_, ?_, trivial⟩ ?_
      · exact One.ex (fun H' τ w hled hM => Ex.loadA hM 0 [.int .i64 (r.n), .slice Ar r.ws.length cr] ta24 rfl rfl rfl rfl) rfl (fun _ => rfl) rfl
      · exact One.ex (fun H' τ w hled hM => Ex.move (.slice Ae es.length ce) rfl) rfl (fun _ => rfl) rfl
      · exact One.ex (fun H' τ w hled hM => Ex.move (.int .i64 ((k : Int))) rfl) rfl (fun _ => rfl) rfl
      · exact One.ex (fun H' τ w hled hM => Ex.index st44 rfl rfl k (hre.ne (by omega)) (by omega) (by omega)) rfl (fun _ => rfl) rfl
      · exact One.ex (fun H' τ w hled hM => Ex.loadEA hM ((hle3.trans hle8).trans hled) hre [.int .i64 ((es.getD k (0, 0)).1), .int .i64 ((es.getD k (0, 0)).2)] ta26 rfl (hre.ne (by omega)) rfl (getEA (by omega))) rfl (fun _ => rfl) rfl
      intro τ w hM
      change RA _ _ _ _ _ _ _ (sl [(1, .slice Ae es.length ce), (4, .pointer (some ⟨b1, 0, none⟩)), (5, .int .i64 (0)), (6, .pointer (some ⟨b7, 0, none⟩)), (7, .int .i64 (r.e)), (8, .int .i64 ((k : Int))), (14, .int .i64 ((k : Int))), (15, .slice Ae es.length ce), (16, .int .i64 ((es.length : Int))), (17, .bool (decide ((k : Int) < (es.length : Int)))), (18, .bool true), (19, .int .i64 (r.e)), (20, .bool (decide (r.e = 0))), (21, .bool (decide (r.e = 0))), (25, .agg #[.int .i64 (r.n), .slice Ar r.ws.length cr]), (26, .slice Ae es.length ce), (27, .int .i64 ((k : Int))), (28, elp Ae (k * 2 + 0)), (29, .agg #[.int .i64 ((es.getD k (0, 0)).1), .int .i64 ((es.getD k (0, 0)).2)])] τ) _ 11 _
      refine RA.step [5] (by kernel_rfl) rfl ⟨⟨_, rfl, ?_⟩, trivial⟩
      refine RW.call hM (rset_ret _ _ r.n _ r.ws hrr ((es.getD k (0, 0)).1) ((es.getD k (0, 0)).2)) en14 rfl rfl rfl rfl ?_; rintro _ w H14 hle15 ⟨A16, c17, rfl, hr18⟩ hM
      refine RW.nil ?_
      refine And.intro rfl ?_
      refine RA.step [6] (by kernel_rfl) rfl ⟨⟨_, rfl, ?_⟩, trivial⟩
      refine RW.step (Ex.move (.tuple #[.agg #[.int .i64 ((chR true r.n r.ws ((es.getD k (0, 0)).1) ((es.getD k (0, 0)).2)).n), .slice A16 ((chR true r.n r.ws ((es.getD k (0, 0)).1) ((es.getD k (0, 0)).2)).ws.length) c17], .int .i64 ((chR true r.n r.ws ((es.getD k (0, 0)).1) ((es.getD k (0, 0)).2)).e)]) rfl) rfl rfl rfl ?_
      refine RW.nil ?_
      refine And.intro rfl ?_
      refine RA.step [7, 8] (by kernel_rfl) rfl ⟨⟨_, rfl, ?_⟩, ⟨_, rfl, ?_⟩, trivial⟩
      · -- operation 7 next
        refine RW.step (Ex.extract rfl rfl) rfl rfl rfl ?_
        refine RW.nil ?_
        refine And.intro rfl ?_
        refine RA.step [8, 9] (by kernel_rfl) rfl ⟨⟨_, rfl, ?_⟩, ⟨_, rfl, ?_⟩, trivial⟩
        · -- operation 8 next
          refine RW.step (Ex.extract rfl rfl) rfl rfl rfl ?_
          refine RW.nil ?_
          refine And.intro rfl ?_
          refine RA.step [9] (by kernel_rfl) rfl ⟨⟨_, rfl, ?_⟩, trivial⟩
          refine RW.store hM 0 (.agg #[.int .i64 ((chR true r.n r.ws ((es.getD k (0, 0)).1) ((es.getD k (0, 0)).2)).n), .slice A16 ((chR true r.n r.ws ((es.getD k (0, 0)).1) ((es.getD k (0, 0)).2)).ws.length) c17]) [.int .i64 ((chR true r.n r.ws ((es.getD k (0, 0)).1) ((es.getD k (0, 0)).2)).n), .slice A16 ((chR true r.n r.ws ((es.getD k (0, 0)).1) ((es.getD k (0, 0)).2)).ws.length) c17] [.int .i64 ((chR true r.n r.ws ((es.getD k (0, 0)).1) ((es.getD k (0, 0)).2)).n), .slice A16 ((chR true r.n r.ws ((es.getD k (0, 0)).1) ((es.getD k (0, 0)).2)).ws.length) c17] sz24 rfl rfl rfl (oneAll ⟨rfl, rfl, trivial⟩) rfl (Nat.le_of_ble_eq_true rfl) rfl [.box b7 24 [.int .i64 ((chR true r.n r.ws ((es.getD k (0, 0)).1) ((es.getD k (0, 0)).2)).n), .slice A16 ((chR true r.n r.ws ((es.getD k (0, 0)).1) ((es.getD k (0, 0)).2)).ws.length) c17], .box b1 24 [.int .i64 (0), .slice none 0 0]] rfl rfl rfl ?_; intro w hM
          refine RW.nil ?_
          refine And.intro rfl ?_
          refine RA.step [10] (by kernel_rfl) rfl ⟨⟨_, rfl, ?_⟩, trivial⟩
          refine RW.step (Ex.assign (.int .i64 ((chR true r.n r.ws ((es.getD k (0, 0)).1) ((es.getD k (0, 0)).2)).e)) rfl) rfl rfl rfl ?_
          refine RW.nil ?_
          refine And.intro rfl ?_
          refine RA.done (by kernel_rfl) ?_
          refine CW.region ?_
          refine RW.step (Ex.move (.int .i64 ((k : Int))) rfl) rfl rfl rfl ?_
          refine RW.step (Ex.add rfl rfl (by omega) (by omega)) rfl rfl rfl ?_
          refine RW.step (Ex.assign (.int .i64 ((k : Int) + 1)) rfl) rfl rfl rfl ?_
          refine RW.nil ?_
          refine And.intro rfl (Exists.intro (k + 1) (And.intro ⟨(chR true r.n r.ws ((es.getD k (0, 0)).1) ((es.getD k (0, 0)).2)), A16, c17, H14, hle8.trans hle15, sl_canon ⟨rfl, rfl, rfl, rfl, rfl, (show Value.int _ _ = Value.int _ _ from congrArg (Value.int _) (by omega)), trivial⟩, hM, (by omega), hr18, (hfr.trans (fromR_drop hc10 (by omega))), trivial⟩ (by omega)))
        · -- operation 9 next
          refine RW.store hM 0 (.agg #[.int .i64 ((chR true r.n r.ws ((es.getD k (0, 0)).1) ((es.getD k (0, 0)).2)).n), .slice A16 ((chR true r.n r.ws ((es.getD k (0, 0)).1) ((es.getD k (0, 0)).2)).ws.length) c17]) [.int .i64 ((chR true r.n r.ws ((es.getD k (0, 0)).1) ((es.getD k (0, 0)).2)).n), .slice A16 ((chR true r.n r.ws ((es.getD k (0, 0)).1) ((es.getD k (0, 0)).2)).ws.length) c17] [.int .i64 ((chR true r.n r.ws ((es.getD k (0, 0)).1) ((es.getD k (0, 0)).2)).n), .slice A16 ((chR true r.n r.ws ((es.getD k (0, 0)).1) ((es.getD k (0, 0)).2)).ws.length) c17] sz24 rfl rfl rfl (oneAll ⟨rfl, rfl, trivial⟩) rfl (Nat.le_of_ble_eq_true rfl) rfl [.box b7 24 [.int .i64 ((chR true r.n r.ws ((es.getD k (0, 0)).1) ((es.getD k (0, 0)).2)).n), .slice A16 ((chR true r.n r.ws ((es.getD k (0, 0)).1) ((es.getD k (0, 0)).2)).ws.length) c17], .box b1 24 [.int .i64 (0), .slice none 0 0]] rfl rfl rfl ?_; intro w hM
          refine RW.nil ?_
          refine And.intro rfl ?_
          refine RA.step [8] (by kernel_rfl) rfl ⟨⟨_, rfl, ?_⟩, trivial⟩
          refine RW.step (Ex.extract rfl rfl) rfl rfl rfl ?_
          refine RW.nil ?_
          refine And.intro rfl ?_
          refine RA.step [10] (by kernel_rfl) rfl ⟨⟨_, rfl, ?_⟩, trivial⟩
          refine RW.step (Ex.assign (.int .i64 ((chR true r.n r.ws ((es.getD k (0, 0)).1) ((es.getD k (0, 0)).2)).e)) rfl) rfl rfl rfl ?_
          refine RW.nil ?_
          refine And.intro rfl ?_
          refine RA.done (by kernel_rfl) ?_
          refine CW.region ?_
          refine RW.step (Ex.move (.int .i64 ((k : Int))) rfl) rfl rfl rfl ?_
          refine RW.step (Ex.add rfl rfl (by omega) (by omega)) rfl rfl rfl ?_
          refine RW.step (Ex.assign (.int .i64 ((k : Int) + 1)) rfl) rfl rfl rfl ?_
          refine RW.nil ?_
          refine And.intro rfl (Exists.intro (k + 1) (And.intro ⟨(chR true r.n r.ws ((es.getD k (0, 0)).1) ((es.getD k (0, 0)).2)), A16, c17, H14, hle8.trans hle15, sl_canon ⟨rfl, rfl, rfl, rfl, rfl, (show Value.int _ _ = Value.int _ _ from congrArg (Value.int _) (by omega)), trivial⟩, hM, (by omega), hr18, (hfr.trans (fromR_drop hc10 (by omega))), trivial⟩ (by omega)))
      · -- operation 8 next
        refine RW.step (Ex.extract rfl rfl) rfl rfl rfl ?_
        refine RW.nil ?_
        refine And.intro rfl ?_
        refine RA.step [7] (by kernel_rfl) rfl ⟨⟨_, rfl, ?_⟩, trivial⟩
        refine RW.step (Ex.extract rfl rfl) rfl rfl rfl ?_
        refine RW.nil ?_
        refine And.intro rfl ?_
        refine RA.step [9] (by kernel_rfl) rfl ⟨⟨_, rfl, ?_⟩, trivial⟩
        refine RW.store hM 0 (.agg #[.int .i64 ((chR true r.n r.ws ((es.getD k (0, 0)).1) ((es.getD k (0, 0)).2)).n), .slice A16 ((chR true r.n r.ws ((es.getD k (0, 0)).1) ((es.getD k (0, 0)).2)).ws.length) c17]) [.int .i64 ((chR true r.n r.ws ((es.getD k (0, 0)).1) ((es.getD k (0, 0)).2)).n), .slice A16 ((chR true r.n r.ws ((es.getD k (0, 0)).1) ((es.getD k (0, 0)).2)).ws.length) c17] [.int .i64 ((chR true r.n r.ws ((es.getD k (0, 0)).1) ((es.getD k (0, 0)).2)).n), .slice A16 ((chR true r.n r.ws ((es.getD k (0, 0)).1) ((es.getD k (0, 0)).2)).ws.length) c17] sz24 rfl rfl rfl (oneAll ⟨rfl, rfl, trivial⟩) rfl (Nat.le_of_ble_eq_true rfl) rfl [.box b7 24 [.int .i64 ((chR true r.n r.ws ((es.getD k (0, 0)).1) ((es.getD k (0, 0)).2)).n), .slice A16 ((chR true r.n r.ws ((es.getD k (0, 0)).1) ((es.getD k (0, 0)).2)).ws.length) c17], .box b1 24 [.int .i64 (0), .slice none 0 0]] rfl rfl rfl ?_; intro w hM
        refine RW.nil ?_
        refine And.intro rfl ?_
        refine RA.step [10] (by kernel_rfl) rfl ⟨⟨_, rfl, ?_⟩, trivial⟩
        refine RW.step (Ex.assign (.int .i64 ((chR true r.n r.ws ((es.getD k (0, 0)).1) ((es.getD k (0, 0)).2)).e)) rfl) rfl rfl rfl ?_
        refine RW.nil ?_
        refine And.intro rfl ?_
        refine RA.done (by kernel_rfl) ?_
        refine CW.region ?_
        refine RW.step (Ex.move (.int .i64 ((k : Int))) rfl) rfl rfl rfl ?_
        refine RW.step (Ex.add rfl rfl (by omega) (by omega)) rfl rfl rfl ?_
        refine RW.step (Ex.assign (.int .i64 ((k : Int) + 1)) rfl) rfl rfl rfl ?_
        refine RW.nil ?_
        refine And.intro rfl (Exists.intro (k + 1) (And.intro ⟨(chR true r.n r.ws ((es.getD k (0, 0)).1) ((es.getD k (0, 0)).2)), A16, c17, H14, hle8.trans hle15, sl_canon ⟨rfl, rfl, rfl, rfl, rfl, (show Value.int _ _ = Value.int _ _ from congrArg (Value.int _) (by omega)), trivial⟩, hM, (by omega), hr18, (hfr.trans (fromR_drop hc10 (by omega))), trivial⟩ (by omega)))
    · -- no: r.e = 0
      refine CW.exit ?_
      refine CW.seq ?_
      refine CW.region ?_
      refine RW.step (Ex.loadA hM 0 [.int .i64 (r.n), .slice Ar r.ws.length cr] ta24 rfl rfl rfl rfl) rfl rfl rfl ?_
      refine RW.step (Ex.move (.int .i64 (r.e)) rfl) rfl rfl rfl ?_
      refine RW.store hM 1 (.agg #[.int .i64 (r.n), .slice Ar r.ws.length cr]) [.int .i64 (r.n), .slice Ar r.ws.length cr] [.int .i64 (r.n), .slice Ar r.ws.length cr] sz24 rfl rfl rfl (oneAll ⟨rfl, rfl, trivial⟩) rfl (Nat.le_of_ble_eq_true rfl) rfl [.box b7 24 [.int .i64 (r.n), .slice Ar r.ws.length cr], .box b1 24 [.int .i64 (r.n), .slice Ar r.ws.length cr]] rfl rfl rfl ?_; intro w hM
      refine RW.step (Ex.assign (.int .i64 (r.e)) rfl) rfl rfl rfl ?_
      refine RW.nil ?_
      refine CW.ret ?_
      refine end_cell_tmp (k := 1) (.inl rfl) rfl hM rfl (.int .i64 (r.e)) rfl ta24 [.int .i64 (r.n), .slice Ar r.ws.length cr] rfl rfl ?_
      exact ⟨_, _, hM, BRv.same (hfr.trans (fromR_err hc10 _)) rfl hrr⟩
  · -- no
    refine RW.pass rfl rfl ?_
    refine RW.pass rfl rfl ?_
    refine RW.step (Ex.pickF (.bool false) rfl rfl) rfl rfl rfl ?_
    refine RW.nil ?_
    refine CW.cond_false rfl ?_
    refine CW.exit ?_
    refine CW.seq ?_
    refine CW.region ?_
    refine RW.step (Ex.loadA hM 0 [.int .i64 (r.n), .slice Ar r.ws.length cr] ta24 rfl rfl rfl rfl) rfl rfl rfl ?_
    refine RW.step (Ex.move (.int .i64 (r.e)) rfl) rfl rfl rfl ?_
    refine RW.store hM 1 (.agg #[.int .i64 (r.n), .slice Ar r.ws.length cr]) [.int .i64 (r.n), .slice Ar r.ws.length cr] [.int .i64 (r.n), .slice Ar r.ws.length cr] sz24 rfl rfl rfl (oneAll ⟨rfl, rfl, trivial⟩) rfl (Nat.le_of_ble_eq_true rfl) rfl [.box b7 24 [.int .i64 (r.n), .slice Ar r.ws.length cr], .box b1 24 [.int .i64 (r.n), .slice Ar r.ws.length cr]] rfl rfl rfl ?_; intro w hM
    refine RW.step (Ex.assign (.int .i64 (r.e)) rfl) rfl rfl rfl ?_
    refine RW.nil ?_
    refine CW.ret ?_
    refine end_cell_tmp (k := 1) (.inl rfl) rfl hM rfl (.int .i64 (r.e)) rfl ta24 [.int .i64 (r.n), .slice Ar r.ws.length cr] rfl rfl ?_
    exact ⟨_, _, hM, BRv.same (hfr.trans (fromR_end (by omega))) rfl hrr⟩

theorem sameExt_ret (H : Hp) (Ae : Option Addr) (ce : Nat) (es : List (Int × Int)) (hre : RdC H Ae es.length ce 2 (es.flatMap eC)) (Af : Option Addr) (cf : Nat) (fs : List (Int × Int)) (hrf : RdC H Af fs.length cf 2 (fs.flatMap eC)) : RetV Tryd.prog 30 #[.slice Ae es.length ce, .slice Af fs.length cf] H (.bool (decide (es = fs))) := by
  have hE := hre.2.2.1
  have hE1 := hre.2.1
  unfold maxLen at hE
  have hF := hrf.2.2.1
  have hF1 := hrf.2.1
  unfold maxLen at hF
  refine Ret.of_code Tryd.func30 rfl (Nat.le_of_ble_eq_true rfl) fun w0 hM => ?_
  refine CW.seq ?_
  refine CW.region ?_
  refine RW.step (Ex.assign (.bool false) rfl) rfl rfl rfl ?_
  refine RW.nil ?_
  refine CW.seq ?_
  refine CW.seq ?_
  refine CW.region ?_
  refine RW.step (Ex.move (.slice Ae es.length ce) rfl) rfl rfl rfl ?_
  refine RW.step (Ex.len st44.1 rfl) rfl rfl rfl ?_
  refine RW.step (Ex.move (.slice Af fs.length cf) rfl) rfl rfl rfl ?_
  refine RW.step (Ex.len st44.1 rfl) rfl rfl rfl ?_
  refine RW.step (Ex.neq rfl rfl) rfl rfl rfl ?_
  refine RW.nil ?_
  refine CW.cond_dec rfl (fun hc1 => ?_) (fun hc1 => ?_)
  · -- yes: (es.length : Int) ≠ (fs.length : Int)
    refine CW.seq ?_
    refine CW.region ?_
    refine RW.step (Ex.assign (.bool false) rfl) rfl rfl rfl ?_
    refine RW.nil ?_
    refine CW.ret ?_
    refine thenQ_ret ?_
    refine end_tmp (.inl rfl) rfl (.bool false) rfl ?_
    exact ⟨_, _, hM, congrArg Value.bool (decide_eq_false (show ¬ (es = fs) from fun h => by subst h; omega)).symm⟩
  · -- no: (es.length : Int) ≠ (fs.length : Int)
    refine CW.skip ?_
    refine CW.seq ?_
    refine CW.seq ?_
    refine CW.region ?_
    refine RW.step (Ex.assign (.int .i64 (0)) rfl) rfl rfl rfl ?_
    refine RW.nil ?_
    refine CW.block ?_
    refine CW.loop (β := Nat) (fun (k : Nat) σ w => (∃ τ, σ = sl [(0, .slice Ae es.length ce), (1, .slice Af fs.length cf), (5, .int .i64 ((k : Int)))] τ) ∧ Mem w0 H w H [] ∧ (k ≤ es.length) ∧ (∀ i : Nat, i < k → es.getD i (0, 0) = fs.getD i (0, 0)) ∧ True) (fun k => es.length - k) (0) ⟨sl_canon ⟨rfl, rfl, (show Value.int _ _ = Value.int _ _ from congrArg (Value.int _) (by omega)), trivial⟩, hM, (by omega), (fun i h => by omega), trivial⟩ ?_
    rintro k _ w ⟨⟨τ, rfl⟩, hM, hk, hz, -⟩
    refine CW.seq ?_
    refine CW.seq ?_
    refine CW.region ?_
    refine RW.step (Ex.move (.int .i64 ((k : Int))) rfl) rfl rfl rfl ?_
    refine RW.step (Ex.move (.slice Ae es.length ce) rfl) rfl rfl rfl ?_
    refine RW.step (Ex.len st44.1 rfl) rfl rfl rfl ?_
    refine RW.step (Ex.lss rfl rfl) rfl rfl rfl ?_
    refine RW.nil ?_
    refine CW.cond_dec rfl (fun hc2 => ?_) (fun hc2 => ?_)
    · -- yes: (k : Int) < (es.length : Int)
      refine CW.skip ?_
      refine CW.seq ?_
      refine CW.block ?_
      refine CW.seq ?_
      refine CW.drawE 9 [.slice Ae es.length ce, .int .i64 ((k : Int)), elp Ae (k * 2 + 0), .agg #[.int .i64 ((es.getD k (0, 0)).1), .int .i64 ((es.getD k (0, 0)).2)], .slice Af fs.length cf, .int .i64 ((k : Int)), elp Af (k * 2 + 0), .agg #[.int .i64 ((fs.getD k (0, 0)).1), .int .i64 ((fs.getD k (0, 0)).2)], .bool (decide (¬ (((es.getD k (0, 0)).1) = ((fs.getD k (0, 0)).1) ∧ ((es.getD k (0, 0)).2) = ((fs.getD k (0, 0)).2))))]
        [[(0, none)], [(5, none)], [(17, some 0), (18, some 1)], [(19, some 2)], [(1, none)], [(5, none)], [(21, some 4), (22, some 5)], [(23, some 6)], [(20, some 3), (24, some 7)]] [(0, none), (1, none), (5, none), (11, none), (12, none), (13, none), (14, none), (17, some 0), (18, some 1), (19, some 2), (20, some 3), (21, some 4), (22, some 5), (23, some 6), (24, some 7), (25, some 8)] (by kernel_rfl) hM (by kernel_rfl) ⟨?_, ?_, ?_, ?_, ?_, ?_, ?_, ?_, ?_, trivial⟩ ?_
      · exact One.ex (fun H' τ w hled hM => Ex.move (.slice Ae es.length ce) rfl) rfl (fun _ => rfl) rfl
      · exact One.ex (fun H' τ w hled hM => Ex.move (.int .i64 ((k : Int))) rfl) rfl (fun _ => rfl) rfl
      · exact One.ex (fun H' τ w hled hM => Ex.index st44 rfl rfl k (hre.ne (by omega)) (by omega) (by omega)) rfl (fun _ => rfl) rfl
      · exact One.ex (fun H' τ w hled hM => Ex.loadEA hM hled hre [.int .i64 ((es.getD k (0, 0)).1), .int .i64 ((es.getD k (0, 0)).2)] ta26 rfl (hre.ne (by omega)) rfl (getEA (by omega))) rfl (fun _ => rfl) rfl
      · exact One.ex (fun H' τ w hled hM => Ex.move (.slice Af fs.length cf) rfl) rfl (fun _ => rfl) rfl
      · exact One.ex (fun H' τ w hled hM => Ex.move (.int .i64 ((k : Int))) rfl) rfl (fun _ => rfl) rfl
      · exact One.ex (fun H' τ w hled hM => Ex.index st44 rfl rfl k (hrf.ne (by omega)) (by omega) (by omega)) rfl (fun _ => rfl) rfl
      · exact One.ex (fun H' τ w hled hM => Ex.loadEA hM hled hrf [.int .i64 ((fs.getD k (0, 0)).1), .int .i64 ((fs.getD k (0, 0)).2)] ta26 rfl (hrf.ne (by omega)) rfl (getEA (by omega))) rfl (fun _ => rfl) rfl
      · exact One.ex (fun H' τ w hled hM => Ex.neqS (p := ¬ (((es.getD k (0, 0)).1) = ((fs.getD k (0, 0)).1) ∧ ((es.getD k (0, 0)).2) = ((fs.getD k (0, 0)).2))) [.i .i64 ((es.getD k (0, 0)).1), .i .i64 ((es.getD k (0, 0)).2)] [.i .i64 ((fs.getD k (0, 0)).1), .i .i64 ((fs.getD k (0, 0)).2)] (by kernel_rfl) rfl rfl rfl rfl rfl (by simp)) rfl (fun _ => rfl) rfl
      intro τ w hM
      change RW _ _ _ _ _ _ _ _ (sl [(0, .slice Ae es.length ce), (1, .slice Af fs.length cf), (5, .int .i64 ((k : Int))), (11, .int .i64 ((k : Int))), (12, .slice Ae es.length ce), (13, .int .i64 ((es.length : Int))), (14, .bool (decide ((k : Int) < (es.length : Int)))), (17, .slice Ae es.length ce), (18, .int .i64 ((k : Int))), (19, elp Ae (k * 2 + 0)), (20, .agg #[.int .i64 ((es.getD k (0, 0)).1), .int .i64 ((es.getD k (0, 0)).2)]), (21, .slice Af fs.length cf), (22, .int .i64 ((k : Int))), (23, elp Af (k * 2 + 0)), (24, .agg #[.int .i64 ((fs.getD k (0, 0)).1), .int .i64 ((fs.getD k (0, 0)).2)]), (25, .bool (decide (¬ (((es.getD k (0, 0)).1) = ((fs.getD k (0, 0)).1) ∧ ((es.getD k (0, 0)).2) = ((fs.getD k (0, 0)).2)))))] τ) _
      refine RW.nil ?_
      refine CW.cond_dec rfl (fun hc3 => ?_) (fun hc3 => ?_)
      · -- yes: ¬ (((es.getD k (0, 0)).1) = ((fs.getD k (0, 0)).1) ∧ ((es.getD k (0, 0)).2) = ((fs.getD k (0, 0)).2))
        refine CW.seq ?_
        refine CW.region ?_
        refine RW.step (Ex.assign (.bool false) rfl) rfl rfl rfl ?_
        refine RW.nil ?_
        refine CW.ret ?_
        refine blockQ_ret (thenQ_ret (thenQ_ret (blockQ_ret (thenQ_ret ?_))))
        refine end_tmp (.inl rfl) rfl (.bool false) rfl ?_
        exact ⟨_, _, hM, congrArg Value.bool (decide_eq_false (show ¬ (es = fs) from fun h => by subst h; exact hc3 ⟨rfl, rfl⟩)).symm⟩
      · -- no: ¬ (((es.getD k (0, 0)).1) = ((fs.getD k (0, 0)).1) ∧ ((es.getD k (0, 0)).2) = ((fs.getD k (0, 0)).2))
        refine CW.skip ?_
        refine CW.region ?_
        refine RW.step (Ex.move (.int .i64 ((k : Int))) rfl) rfl rfl rfl ?_
        refine RW.step (Ex.add rfl rfl (by omega) (by omega)) rfl rfl rfl ?_
        refine RW.step (Ex.assign (.int .i64 ((k : Int) + 1)) rfl) rfl rfl rfl ?_
        refine RW.nil ?_
        refine And.intro rfl (Exists.intro (k + 1) (And.intro ⟨sl_canon ⟨rfl, rfl, (show Value.int _ _ = Value.int _ _ from congrArg (Value.int _) (by omega)), trivial⟩, hM, (by omega), (estep hz hc3), trivial⟩ (by omega)))
    · -- no: (k : Int) < (es.length : Int)
      refine CW.exit ?_
      refine CW.seq ?_
      refine CW.region ?_
      refine RW.step (Ex.assign (.bool true) rfl) rfl rfl rfl ?_
      refine RW.nil ?_
      refine CW.ret ?_
      refine end_tmp (.inl rfl) rfl (.bool true) rfl ?_
      exact ⟨_, _, hM, congrArg Value.bool (decide_eq_true (show es = fs from ext_getD (by omega) (fun i hi => hz i (by omega)))).symm⟩

theorem few_ret (H : Hp) (Ae : Option Addr) (ce : Nat) (bs : List BV) (hre : RdC H Ae bs.length ce 2 (bs.flatMap bvC)) : RetV Tryd.prog 11 #[.slice Ae bs.length ce] H (.bool (decide (fewB bs = true))) := by
  have hE := hre.2.2.1
  have hE1 := hre.2.1
  unfold maxLen at hE
  refine Ret.of_code Tryd.func11 rfl (Nat.le_of_ble_eq_true rfl) fun w0 hM => ?_
  refine CW.seq ?_
  refine CW.region ?_
  refine RW.step (Ex.assign (.bool false) rfl) rfl rfl rfl ?_
  refine RW.nil ?_
  refine CW.seq ?_
  refine CW.seq ?_
  refine CW.region ?_
  refine RW.step (Ex.assign (.int .i64 (0)) rfl) rfl rfl rfl ?_
  refine RW.nil ?_
  refine CW.block ?_
  refine CW.loop (β := Nat) (fun (k : Nat) σ w => (∃ τ, σ = sl [(0, .slice Ae bs.length ce), (3, .int .i64 ((k : Int)))] τ) ∧ Mem w0 H w H [] ∧ (k ≤ bs.length) ∧ (∀ i : Nat, i < k → (bs.getD i bv0).l ≤ 20) ∧ True) (fun k => bs.length - k) (0) ⟨sl_canon ⟨rfl, (show Value.int _ _ = Value.int _ _ from congrArg (Value.int _) (by omega)), trivial⟩, hM, (by omega), (fun i h => by omega), trivial⟩ ?_
  rintro k _ w ⟨⟨τ, rfl⟩, hM, hk, hz, -⟩
  refine CW.seq ?_
  refine CW.seq ?_
  refine CW.region ?_
  refine RW.step (Ex.move (.int .i64 ((k : Int))) rfl) rfl rfl rfl ?_
  refine RW.step (Ex.move (.slice Ae bs.length ce) rfl) rfl rfl rfl ?_
  refine RW.step (Ex.len st54.1 rfl) rfl rfl rfl ?_
  refine RW.step (Ex.lss rfl rfl) rfl rfl rfl ?_
  refine RW.nil ?_
  refine CW.cond_dec rfl (fun hc1 => ?_) (fun hc1 => ?_)
  · -- yes: (k : Int) < (bs.length : Int)
    refine CW.skip ?_
    refine CW.seq ?_
    refine CW.block ?_
    refine CW.seq ?_
    refine CW.region ?_
    refine RW.step (Ex.move (.slice Ae bs.length ce) rfl) rfl rfl rfl ?_
    refine RW.step (Ex.move (.int .i64 ((k : Int))) rfl) rfl rfl rfl ?_
    refine RW.step (Ex.index st54 rfl rfl k (hre.ne (by omega)) (by omega) (by omega)) rfl rfl rfl ?_
    refine RW.step (Ex.fieldE fa24_1 (hre.ne (by omega)) rfl) rfl rfl rfl ?_
    refine RW.step (Ex.loadE hM (Hp.le.refl _) hre to22 rfl (getBV1 (by omega))) rfl rfl rfl ?_
    refine RW.step (Ex.len st22.1 rfl) rfl rfl rfl ?_
    refine RW.step (Ex.gtr rfl rfl) rfl rfl rfl ?_
    refine RW.nil ?_
    refine CW.cond_dec rfl (fun hc2 => ?_) (fun hc2 => ?_)
    · -- yes: 20 < ((bs.getD k bv0).l : Int)
      refine CW.seq ?_
      refine CW.region ?_
      refine RW.step (Ex.assign (.bool false) rfl) rfl rfl rfl ?_
      refine RW.nil ?_
      refine CW.ret ?_
      refine blockQ_ret (thenQ_ret (thenQ_ret (blockQ_ret (thenQ_ret ?_))))
      refine end_tmp (.inl rfl) rfl (.bool false) rfl ?_
      exact ⟨_, _, hM, congrArg Value.bool (decide_eq_false (show ¬ fewB bs = true by rw [few_no (k := k) (by omega) hc2]; decide)).symm⟩
    · -- no: 20 < ((bs.getD k bv0).l : Int)
      refine CW.skip ?_
      refine CW.region ?_
      refine RW.step (Ex.move (.int .i64 ((k : Int))) rfl) rfl rfl rfl ?_
      refine RW.step (Ex.add rfl rfl (by omega) (by omega)) rfl rfl rfl ?_
      refine RW.step (Ex.assign (.int .i64 ((k : Int) + 1)) rfl) rfl rfl rfl ?_
      refine RW.nil ?_
      refine And.intro rfl (Exists.intro (k + 1) (And.intro ⟨sl_canon ⟨rfl, (show Value.int _ _ = Value.int _ _ from congrArg (Value.int _) (by omega)), trivial⟩, hM, (by omega), (fstep hz hc2), trivial⟩ (by omega)))
  · -- no: (k : Int) < (bs.length : Int)
    refine CW.exit ?_
    refine CW.seq ?_
    refine CW.region ?_
    refine RW.step (Ex.assign (.bool true) rfl) rfl rfl rfl ?_
    refine RW.nil ?_
    refine CW.ret ?_
    refine end_tmp (.inl rfl) rfl (.bool true) rfl ?_
    exact ⟨_, _, hM, congrArg Value.bool (decide_eq_true (few_yes (fun i hi => hz i (by omega)))).symm⟩

theorem rnext_ret (H : Hp) (A1 : Option Addr) (n : Int) (c1 : Nat) (ws : List (BitVec 64)) (hr1 : RdC H A1 ws.length c1 1 (ws.map u64)) (a : Int) : RetV Tryd.prog 27 #[.agg #[.int .i64 n, .slice A1 ws.length c1], .int .i64 a] H (.int .i64 (nextR n ws a)) := by
  have hL := hr1.2.2.1
  have hL1 := hr1.2.1
  unfold maxLen at hL
  refine Ret.of_code Tryd.func27 rfl (Nat.le_of_ble_eq_true rfl) fun w0 hM => ?_
  refine CW.seq ?_
  refine CW.region ?_
  refine RW.box hM (.agg #[.int .i64 (n), .slice A1 ws.length c1]) [.int .i64 (n), .slice A1 ws.length c1] rfl rfl rfl rfl ?_; intro b1 w hM
  refine RW.step (Ex.assign (.int .i64 (0)) rfl) rfl rfl rfl ?_
  refine RW.nil ?_
  refine CW.seq ?_
  refine CW.seq ?_
  refine CW.region ?_
  refine RW.step (Ex.loadA hM 0 [.int .i64 (n), .slice A1 ws.length c1] ta24 rfl rfl rfl rfl) rfl rfl rfl ?_
  refine RW.callV hM (rcheck_ret _ _ n _ ws hr1) en21 rfl rfl rfl rfl ?_; intro w hM
  refine RW.step (Ex.neq rfl rfl) rfl rfl rfl ?_
  refine RW.nil ?_
  refine CW.cond_dec rfl (fun hc2 => ?_) (fun hc2 => ?_)
  · -- yes: (chk n ws) ≠ 0
    refine CW.seq ?_
    refine CW.region ?_
    refine RW.step (Ex.assign (.int .i64 ((-1))) rfl) rfl rfl rfl ?_
    refine RW.nil ?_
    refine CW.ret ?_
    refine thenQ_ret ?_
    refine end_tmp (.inl rfl) rfl (.int .i64 ((-1))) rfl ?_
    exact ⟨_, _, hM, congrArg (Value.int .i64) (nextR_form hc2).symm⟩
  · -- no: (chk n ws) ≠ 0
    have hwl := wf_len (Classical.not_not.1 hc2)
    refine CW.skip ?_
    refine CW.seq ?_
    refine CW.seq ?_
    refine CW.region ?_
    refine RW.step (Ex.move (.int .i64 (a)) rfl) rfl rfl rfl ?_
    refine RW.step (Ex.maxI rfl rfl) rfl rfl rfl ?_
    refine RW.step (Ex.assign (.int .i64 (if a < 0 then 0 else a)) rfl) rfl rfl rfl ?_
    refine RW.nil ?_
    refine CW.block ?_
    refine CW.loop (β := Nat) (fun (k : Nat) σ w => (∃ τ, σ = sl [(2, .pointer (some ⟨b1, 0, none⟩)), (5, .int .i64 ((k : Int)))] τ) ∧ Mem w0 H w H [.box b1 24 [.int .i64 (n), .slice A1 ws.length c1]] ∧ (a ≤ (k : Int)) ∧ (∀ i : Nat, a ≤ (i : Int) → i < k → bitN ws i = false) ∧ True) (fun k => n.toNat - k) ((if a < 0 then 0 else a).toNat) ⟨sl_canon ⟨rfl, (show Value.int _ _ = Value.int _ _ from congrArg (Value.int _) (by omega)), trivial⟩, hM, (by omega), (fun i h1 h2 => by omega), trivial⟩ ?_
    rintro k _ w ⟨⟨τ, rfl⟩, hM, hk, hz, -⟩
    refine CW.seq ?_
    refine CW.seq ?_
    refine CW.region ?_
    refine RW.step (Ex.move (.int .i64 ((k : Int))) rfl) rfl rfl rfl ?_
    refine RW.step (Ex.fieldAddr fa24_0 rfl) rfl rfl rfl ?_
    refine RW.step (Ex.load1 hM 0 to3 rfl rfl rfl) rfl rfl rfl ?_
    refine RW.step (Ex.lss rfl rfl) rfl rfl rfl ?_
    refine RW.nil ?_
    refine CW.cond_dec rfl (fun hc3 => ?_) (fun hc3 => ?_)
    · -- yes: (k : Int) < n
      refine CW.skip ?_
      refine CW.seq ?_
      refine CW.block ?_
      refine CW.seq ?_
      refine CW.region ?_
      refine RW.step (Ex.loadA hM 0 [.int .i64 (n), .slice A1 ws.length c1] ta24 rfl rfl rfl rfl) rfl rfl rfl ?_
      refine RW.step (Ex.move (.int .i64 ((k : Int))) rfl) rfl rfl rfl ?_
      refine RW.callV hM (bit_ret _ _ n _ ws hr1 (k : Int) k (by omega) (by omega) (by omega)) en44 rfl rfl rfl rfl ?_; intro w hM
      refine RW.nil ?_
      refine CW.cond_dec rfl (fun hc4 => ?_) (fun hc4 => ?_)
      · -- yes: bitN ws k = true
        refine CW.seq ?_
        refine CW.region ?_
        refine RW.step (Ex.move (.int .i64 ((k : Int))) rfl) rfl rfl rfl ?_
        refine RW.step (Ex.assign (.int .i64 ((k : Int))) rfl) rfl rfl rfl ?_
        refine RW.nil ?_
        refine CW.ret ?_
        refine blockQ_ret (thenQ_ret (thenQ_ret (blockQ_ret (thenQ_ret ?_))))
        refine end_tmp (.inl rfl) rfl (.int .i64 ((k : Int))) rfl ?_
        exact ⟨_, _, hM, congrArg (Value.int .i64) (nextR_hit hc2 (by omega) (by omega) hc4 hz).symm⟩
      · -- no: bitN ws k = true
        refine CW.skip ?_
        refine CW.region ?_
        refine RW.step (Ex.move (.int .i64 ((k : Int))) rfl) rfl rfl rfl ?_
        refine RW.step (Ex.add rfl rfl (by omega) (by omega)) rfl rfl rfl ?_
        refine RW.step (Ex.assign (.int .i64 ((k : Int) + 1)) rfl) rfl rfl rfl ?_
        refine RW.nil ?_
        refine And.intro rfl (Exists.intro (k + 1) (And.intro ⟨sl_canon ⟨rfl, (show Value.int _ _ = Value.int _ _ from congrArg (Value.int _) (by omega)), trivial⟩, hM, (by omega), (zstep hz hc4), trivial⟩ (by omega)))
    · -- no: (k : Int) < n
      refine CW.exit ?_
      refine CW.seq ?_
      refine CW.region ?_
      refine RW.step (Ex.assign (.int .i64 ((-1))) rfl) rfl rfl rfl ?_
      refine RW.nil ?_
      refine CW.ret ?_
      refine end_tmp (.inl rfl) rfl (.int .i64 ((-1))) rfl ?_
      exact ⟨_, _, hM, congrArg (Value.int .i64) (nextR_none hc2 (fun i h1 h2 => hz i h1 (by omega))).symm⟩

theorem rcount_ret (H : Hp) (A1 : Option Addr) (n : Int) (c1 : Nat) (ws : List (BitVec 64)) (hr1 : RdC H A1 ws.length c1 1 (ws.map u64)) : RetV Tryd.prog 25 #[.agg #[.int .i64 n, .slice A1 ws.length c1]] H (.int .i64 (cntR n ws)) := by
  have hL := hr1.2.2.1
  have hL1 := hr1.2.1
  unfold maxLen at hL
  refine Ret.of_code Tryd.func25 rfl (Nat.le_of_ble_eq_true rfl) fun w0 hM => ?_
  refine CW.seq ?_
  refine CW.region ?_
  refine RW.box hM (.agg #[.int .i64 (n), .slice A1 ws.length c1]) [.int .i64 (n), .slice A1 ws.length c1] rfl rfl rfl rfl ?_; intro b1 w hM
  refine RW.step (Ex.assign (.int .i64 (0)) rfl) rfl rfl rfl ?_
  refine RW.nil ?_
  refine CW.seq ?_
  refine CW.region ?_
  refine RW.step (Ex.assign (.int .i64 (0)) rfl) rfl rfl rfl ?_
  refine RW.nil ?_
  refine CW.seq ?_
  refine CW.seq ?_
  refine CW.region ?_
  refine RW.step (Ex.loadA hM 0 [.int .i64 (n), .slice A1 ws.length c1] ta24 rfl rfl rfl rfl) rfl rfl rfl ?_
  refine RW.callV hM (rcheck_ret _ _ n _ ws hr1) en21 rfl rfl rfl rfl ?_; intro w hM
  refine RW.step (Ex.neq rfl rfl) rfl rfl rfl ?_
  refine RW.nil ?_
  refine CW.cond_dec rfl (fun hc2 => ?_) (fun hc2 => ?_)
  · -- yes: (chk n ws) ≠ 0
    refine CW.seq ?_
    refine CW.region ?_
    refine RW.step (Ex.assign (.int .i64 (0)) rfl) rfl rfl rfl ?_
    refine RW.nil ?_
    refine CW.ret ?_
    refine thenQ_ret ?_
    refine end_tmp (.inl rfl) rfl (.int .i64 (0)) rfl ?_
    exact ⟨_, _, hM, congrArg (Value.int .i64) (cntR_form hc2).symm⟩
  · -- no: (chk n ws) ≠ 0
    have hwl := wf_len (Classical.not_not.1 hc2)
    refine CW.skip ?_
    refine CW.seq ?_
    refine CW.seq ?_
    refine CW.region ?_
    refine RW.step (Ex.assign (.int .i64 (0)) rfl) rfl rfl rfl ?_
    refine RW.nil ?_
    refine CW.block ?_
    refine CW.loop (β := Nat) (fun (k : Nat) σ w => (∃ τ, σ = sl [(1, .pointer (some ⟨b1, 0, none⟩)), (2, .int .i64 (0)), (3, .int .i64 ((cntK ws k : Int))), (4, .int .i64 ((k : Int)))] τ) ∧ Mem w0 H w H [.box b1 24 [.int .i64 (n), .slice A1 ws.length c1]] ∧ ((k : Int) ≤ n) ∧ (cntK ws k ≤ k) ∧ True) (fun k => n.toNat - k) (0) ⟨sl_canon ⟨rfl, rfl, rfl, (show Value.int _ _ = Value.int _ _ from congrArg (Value.int _) (by omega)), trivial⟩, hM, (by omega), (cntK_le ws _), trivial⟩ ?_
    rintro k _ w ⟨⟨τ, rfl⟩, hM, hk, hc, -⟩
    refine CW.seq ?_
    refine CW.seq ?_
    refine CW.region ?_
    refine RW.step (Ex.move (.int .i64 ((k : Int))) rfl) rfl rfl rfl ?_
    refine RW.step (Ex.fieldAddr fa24_0 rfl) rfl rfl rfl ?_
    refine RW.step (Ex.load1 hM 0 to3 rfl rfl rfl) rfl rfl rfl ?_
    refine RW.step (Ex.lss rfl rfl) rfl rfl rfl ?_
    refine RW.nil ?_
    refine CW.cond_dec rfl (fun hc3 => ?_) (fun hc3 => ?_)
    · -- yes: (k : Int) < n
      refine CW.skip ?_
      refine CW.seq ?_
      refine CW.block ?_
      refine CW.seq ?_
      refine CW.region ?_
      refine RW.step (Ex.loadA hM 0 [.int .i64 (n), .slice A1 ws.length c1] ta24 rfl rfl rfl rfl) rfl rfl rfl ?_
      refine RW.step (Ex.move (.int .i64 ((k : Int))) rfl) rfl rfl rfl ?_
      refine RW.callV hM (bit_ret _ _ n _ ws hr1 (k : Int) k (by omega) (by omega) (by omega)) en44 rfl rfl rfl rfl ?_; intro w hM
      refine RW.nil ?_
      refine CW.cond_dec rfl (fun hc4 => ?_) (fun hc4 => ?_)
      · -- yes: bitN ws k = true
        refine CW.region ?_
        refine RW.step (Ex.move (.int .i64 ((cntK ws k : Int))) rfl) rfl rfl rfl ?_
        refine RW.step (Ex.add rfl rfl (by omega) (by omega)) rfl rfl rfl ?_
        refine RW.step (Ex.assign (.int .i64 ((cntK ws k : Int) + 1)) rfl) rfl rfl rfl ?_
        refine RW.nil ?_
        refine CW.region ?_
        refine RW.step (Ex.move (.int .i64 ((k : Int))) rfl) rfl rfl rfl ?_
        refine RW.step (Ex.add rfl rfl (by omega) (by omega)) rfl rfl rfl ?_
        refine RW.step (Ex.assign (.int .i64 ((k : Int) + 1)) rfl) rfl rfl rfl ?_
        refine RW.nil ?_
        refine And.intro rfl (Exists.intro (k + 1) (And.intro ⟨sl_canon ⟨rfl, rfl, (congrArg (Value.int .i64) (show (cntK ws k : Int) + 1 = (cntK ws (k + 1) : Int) by rw [cntK_yes hc4]; rfl)), (show Value.int _ _ = Value.int _ _ from congrArg (Value.int _) (by omega)), trivial⟩, hM, (by omega), (cntK_le ws _), trivial⟩ (by omega)))
      · -- no: bitN ws k = true
        refine CW.skip ?_
        refine CW.region ?_
        refine RW.step (Ex.move (.int .i64 ((k : Int))) rfl) rfl rfl rfl ?_
        refine RW.step (Ex.add rfl rfl (by omega) (by omega)) rfl rfl rfl ?_
        refine RW.step (Ex.assign (.int .i64 ((k : Int) + 1)) rfl) rfl rfl rfl ?_
        refine RW.nil ?_
        refine And.intro rfl (Exists.intro (k + 1) (And.intro ⟨sl_canon ⟨rfl, rfl, (congrArg (Value.int .i64) (show (cntK ws k : Int) = (cntK ws (k + 1) : Int) by rw [cntK_no hc4])), (show Value.int _ _ = Value.int _ _ from congrArg (Value.int _) (by omega)), trivial⟩, hM, (by omega), (cntK_le ws _), trivial⟩ (by omega)))
    · -- no: (k : Int) < n
      refine CW.exit ?_
      refine CW.seq ?_
      refine CW.region ?_
      refine RW.step (Ex.move (.int .i64 ((cntK ws k : Int))) rfl) rfl rfl rfl ?_
      refine RW.step (Ex.assign (.int .i64 ((cntK ws k : Int))) rfl) rfl rfl rfl ?_
      refine RW.nil ?_
      refine CW.ret ?_
      refine end_tmp (.inl rfl) rfl (.int .i64 ((cntK ws k : Int))) rfl ?_
      exact ⟨_, _, hM, congrArg (Value.int .i64) (cntR_ok hc2 (by omega)).symm⟩

end Go.Proofs.YtackllehpecfgaaDoor
