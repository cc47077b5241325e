/- Part 3 of the proof of the statement ReverseTurnsCardSaid: lemmas. No condition of its own. -/
import Derived.Test.YtahlanamngfkcaaDoorM2
namespace Go.Proofs.YtahlanamngfkcaaDoor
open Go.RowKit
theorem fromExt_ret (H : Hp) (n : Int) (Ae : Option Addr) (ce : Nat) (es : List (Int × Int)) (hre : RdC H Ae es.length ce 2 (es.flatMap eC)) : Ret Tryd.prog 81 #[.int .i64 n, .slice Ae es.length ce] H (BRv (fromR (newR n) es)) := by
  have hE := hre.2.2.1
  have hE1 := hre.2.1
  unfold maxLen at hE
  refine Ret.of_code Tryd.func81 rfl (Nat.le_of_ble_eq_true rfl) fun w0 hM => ?_
  refine CW.seq ?_
  refine CW.region ?_
  refine RW.alloc hM tz65 [.int .i64 (0), .slice none 0 0] rfl rfl rfl ?_; intro b1 w hM
  refine RW.step (Ex.assign (.int .i64 (0)) rfl) rfl rfl rfl ?_
  refine RW.nil ?_
  refine CW.seq ?_
  refine CW.region ?_
  refine RW.step (Ex.move (.int .i64 (n)) rfl) rfl rfl rfl ?_
  refine RW.call hM (new_ret _ n) en123 rfl rfl rfl rfl ?_; rintro _ w H2 hle3 ⟨A4, c5, rfl, hr6⟩ hM
  refine RW.step (Ex.move (.tuple #[.agg #[.int .i64 ((newR n).n), .slice A4 ((newR n).ws.length) c5], .int .i64 ((newR n).e)]) rfl) rfl rfl rfl ?_
  refine RW.step (Ex.extract rfl rfl) rfl rfl rfl ?_
  refine RW.step (Ex.extract rfl rfl) rfl rfl rfl ?_
  refine RW.alloc hM tz65 [.int .i64 (0), .slice none 0 0] rfl rfl rfl ?_; intro b7 w hM
  refine RW.store hM 0 (.agg #[.int .i64 ((newR n).n), .slice A4 ((newR n).ws.length) c5]) [.int .i64 ((newR n).n), .slice A4 ((newR n).ws.length) c5] [.int .i64 ((newR n).n), .slice A4 ((newR n).ws.length) c5] sz65 rfl rfl rfl (oneAll ⟨rfl, rfl, trivial⟩) rfl (Nat.le_of_ble_eq_true rfl) rfl [.box b7 65 [.int .i64 ((newR n).n), .slice A4 ((newR n).ws.length) c5], .box b1 65 [.int .i64 (0), .slice none 0 0]] rfl rfl rfl ?_; intro w hM
  refine RW.step (Ex.assign (.int .i64 ((newR n).e)) rfl) rfl rfl rfl ?_
  refine RW.nil ?_
  refine CW.seq ?_
  refine CW.seq ?_
  refine CW.region ?_
  refine RW.step (Ex.move (.int .i64 ((newR n).e)) rfl) rfl rfl rfl ?_
  refine RW.step (Ex.neq rfl rfl) rfl rfl rfl ?_
  refine RW.nil ?_
  refine CW.cond_dec rfl (fun hc8 => ?_) (fun hc8 => ?_)
  · -- yes: ((newR n).e) ≠ 0
    refine CW.seq ?_
    refine CW.region ?_
    refine RW.step (Ex.build bs65 [] [.int .i64 (0), .slice none 0 0] rfl rfl) rfl rfl rfl ?_
    refine RW.step (Ex.move (.int .i64 ((newR n).e)) rfl) rfl rfl rfl ?_
    refine RW.store hM 1 (.agg #[.int .i64 (0), .slice none 0 0]) [.int .i64 (0), .slice none 0 0] [.int .i64 (0), .slice none 0 0] sz65 rfl rfl rfl (oneAll ⟨rfl, rfl, trivial⟩) rfl (Nat.le_of_ble_eq_true rfl) rfl [.box b7 65 [.int .i64 ((newR n).n), .slice A4 ((newR n).ws.length) c5], .box b1 65 [.int .i64 (0), .slice none 0 0]] rfl rfl rfl ?_; intro w hM
    refine RW.step (Ex.assign (.int .i64 ((newR n).e)) rfl) rfl rfl rfl ?_
    refine RW.nil ?_
    refine CW.ret ?_
    refine tqr ?_
    refine ect (k := 1) (.inl rfl) rfl hM rfl (.int .i64 ((newR n).e)) rfl ta65 [.int .i64 (0), .slice none 0 0] rfl rfl ?_
    exact ⟨_, _, hM, BRv.bad ((fromR_err hc8 _).trans (newR_err hc8)) rfl⟩
  · -- no: ((newR n).e) ≠ 0
    refine CW.skip ?_
    refine CW.seq ?_
    refine CW.seq ?_
    refine CW.region ?_
    refine RW.step (Ex.move (.slice Ae es.length ce) rfl) rfl rfl rfl ?_
    refine RW.step (Ex.len st68.1 rfl) rfl rfl rfl ?_
    refine RW.step (Ex.move (.int .i64 (0)) rfl) rfl rfl rfl ?_
    refine RW.nil ?_
    refine CW.block ?_
    refine CW.loop (β := Nat) (fun (k : Nat) σ w => ∃ (r : BR), ∃ (Ar : Option Addr), ∃ (cr : Nat), ∃ Hl, H2.le Hl ∧ (∃ τ, σ = sl [(4, .pointer (some ⟨b1, 0, none⟩)), (6, .pointer (some ⟨b7, 0, none⟩)), (19, .slice Ae es.length ce), (20, .int .i64 ((es.length : Int))), (21, .int .i64 ((k : Int)))] τ) ∧ Mem w0 H w Hl [.box b7 65 [.int .i64 (r.n), .slice Ar r.ws.length cr], .box b1 65 [.int .i64 (0), .slice none 0 0]] ∧ (k ≤ es.length) ∧ (RdC Hl Ar r.ws.length cr 1 (r.ws.map u64)) ∧ (fromR (newR n) es = fromR r (es.drop k)) ∧ (r.e = 0) ∧ True) (fun k => es.length - k) (0) ⟨(newR n), A4, c5, H2, Hp.le.refl _, slc ⟨rfl, rfl, rfl, rfl, (show Value.int _ _ = Value.int _ _ from congrArg (Value.int _) (by omega)), trivial⟩, hM, (by omega), hr6, rfl, (Classical.not_not.1 hc8), trivial⟩ ?_
    rintro k _ w ⟨r, Ar, cr, Hl, hle9, ⟨τ, rfl⟩, hM, hk, hrr, hfr, he0, -⟩
    refine CW.seq ?_
    refine CW.region ?_
    refine RW.step (Ex.lss rfl rfl) rfl rfl rfl ?_
    refine RW.nil ?_
    refine CW.seq ?_
    refine CW.cond_dec rfl (fun hc10 => ?_) (fun hc10 => ?_)
    · -- yes: (k : Int) < (es.length : Int)
      refine CW.skip ?_
      refine CW.seq ?_
      refine CW.block ?_
      refine CW.seq ?_
      refine CW.region ?_
      refine RW.step (Ex.index st68 rfl rfl k (hre.ne (by omega)) (by omega) (by omega)) rfl rfl rfl ?_
      refine RW.step (Ex.loadEA hM (hle3.trans hle9) hre [.int .i64 ((es.getD k (0, 0)).1), .int .i64 ((es.getD k (0, 0)).2)] ta103 rfl (hre.ne (by omega)) rfl (getEA (by omega))) rfl rfl rfl ?_
      refine RW.alloc hM tz103 [.int .i64 (0), .int .i64 (0)] rfl rfl rfl ?_; intro b11 w hM
      refine RW.store hM 0 (.agg #[.int .i64 ((es.getD k (0, 0)).1), .int .i64 ((es.getD k (0, 0)).2)]) [.int .i64 ((es.getD k (0, 0)).1), .int .i64 ((es.getD k (0, 0)).2)] [.int .i64 ((es.getD k (0, 0)).1), .int .i64 ((es.getD k (0, 0)).2)] sz103 rfl rfl rfl (oneAll ⟨rfl, rfl, trivial⟩) rfl (Nat.le_of_ble_eq_true rfl) rfl [.box b11 103 [.int .i64 ((es.getD k (0, 0)).1), .int .i64 ((es.getD k (0, 0)).2)], .box b7 65 [.int .i64 (r.n), .slice Ar r.ws.length cr], .box b1 65 [.int .i64 (0), .slice none 0 0]] rfl rfl rfl ?_; intro w hM
      refine RW.nil ?_
      refine CW.seq ?_
      refine CW.region ?_
      refine RW.step (Ex.loadA hM 1 [.int .i64 (r.n), .slice Ar r.ws.length cr] ta65 rfl rfl rfl rfl) rfl rfl rfl ?_
      refine RW.step (Ex.loadA hM 0 [.int .i64 ((es.getD k (0, 0)).1), .int .i64 ((es.getD k (0, 0)).2)] ta103 rfl rfl rfl rfl) rfl rfl rfl ?_
      refine RW.call hM (set_ret _ _ r.n _ r.ws hrr ((es.getD k (0, 0)).1) ((es.getD k (0, 0)).2)) en124 rfl rfl rfl rfl ?_; rintro _ w H12 hle13 ⟨A14, c15, rfl, hr16⟩ hM
      refine RW.step (Ex.move (.tuple #[.agg #[.int .i64 ((chR true r.n r.ws ((es.getD k (0, 0)).1) ((es.getD k (0, 0)).2)).n), .slice A14 ((chR true r.n r.ws ((es.getD k (0, 0)).1) ((es.getD k (0, 0)).2)).ws.length) c15], .int .i64 ((chR true r.n r.ws ((es.getD k (0, 0)).1) ((es.getD k (0, 0)).2)).e)]) rfl) rfl rfl rfl ?_
      refine RW.step (Ex.extract rfl rfl) rfl rfl rfl ?_
      refine RW.step (Ex.extract rfl rfl) rfl rfl rfl ?_
      refine RW.store hM 1 (.agg #[.int .i64 ((chR true r.n r.ws ((es.getD k (0, 0)).1) ((es.getD k (0, 0)).2)).n), .slice A14 ((chR true r.n r.ws ((es.getD k (0, 0)).1) ((es.getD k (0, 0)).2)).ws.length) c15]) [.int .i64 ((chR true r.n r.ws ((es.getD k (0, 0)).1) ((es.getD k (0, 0)).2)).n), .slice A14 ((chR true r.n r.ws ((es.getD k (0, 0)).1) ((es.getD k (0, 0)).2)).ws.length) c15] [.int .i64 ((chR true r.n r.ws ((es.getD k (0, 0)).1) ((es.getD k (0, 0)).2)).n), .slice A14 ((chR true r.n r.ws ((es.getD k (0, 0)).1) ((es.getD k (0, 0)).2)).ws.length) c15] sz65 rfl rfl rfl (oneAll ⟨rfl, rfl, trivial⟩) rfl (Nat.le_of_ble_eq_true rfl) rfl [.box b11 103 [.int .i64 ((es.getD k (0, 0)).1), .int .i64 ((es.getD k (0, 0)).2)], .box b7 65 [.int .i64 ((chR true r.n r.ws ((es.getD k (0, 0)).1) ((es.getD k (0, 0)).2)).n), .slice A14 ((chR true r.n r.ws ((es.getD k (0, 0)).1) ((es.getD k (0, 0)).2)).ws.length) c15], .box b1 65 [.int .i64 (0), .slice none 0 0]] rfl rfl rfl ?_; intro w hM
      refine RW.step (Ex.assign (.int .i64 ((chR true r.n r.ws ((es.getD k (0, 0)).1) ((es.getD k (0, 0)).2)).e)) rfl) rfl rfl rfl ?_
      refine RW.nil ?_
      refine CW.seq ?_
      refine CW.region ?_
      refine RW.step (Ex.move (.int .i64 ((chR true r.n r.ws ((es.getD k (0, 0)).1) ((es.getD k (0, 0)).2)).e)) rfl) rfl rfl rfl ?_
      refine RW.step (Ex.neq rfl rfl) rfl rfl rfl ?_
      refine RW.nil ?_
      refine CW.cond_dec rfl (fun hc17 => ?_) (fun hc17 => ?_)
      · -- yes: ((chR true r.n r.ws ((es.getD k (0, 0)).1) ((es.getD k (0, 0)).2)).e) ≠ 0
        refine CW.seq ?_
        refine CW.region ?_
        refine RW.step (Ex.build bs65 [] [.int .i64 (0), .slice none 0 0] rfl rfl) rfl rfl rfl ?_
        refine RW.step (Ex.move (.int .i64 ((chR true r.n r.ws ((es.getD k (0, 0)).1) ((es.getD k (0, 0)).2)).e)) rfl) rfl rfl rfl ?_
        refine RW.store hM 2 (.agg #[.int .i64 (0), .slice none 0 0]) [.int .i64 (0), .slice none 0 0] [.int .i64 (0), .slice none 0 0] sz65 rfl rfl rfl (oneAll ⟨rfl, rfl, trivial⟩) rfl (Nat.le_of_ble_eq_true rfl) rfl [.box b11 103 [.int .i64 ((es.getD k (0, 0)).1), .int .i64 ((es.getD k (0, 0)).2)], .box b7 65 [.int .i64 ((chR true r.n r.ws ((es.getD k (0, 0)).1) ((es.getD k (0, 0)).2)).n), .slice A14 ((chR true r.n r.ws ((es.getD k (0, 0)).1) ((es.getD k (0, 0)).2)).ws.length) c15], .box b1 65 [.int .i64 (0), .slice none 0 0]] rfl rfl rfl ?_; intro w hM
        refine RW.step (Ex.assign (.int .i64 ((chR true r.n r.ws ((es.getD k (0, 0)).1) ((es.getD k (0, 0)).2)).e)) rfl) rfl rfl rfl ?_
        refine RW.nil ?_
        refine CW.ret ?_
        refine bqr (tqr (tqr (bqr (tqr ?_))))
        refine ect (k := 2) (.inl rfl) rfl hM rfl (.int .i64 ((chR true r.n r.ws ((es.getD k (0, 0)).1) ((es.getD k (0, 0)).2)).e)) rfl ta65 [.int .i64 (0), .slice none 0 0] rfl rfl ?_
        exact ⟨_, _, hM, BRv.bad (hfr.trans ((fromR_drop he0 (by omega)).trans ((fromR_err hc17 _).trans (chR_err hc17)))) rfl⟩
      · -- no: ((chR true r.n r.ws ((es.getD k (0, 0)).1) ((es.getD k (0, 0)).2)).e) ≠ 0
        refine CW.skip ?_
        refine CW.region ?_
        refine RW.step (Ex.add rfl rfl (by omega) (by omega)) rfl rfl rfl ?_
        refine RW.step (Ex.move (.int .i64 ((k : Int) + 1)) rfl) rfl rfl rfl ?_
        refine RW.nil ?_
        replace hM := hM.sub (List.Sublist.cons _ (List.Sublist.refl _))
        refine And.intro rfl (Exists.intro (k + 1) (And.intro ⟨(chR true r.n r.ws ((es.getD k (0, 0)).1) ((es.getD k (0, 0)).2)), A14, c15, H12, hle9.trans hle13, slc ⟨rfl, rfl, rfl, rfl, (show Value.int _ _ = Value.int _ _ from congrArg (Value.int _) (by omega)), trivial⟩, hM, (by omega), hr16, (hfr.trans (fromR_drop he0 (by omega))), (Classical.not_not.1 hc17), trivial⟩ (by omega)))
    · -- no: (k : Int) < (es.length : Int)
      refine CW.exit ?_
      refine CW.seq ?_
      refine CW.region ?_
      refine RW.step (Ex.loadA hM 0 [.int .i64 (r.n), .slice Ar r.ws.length cr] ta65 rfl rfl rfl rfl) rfl rfl rfl ?_
      refine RW.store hM 1 (.agg #[.int .i64 (r.n), .slice Ar r.ws.length cr]) [.int .i64 (r.n), .slice Ar r.ws.length cr] [.int .i64 (r.n), .slice Ar r.ws.length cr] sz65 rfl rfl rfl (oneAll ⟨rfl, rfl, trivial⟩) rfl (Nat.le_of_ble_eq_true rfl) rfl [.box b7 65 [.int .i64 (r.n), .slice Ar r.ws.length cr], .box b1 65 [.int .i64 (r.n), .slice Ar r.ws.length cr]] rfl rfl rfl ?_; intro w hM
      refine RW.step (Ex.assign (.int .i64 (0)) rfl) rfl rfl rfl ?_
      refine RW.nil ?_
      refine CW.ret ?_
      refine ect (k := 1) (.inl rfl) rfl hM rfl (.int .i64 (0)) rfl ta65 [.int .i64 (r.n), .slice Ar r.ws.length cr] rfl rfl ?_
      exact ⟨_, _, hM, BRv.same (hfr.trans ((fromR_end (by omega)).trans (show r = ⟨r.n, r.ws, 0⟩ by rw [← he0]))) rfl hrr⟩
theorem tz_ret (H : Hp) (x : BitVec 64) (hx : x ≠ 0#64) (hT : TabH H 0) : RetV Tryd.prog 134 #[u64 x] H (.int .i64 (Lib.ctz 64 x.toNat : Int)) := by
  obtain ⟨cs, T, fr, hb, hc⟩ := hT
  obtain ⟨hi, htab, hk⟩ := tz_idx hx
  refine Ret.of_code Tryd.func134 rfl (Nat.le_of_ble_eq_true rfl) fun w0 hM => ?_
  refine CW.seq (CW.region (RW.step (Ex.assign (.int .i64 0) rfl) rfl rfl rfl (RW.nil ?_)))
  refine CW.seq (CW.seq (CW.region (RW.step (Ex.move (u64 x) rfl) rfl rfl rfl (RW.step (Ex.eql64 (a := x) (b := 0#64) rfl rfl) rfl rfl rfl (RW.nil ?_)))))
  refine CW.cond_dec rfl (fun h => absurd h hx) fun _ => CW.skip ?_
  refine CW.seq (CW.region ?_)
  refine RW.step (Ex.move (u64 x) rfl) rfl rfl rfl ?_
  refine RW.step (Ex.move (u64 x) rfl) rfl rfl rfl ?_
  refine RW.step (Ex.neg64 (a := x) rfl) rfl rfl rfl ?_
  refine RW.step (Ex.and64 (a := x) (b := -x) rfl rfl) rfl rfl rfl ?_
  refine RW.step (Ex.mul64 (a := x &&& -x) (b := 285870213051353865#64) rfl rfl) rfl rfl rfl ?_
  refine RW.step (Ex.shr64 (a := (x &&& -x) * 285870213051353865#64) (n := 58) rfl rfl (by omega)) rfl rfl rfl ?_
  refine RW.step (Ex.indexArr (arrT_of (n := 64) (e := 5) (sz := 1) (by kernel_rfl)) rfl rfl (((x &&& -x) * 285870213051353865#64) >>> (58 : Int).toNat).toNat rfl hi) rfl rfl rfl ?_
  refine RW.step (Ex.loadH hM (Hp.le.refl _) hb to5 rfl (by rw [Nat.zero_add, Nat.mul_one, hc _ hi, htab])) rfl rfl rfl ?_
  refine RW.step (Ex.conv Tryd.underlying5 Tryd.underlying3 rfl (wrap_i64 (by omega) (by omega))) rfl rfl rfl ?_
  refine RW.step (Ex.assign (.int .i64 (Lib.ctz 64 x.toNat : Int)) rfl) rfl rfl rfl (RW.nil ?_)
  refine CW.ret ?_
  refine end_tmp (.inl rfl) rfl (.int .i64 (Lib.ctz 64 x.toNat : Int)) rfl ?_
  exact ⟨_, _, hM, rfl⟩
theorem elements_ret (H : Hp) (A1 : Option Addr) (n : Int) (c1 : Nat) (ws : List (BitVec 64)) (hr1 : RdC H A1 ws.length c1 1 (ws.map u64)) (a : Int) : Ret Tryd.prog 95 #[.agg #[.int .i64 n, .slice A1 ws.length c1], .int .i64 a] H (ELv 132 [.int .i64 n, .slice A1 ws.length c1] a) := by
  have hL := hr1.2.2.1
  have hL1 := hr1.2.1
  unfold maxLen at hL
  refine Ret.of_code Tryd.func95 rfl (Nat.le_of_ble_eq_true rfl) fun w0 hM => ?_
  refine CW.seq ?_
  refine CW.region ?_
  refine RW.box hM (.agg #[.int .i64 (n), .slice A1 ws.length c1]) [.int .i64 (n), .slice A1 ws.length c1] rfl rfl rfl rfl ?_; intro b1 w hM
  refine RW.box hM (.int .i64 (a)) [.int .i64 (a)] rfl rfl rfl rfl ?_; intro b2 w hM
  refine RW.step (Ex.assign (.nilFunc) rfl) rfl rfl rfl ?_
  refine RW.nil ?_
  refine CW.seq ?_
  refine CW.region ?_
  refine RW.step (Ex.makeFunc (fs := []) (cs := [.pointer (some ⟨b1, 0, none⟩), .pointer (some ⟨b2, 0, none⟩)]) rfl rfl) rfl rfl rfl ?_
  refine RW.step (Ex.assign (.func (.func 132) #[] #[.pointer (some ⟨b1, 0, none⟩), .pointer (some ⟨b2, 0, none⟩)]) rfl) rfl rfl rfl ?_
  refine RW.nil ?_
  refine CW.ret ?_
  refine end_tmp (.inl rfl) rfl (.func (.func 132) #[] #[.pointer (some ⟨b1, 0, none⟩), .pointer (some ⟨b2, 0, none⟩)]) rfl ?_
  obtain ⟨H8, hM, hle8, hb8⟩ := hM.giveBox (k := 1) rfl
  obtain ⟨H9, hM, hle9, hb9⟩ := hM.giveBox (k := 0) rfl
  exact ⟨_, _, hM, _, _, _, _, rfl, hle9 _ _ hb8, hb9⟩
theorem elements1_iter (H : Hp) (A1 : Option Addr) (n : Int) (c1 : Nat) (ws : List (BitVec 64)) (hr1 : RdC H A1 ws.length c1 1 (ws.map u64)) (a : Int) (b1 b2 : Nat) (T1 T2 : TypeId) (hb1 : H b1 = some (.cells [Value.int .i64 n, .slice A1 ws.length c1].toArray T1 (0, 0))) (hb2 : H b2 = some (.cells [Value.int .i64 a].toArray T2 (0, 0))) (hT : TabH H 0) (ha0 : 0 ≤ a) (ha1 : a ≤ 9223372036854775807) : Iter Tryd.prog 132 [.pointer (some ⟨b1, 0, none⟩), .pointer (some ⟨b2, 0, none⟩)] H (elL n ws a).length (fun k => [.int .i64 (((elL n ws a).getD k 0 : Nat) : Int)]) := by
  have hL := hr1.2.2.1
  have hL1 := hr1.2.1
  unfold maxLen at hL
  intro l J Jx W hW hJa hJxa hY hJ
  refine (calls_of_code Tryd.func132 rfl (Nat.le_of_ble_eq_true rfl) (R := fun _ w => J ((elL n ws a).length) w ∨ ∃ k, k < ((elL n ws a).length) ∧ Jx k w) ?_).mono fun e w ⟨v, h1, h2⟩ => ⟨v, h1, h2⟩
  have hM : Mem W H W H [] := Mem.start hW
  obtain ⟨w0, hw0⟩ : ∃ w0, W = w0 := ⟨_, rfl⟩
  rw [hw0] at hJ hM
  rw [hw0]
  refine CW.seq ?_
  refine CW.seq ?_
  refine CW.region ?_
  refine RW.step (Ex.loadHA hM (Hp.le.refl _) hb1 [.int .i64 (n), .slice A1 ws.length c1] ta65 rfl rfl rfl) rfl rfl rfl ?_
  refine RW.callV hM (check_ret _ _ n _ ws hr1) en94 rfl rfl rfl rfl ?_; intro w hM
  refine RW.step (Ex.neq rfl rfl) rfl rfl rfl ?_
  refine RW.nil ?_
  refine CW.cond_dec rfl (fun hc1 => ?_) (fun hc1 => ?_)
  · -- yes: (chk n ws) ≠ 0
    refine CW.ret ?_
    refine tqr ?_
    refine end_none (.inl rfl) rfl ?_
    exact Or.inl (by rw [elL_form hc1]; exact hJa 0 _ _ hJ hM.below)
  · -- no: (chk n ws) ≠ 0
    have hck := hc1
    have hwl := wf_len (Classical.not_not.1 hck)
    refine CW.skip ?_
    refine CW.seq ?_
    refine CW.region ?_
    refine RW.step (Ex.fieldAddr fa65_1 rfl) rfl rfl rfl ?_
    refine RW.step (Ex.loadH hM (Hp.le.refl _) hb1 to63 rfl rfl) rfl rfl rfl ?_
    refine RW.step (Ex.len st63.1 rfl) rfl rfl rfl ?_
    refine RW.step (Ex.move (.int .i64 (0)) rfl) rfl rfl rfl ?_
    refine RW.nil ?_
    refine CW.block ?_
    refine CW.loop (β := Nat) (fun (i : Nat) σ w => (∃ τ, σ = sl [(0, .func (.yield l) #[] #[]), (1, .pointer (some ⟨b1, 0, none⟩)), (2, .pointer (some ⟨b2, 0, none⟩)), (10, .slice A1 ws.length c1), (11, .int .i64 ((ws.length : Int))), (12, .int .i64 ((i : Int)))] τ) ∧ (∃ w0, J ((elK ws a (64 * i)).length) w0 ∧ Mem w0 H w H []) ∧ (i ≤ ws.length) ∧ True) (fun i => ws.length - i) (0) ⟨slc ⟨rfl, rfl, rfl, rfl, rfl, (show Value.int _ _ = Value.int _ _ from congrArg (Value.int _) (by omega)), trivial⟩, ⟨_, (show J ((elK ws a (64 * 0)).length) _ from hJ), hM⟩, (by omega), trivial⟩ ?_
    rintro i _ w ⟨⟨τ, rfl⟩, ⟨w0, hJ, hM⟩, hi, -⟩
    refine CW.seq ?_
    refine CW.region ?_
    refine RW.step (Ex.lss rfl rfl) rfl rfl rfl ?_
    refine RW.nil ?_
    refine CW.seq ?_
    refine CW.cond_dec rfl (fun hc2 => ?_) (fun hc2 => ?_)
    · -- yes: (i : Int) < (ws.length : Int)
      refine CW.skip ?_
      refine CW.seq ?_
      refine CW.block ?_
      refine CW.seq ?_
      refine CW.region ?_
      refine RW.step (Ex.move (.int .i64 ((i : Int))) rfl) rfl rfl rfl ?_
      refine RW.step (Ex.index st63 rfl rfl i (hr1.ne (by omega)) (by omega) (by omega)) rfl rfl rfl ?_
      refine RW.step (Ex.loadE hM (Hp.le.refl _) hr1 to151 rfl (getW (by omega))) rfl rfl rfl ?_
      refine RW.step (Ex.assign (.int .i64 ((i : Int))) rfl) rfl rfl rfl ?_
      refine RW.step (Ex.assign (u64 (ws.getD i 0#64)) rfl) rfl rfl rfl ?_
      refine RW.nil ?_
      refine CW.seq ?_
      refine CW.region ?_
      refine RW.step (Ex.move (u64 (ws.getD i 0#64)) rfl) rfl rfl rfl ?_
      refine RW.step (Ex.move (.int .i64 ((i : Int))) rfl) rfl rfl rfl ?_
      refine RW.step (Ex.loadH hM (Hp.le.refl _) hb2 to3 rfl rfl) rfl rfl rfl ?_
      refine RW.step (Ex.fieldAddr fa65_0 rfl) rfl rfl rfl ?_
      refine RW.step (Ex.loadH hM (Hp.le.refl _) hb1 to3 rfl rfl) rfl rfl rfl ?_
      refine RW.callV hM (mask_ret _ (i : Int) a n (by omega) (by omega) (by omega) (by omega) (by omega) (by omega)) en133 rfl rfl rfl rfl ?_; intro w hM
      refine RW.step (Ex.and64 (a := ws.getD i 0#64) (b := maskW (i : Int) a n) rfl rfl) rfl rfl rfl ?_
      refine RW.step (Ex.assign (u64 ((ws.getD i 0#64) &&& (maskW (i : Int) a n))) rfl) rfl rfl rfl ?_
      refine RW.nil ?_
      refine CW.block ?_
      refine CW.loop (β := Nat) (fun (p : Nat) σ w => ∃ (x : BitVec 64), (∃ τ, σ = sl [(0, .func (.yield l) #[] #[]), (1, .pointer (some ⟨b1, 0, none⟩)), (2, .pointer (some ⟨b2, 0, none⟩)), (4, .int .i64 ((i : Int))), (5, u64 (x)), (10, .slice A1 ws.length c1), (11, .int .i64 ((ws.length : Int))), (12, .int .i64 ((i : Int))), (13, .bool (decide ((i : Int) < (ws.length : Int)))), (14, .int .i64 ((i : Int))), (15, elp A1 (i * 1 + 0)), (16, u64 (ws.getD i 0#64)), (17, u64 (ws.getD i 0#64)), (18, .int .i64 ((i : Int))), (19, .int .i64 (a)), (20, .pointer (some ⟨b1, 0, none⟩)), (21, .int .i64 (n)), (22, u64 (maskW (i : Int) a n)), (23, u64 ((ws.getD i 0#64) &&& (maskW (i : Int) a n)))] τ) ∧ (∃ w0, J ((elK ws a p).length) w0 ∧ Mem w0 H w H []) ∧ (64 * i ≤ p) ∧ (p ≤ 64 * (i + 1)) ∧ (elX n ws a i p x) ∧ True) (fun p => 64 * (i + 1) - p) (64 * i) ⟨(ws.getD i 0#64) &&& (maskW (i : Int) a n), slc ⟨rfl, rfl, rfl, rfl, rfl, rfl, rfl, rfl, rfl, rfl, rfl, rfl, rfl, rfl, rfl, rfl, rfl, rfl, rfl, trivial⟩, ⟨_, hJ, hM⟩, (by omega), (by omega), (elX_start n ws a i), trivial⟩ ?_
      rintro p _ w ⟨x, ⟨τ, rfl⟩, ⟨w0, hJ, hM⟩, hp1, hp2, hx, -⟩
      refine CW.seq ?_
      refine CW.seq ?_
      refine CW.region ?_
      refine RW.step (Ex.move (u64 (x)) rfl) rfl rfl rfl ?_
      refine RW.step (Ex.neq64 (a := x) (b := 0#64) rfl rfl) rfl rfl rfl ?_
      refine RW.nil ?_
      refine CW.cond_dec rfl (fun hc3 => ?_) (fun hc3 => ?_)
      · -- yes: x ≠ (0#64)
        obtain ⟨hs1, hs2, hs3, _, _, hs6⟩ := elX_step hx hc3
        obtain ⟨hn1, hn2, hn3⟩ := elX_next hck hp1 hx hc3
        refine CW.skip ?_
        refine CW.block ?_
        refine CW.seq ?_
        refine CW.seq ?_
        refine CW.region ?_
        refine RW.step (Ex.move (.func (.yield l) #[] #[]) rfl) rfl rfl rfl ?_
        refine RW.step (Ex.move (.int .i64 ((i : Int))) rfl) rfl rfl rfl ?_
        refine RW.step (Ex.mul rfl rfl (by omega) (by omega)) rfl rfl rfl ?_
        refine RW.step (Ex.move (u64 (x)) rfl) rfl rfl rfl ?_
        refine RW.callV hM (tz_ret _ x hc3 hT) en134 rfl rfl rfl rfl ?_; intro w hM
        refine RW.step (Ex.add rfl rfl (by omega) (by omega)) rfl rfl rfl ?_
        refine RW.yield rfl (congrArg (fun z => [Value.int .i64 z]) (show ((i : Int) * 64) + (Lib.ctz 64 (x).toNat : Int) = _ by rw [hn2]; omega)) (hY ((elK ws a p).length) _ (hn1) (hJa _ _ _ hJ hM.below) hM.agree) rfl rfl ?_
        rintro _ w0 ⟨hag, ⟨rfl, hJ⟩ | ⟨rfl, hJx⟩⟩
        · -- it goes on
          replace hM : Mem w0 H w0 H [] := Mem.start hag
          refine RW.step (Ex.notB (b := true) rfl) rfl rfl rfl ?_
          refine RW.nil ?_
          refine CW.cond_false rfl ?_
          refine CW.skip ?_
          refine CW.region ?_
          refine RW.step (Ex.move (u64 (x)) rfl) rfl rfl rfl ?_
          refine RW.step (Ex.move (u64 (x)) rfl) rfl rfl rfl ?_
          refine RW.step (Ex.sub64 (a := x) (b := 1#64) rfl rfl) rfl rfl rfl ?_
          refine RW.step (Ex.and64 (a := x) (b := x - (1#64)) rfl rfl) rfl rfl rfl ?_
          refine RW.step (Ex.assign (u64 (x &&& (x - (1#64)))) rfl) rfl rfl rfl ?_
          refine RW.nil ?_
          refine And.intro rfl (Exists.intro (64 * i + Lib.ctz 64 x.toNat + 1) (And.intro ⟨x &&& (x - (1#64)), slc ⟨rfl, rfl, rfl, rfl, rfl, rfl, rfl, rfl, rfl, rfl, rfl, rfl, rfl, rfl, rfl, rfl, rfl, rfl, rfl, trivial⟩, ⟨_, (by rw [hn3]; exact hJ), hM⟩, (by omega), (by omega), hs6, trivial⟩ (by omega)))
        · -- it is left
          replace hM : Mem w0 H w0 H [] := Mem.start hag
          refine RW.step (Ex.notB (b := false) rfl) rfl rfl rfl ?_
          refine RW.nil ?_
          refine CW.cond_true rfl ?_
          refine CW.ret ?_
          refine tqr (bqr (tqr (bqr (bqr (tqr (tqr (bqr ?_)))))))
          refine end_none (.inl rfl) rfl ?_
          exact Or.inr ⟨_, hn1, hJxa _ _ _ hJx hM.below⟩
      · -- no: x ≠ (0#64)
        refine CW.exit ?_
        refine CW.region ?_
        refine RW.step (Ex.add rfl rfl (by omega) (by omega)) rfl rfl rfl ?_
        refine RW.step (Ex.move (.int .i64 ((i : Int) + 1)) rfl) rfl rfl rfl ?_
        refine RW.nil ?_
        refine And.intro rfl (Exists.intro (i + 1) (And.intro ⟨slc ⟨rfl, rfl, rfl, rfl, rfl, (show Value.int _ _ = Value.int _ _ from congrArg (Value.int _) (by omega)), trivial⟩, ⟨_, (by rw [elK_skip' (e := 64 * (i + 1)) hp2 (elX_end hck (by omega) hp1 (by have hxz := Classical.not_not.1 hc3; rw [hxz] at hx; exact hx))]; exact hJ), hM⟩, (by omega), trivial⟩ (by omega)))
    · -- no: (i : Int) < (ws.length : Int)
      refine CW.exit ?_
      change endQ Tryd.prog Tryd.f132 (fun _ w => J ((elL n ws a).length) w ∨ ∃ k, k < ((elL n ws a).length) ∧ Jx k w) .normal [] _ _
      refine end_none (.inr rfl) rfl ?_
      exact Or.inl (by rw [← elK_top (p := 64 * i) hc1 (by omega) (by omega)]; exact hJa _ _ _ hJ hM.below)
theorem exts_ret (H : Hp) (A1 : Option Addr) (n : Int) (c1 : Nat) (ws : List (BitVec 64)) (hr1 : RdC H A1 ws.length c1 1 (ws.map u64)) (hT : TabH H 0) : Ret Tryd.prog 44 #[.agg #[.int .i64 n, .slice A1 ws.length c1]] H (ERv (extR n ws)) := by
  have hL := hr1.2.2.1
  have hL1 := hr1.2.1
  unfold maxLen at hL
  refine Ret.of_codeM Tryd.func44 rfl (Nat.le_of_ble_eq_true rfl) fun w0 hM => ?_
  refine CW.seq ?_
  refine CW.region ?_
  refine RW.box hM (.agg #[.int .i64 (n), .slice A1 ws.length c1]) [.int .i64 (n), .slice A1 ws.length c1] rfl rfl rfl rfl ?_; intro b1 w hM
  refine RW.step (Ex.assign (.slice none 0 0) rfl) rfl rfl rfl ?_
  refine RW.nil ?_
  refine CW.seq ?_
  refine CW.region ?_
  refine RW.alloc hM tz68 [.slice none 0 0] rfl rfl rfl ?_; intro b2 w hM
  refine RW.nil ?_
  refine CW.seq ?_
  refine CW.seq ?_
  refine CW.region ?_
  refine RW.step (Ex.loadA hM 1 [.int .i64 (n), .slice A1 ws.length c1] ta65 rfl rfl rfl rfl) rfl rfl rfl ?_
  refine RW.call hM (elements_ret _ _ n _ ws hr1 0) en95 rfl rfl rfl rfl ?_; rintro _ w H3 hle4 ⟨b5, b6, T7, T8, rfl, hb9, hb10⟩ hM
  refine RW.nil ?_
  refine CW.block ?_
  refine CW.range (fun k Hk L' => ∃ (Ax : Option Addr), ∃ (cx : Nat), L' = [.row (.slice Ax ((extsOf ((elL n ws 0).take k)).length) cx) 103 2 ((extsOf ((elL n ws 0).take k)).length) ((extsOf ((elL n ws 0).take k)).flatMap eC), .box b2 68 [.slice Ax ((extsOf ((elL n ws 0).take k)).length) cx], .box b1 65 [.int .i64 (n), .slice A1 ws.length c1]] ∧ True) (hM.nilRow 103 2) rfl en132 (Hp.le.refl _) (elements1_iter _ _ n _ ws (hr1.mono hle4) 0 b5 b6 T7 T8 hb9 hb10 (hT.mono hle4) (by omega) (by omega)) (fun _ => rfl) rfl ⟨none, 0, rfl, trivial⟩ ?_ ?_
  · -- a round
    rintro l11 D12 rdy bsy k Hk _ w hk hle14 ⟨Ax, cx, rfl, -⟩ hM
    replace hM : Mem w0 H w Hk [.row (.slice Ax ((extsOf ((elL n ws 0).take k)).length) cx) 103 2 ((extsOf ((elL n ws 0).take k)).length) ((extsOf ((elL n ws 0).take k)).flatMap eC), .box b2 68 [.slice Ax ((extsOf ((elL n ws 0).take k)).length) cx], .box b1 65 [.int .i64 (n), .slice A1 ws.length c1], .obj l11 rdy, .obj D12 ddO] := hM
    obtain ⟨e, he1, he2, hn4, he3, hel⟩ := elL_take hk
    rw [he1]
    have hx := extsK_facts ws e
    rw [← he3] at hx
    have hxl := hx.2
    refine CW.region ?_
    refine RW.step (Ex.assign (.int .i64 ((e : Int))) rfl) rfl rfl rfl ?_
    refine RW.nil ?_
    refine And.intro rfl ⟨_, [.row (.slice Ax ((extsOf ((elL n ws 0).take k)).length) cx) 103 2 ((extsOf ((elL n ws 0).take k)).length) ((extsOf ((elL n ws 0).take k)).flatMap eC), .box b2 68 [.slice Ax ((extsOf ((elL n ws 0).take k)).length) cx], .box b1 65 [.int .i64 (n), .slice A1 ws.length c1]], hle14, hM, fun w hM => ?_⟩
    replace hM : Mem w0 H w Hk [.row (.slice Ax ((extsOf ((elL n ws 0).take k)).length) cx) 103 2 ((extsOf ((elL n ws 0).take k)).length) ((extsOf ((elL n ws 0).take k)).flatMap eC), .box b2 68 [.slice Ax ((extsOf ((elL n ws 0).take k)).length) cx], .box b1 65 [.int .i64 (n), .slice A1 ws.length c1], .obj l11 bsy, .obj D12 ddO] := hM
    refine CW.block ?_
    refine CW.seq ?_
    refine CW.seq ?_
    refine CW.region ?_
    refine RW.step (Ex.load1 hM 1 to68 rfl rfl rfl) rfl rfl rfl ?_
    refine RW.step (Ex.len st68.1 rfl) rfl rfl rfl ?_
    refine RW.step (Ex.assign (.int .i64 (((extsOf ((elL n ws 0).take k)).length : Int))) rfl) rfl rfl rfl ?_
    refine RW.nil ?_
    refine CW.seq ?_
    by_cases hd15 : 0 < ((extsOf ((elL n ws 0).take k)).length : Int)
    ·
      have hxg := exB_get hx.1 (show (((extsOf ((elL n ws 0).take k)).length : Int) - 1).toNat < (extsOf ((elL n ws 0).take k)).length by omega)
      refine CW.drawE 19 [.int .i64 (((extsOf ((elL n ws 0).take k)).length : Int)), .bool true, .bool true, .slice Ax ((extsOf ((elL n ws 0).take k)).length) cx, .int .i64 (((extsOf ((elL n ws 0).take k)).length : Int)), .int .i64 (((extsOf ((elL n ws 0).take k)).length : Int) - 1), elp Ax (((((extsOf ((elL n ws 0).take k)).length : Int) - 1).toNat) * 2 + 0), elp Ax (((((extsOf ((elL n ws 0).take k)).length : Int) - 1).toNat) * 2 + 0), .int .i64 (((extsOf ((elL n ws 0).take k)).getD ((((extsOf ((elL n ws 0).take k)).length : Int) - 1).toNat) (0, 0)).1), .slice Ax ((extsOf ((elL n ws 0).take k)).length) cx, .int .i64 (((extsOf ((elL n ws 0).take k)).length : Int)), .int .i64 (((extsOf ((elL n ws 0).take k)).length : Int) - 1), elp Ax (((((extsOf ((elL n ws 0).take k)).length : Int) - 1).toNat) * 2 + 0), elp Ax (((((extsOf ((elL n ws 0).take k)).length : Int) - 1).toNat) * 2 + 1), .int .i64 (((extsOf ((elL n ws 0).take k)).getD ((((extsOf ((elL n ws 0).take k)).length : Int) - 1).toNat) (0, 0)).2), .int .i64 ((((extsOf ((elL n ws 0).take k)).getD ((((extsOf ((elL n ws 0).take k)).length : Int) - 1).toNat) (0, 0)).1) + (((extsOf ((elL n ws 0).take k)).getD ((((extsOf ((elL n ws 0).take k)).length : Int) - 1).toNat) (0, 0)).2)), .int .i64 ((e : Int)), .bool (decide (((((extsOf ((elL n ws 0).take k)).getD ((((extsOf ((elL n ws 0).take k)).length : Int) - 1).toNat) (0, 0)).1) + (((extsOf ((elL n ws 0).take k)).getD ((((extsOf ((elL n ws 0).take k)).length : Int) - 1).toNat) (0, 0)).2)) = (e : Int))), .bool (decide (((((extsOf ((elL n ws 0).take k)).getD ((((extsOf ((elL n ws 0).take k)).length : Int) - 1).toNat) (0, 0)).1) + (((extsOf ((elL n ws 0).take k)).getD ((((extsOf ((elL n ws 0).take k)).length : Int) - 1).toNat) (0, 0)).2)) = (e : Int)))]
        [[(5, none)], [(11, some 0)], [(12, some 1)], [(3, none), (13, some 2)], [(5, none), (13, some 2)], [(13, some 2), (15, some 4)], [(13, some 2), (14, some 3), (16, some 5)], [(13, some 2), (17, some 6)], [(13, some 2), (18, some 7)], [(3, none), (13, some 2)], [(5, none), (13, some 2)], [(13, some 2), (21, some 10)], [(13, some 2), (20, some 9), (22, some 11)], [(13, some 2), (23, some 12)], [(13, some 2), (24, some 13)], [(13, some 2), (19, some 8), (25, some 14)], [(4, none), (13, some 2)], [(13, some 2), (26, some 15), (27, some 16)], [(13, some 2), (28, some 17)]] [(3, none), (4, none), (5, none), (29, some 18)] (by kernel_rfl) hM (by kernel_rfl) ⟨?_, ?_, ?_, ?_, ?_, ?_, ?_, ?_, ?_, ?_, ?_, ?_, ?_, ?_, ?_, ?_, ?_, ?_, ?_, trivial⟩ ?_
      · exact One.ex (fun H' τ w hled hM => Ex.move (.int .i64 (((extsOf ((elL n ws 0).take k)).length : Int))) rfl) rfl (fun _ => rfl) rfl
      · exact One.ex (fun H' τ w hled hM => Ex.yes (Ex.gtr rfl rfl) hd15) rfl (fun _ => rfl) rfl
      · exact One.ex (fun H' τ w hled hM => Ex.move (.bool true) rfl) rfl (fun _ => rfl) rfl
      · exact One.ex (fun H' τ w hled hM => Ex.load1 hM 1 to68 rfl rfl rfl) rfl (fun _ => rfl) rfl
      · exact One.ex (fun H' τ w hled hM => Ex.move (.int .i64 (((extsOf ((elL n ws 0).take k)).length : Int))) rfl) rfl (fun _ => rfl) rfl
      · exact One.ex (fun H' τ w hled hM => Ex.sub rfl rfl (by omega) (by omega)) rfl (fun _ => rfl) rfl
      · exact One.ex (fun H' τ w hled hM => Ex.index st68 rfl rfl ((((extsOf ((elL n ws 0).take k)).length : Int) - 1).toNat) (hM.rowNe (k := 0) rfl (by omega)) (by omega) (by omega)) rfl (fun _ => rfl) rfl
      · exact One.ex (fun H' τ w hled hM => Ex.fieldE fa103_0 (hM.rowNe (k := 0) rfl (by omega)) rfl) rfl (fun _ => rfl) rfl
      · exact One.ex (fun H' τ w hled hM => Ex.loadR hM 0 rfl to3 (hM.rowNe (k := 0) rfl (by omega)) rfl (getE0 (by omega))) rfl (fun _ => rfl) rfl
      · exact One.ex (fun H' τ w hled hM => Ex.load1 hM 1 to68 rfl rfl rfl) rfl (fun _ => rfl) rfl
      · exact One.ex (fun H' τ w hled hM => Ex.move (.int .i64 (((extsOf ((elL n ws 0).take k)).length : Int))) rfl) rfl (fun _ => rfl) rfl
      · exact One.ex (fun H' τ w hled hM => Ex.sub rfl rfl (by omega) (by omega)) rfl (fun _ => rfl) rfl
      · exact One.ex (fun H' τ w hled hM => Ex.index st68 rfl rfl ((((extsOf ((elL n ws 0).take k)).length : Int) - 1).toNat) (hM.rowNe (k := 0) rfl (by omega)) (by omega) (by omega)) rfl (fun _ => rfl) rfl
      · exact One.ex (fun H' τ w hled hM => Ex.fieldE fa103_1 (hM.rowNe (k := 0) rfl (by omega)) rfl) rfl (fun _ => rfl) rfl
      · exact One.ex (fun H' τ w hled hM => Ex.loadR hM 0 rfl to3 (hM.rowNe (k := 0) rfl (by omega)) rfl (getE1 (by omega))) rfl (fun _ => rfl) rfl
      · exact One.ex (fun H' τ w hled hM => Ex.add rfl rfl (by omega) (by omega)) rfl (fun _ => rfl) rfl
      · exact One.ex (fun H' τ w hled hM => Ex.move (.int .i64 ((e : Int))) rfl) rfl (fun _ => rfl) rfl
      · exact One.ex (fun H' τ w hled hM => Ex.eql rfl rfl) rfl (fun _ => rfl) rfl
      · exact One.ex (fun H' τ w hled hM => Ex.pickT (.bool (decide (((((extsOf ((elL n ws 0).take k)).getD ((((extsOf ((elL n ws 0).take k)).length : Int) - 1).toNat) (0, 0)).1) + (((extsOf ((elL n ws 0).take k)).getD ((((extsOf ((elL n ws 0).take k)).length : Int) - 1).toNat) (0, 0)).2)) = (e : Int)))) rfl rfl) rfl (fun _ => rfl) rfl
      intro τ w hM
      change RW _ _ _ _ _ _ _ _ (sl [(3, .pointer (some ⟨b2, 0, none⟩)), (4, .int .i64 ((e : Int))), (5, .int .i64 (((extsOf ((elL n ws 0).take k)).length : Int))), (29, .bool (decide (((((extsOf ((elL n ws 0).take k)).getD ((((extsOf ((elL n ws 0).take k)).length : Int) - 1).toNat) (0, 0)).1) + (((extsOf ((elL n ws 0).take k)).getD ((((extsOf ((elL n ws 0).take k)).length : Int) - 1).toNat) (0, 0)).2)) = (e : Int))))] τ) _
      refine RW.nil ?_
      refine CW.cond_dec rfl (fun hc16 => ?_) (fun hc16 => ?_)
      · -- yes: ((((extsOf ((elL n ws 0).take k)).getD ((((extsOf ((elL n ws 0).take k)).length : Int) - 1).toNat) (0, 0)).1) + (((extsO
        have hxj := hc16
        refine CW.seq ?_
        refine CW.region ?_
        refine RW.step (Ex.load1 hM 1 to68 rfl rfl rfl) rfl rfl rfl ?_
        refine RW.step (Ex.move (.int .i64 (((extsOf ((elL n ws 0).take k)).length : Int))) rfl) rfl rfl rfl ?_
        refine RW.step (Ex.sub rfl rfl (by omega) (by omega)) rfl rfl rfl ?_
        refine RW.step (Ex.index st68 rfl rfl ((((extsOf ((elL n ws 0).take k)).length : Int) - 1).toNat) (hM.rowNe (k := 0) rfl (by omega)) (by omega) (by omega)) rfl rfl rfl ?_
        refine RW.step (Ex.fieldE fa103_1 (hM.rowNe (k := 0) rfl (by omega)) rfl) rfl rfl rfl ?_
        refine RW.step (Ex.loadR hM 0 rfl to3 (hM.rowNe (k := 0) rfl (by omega)) rfl (getE1 (by omega))) rfl rfl rfl ?_
        refine RW.step (Ex.add rfl rfl (by omega) (by omega)) rfl rfl rfl ?_
        refine RW.step (Ex.index st68 rfl rfl ((((extsOf ((elL n ws 0).take k)).length : Int) - 1).toNat) (hM.rowNe (k := 0) rfl (by omega)) (by omega) (by omega)) rfl rfl rfl ?_
        refine RW.step (Ex.fieldE fa103_1 (hM.rowNe (k := 0) rfl (by omega)) rfl) rfl rfl rfl ?_
        refine RW.storeR hM 0 (((((extsOf ((elL n ws 0).take k)).length : Int) - 1).toNat) * 2 + 1) (.int .i64 ((((extsOf ((elL n ws 0).take k)).getD ((((extsOf ((elL n ws 0).take k)).length : Int) - 1).toNat) (0, 0)).2) + 1)) [.int .i64 ((((extsOf ((elL n ws 0).take k)).getD ((((extsOf ((elL n ws 0).take k)).length : Int) - 1).toNat) (0, 0)).2) + 1)] ((bumpE (extsOf ((elL n ws 0).take k)) ((((extsOf ((elL n ws 0).take k)).length : Int) - 1).toNat) ((((extsOf ((elL n ws 0).take k)).getD ((((extsOf ((elL n ws 0).take k)).length : Int) - 1).toNat) (0, 0)).2) + 1)).flatMap eC) sz3 rfl (hM.rowNe (k := 0) rfl (by omega)) rfl rfl (oneAll ⟨rfl, trivial⟩) rfl (by rw [eC_len]; simp only [List.length_cons, List.length_nil]; omega) (setE (by omega)) [.row (.slice Ax ((extsOf ((elL n ws 0).take k)).length) cx) 103 2 ((extsOf ((elL n ws 0).take k)).length) ((bumpE (extsOf ((elL n ws 0).take k)) ((((extsOf ((elL n ws 0).take k)).length : Int) - 1).toNat) ((((extsOf ((elL n ws 0).take k)).getD ((((extsOf ((elL n ws 0).take k)).length : Int) - 1).toNat) (0, 0)).2) + 1)).flatMap eC), .box b2 68 [.slice Ax ((extsOf ((elL n ws 0).take k)).length) cx], .box b1 65 [.int .i64 (n), .slice A1 ws.length c1], .obj l11 bsy, .obj D12 ddO] rfl rfl rfl ?_; intro w hM
        refine RW.nil ?_
        refine CW.exit ?_
        refine And.intro rfl ⟨_, [.row (.slice Ax ((extsOf ((elL n ws 0).take (k + 1))).length) cx) 103 2 ((extsOf ((elL n ws 0).take (k + 1))).length) ((extsOf ((elL n ws 0).take (k + 1))).flatMap eC), .box b2 68 [.slice Ax ((extsOf ((elL n ws 0).take (k + 1))).length) cx], .box b1 65 [.int .i64 (n), .slice A1 ws.length c1]], hle14, (by rw [hel, addX_join ⟨by omega, by rw [(show (((extsOf ((elL n ws 0).take k)).length : Int) - 1).toNat = (extsOf ((elL n ws 0).take k)).length - 1 by omega)] at hxj; exact hxj⟩, bumpE_length]; rw [(show (((extsOf ((elL n ws 0).take k)).length : Int) - 1).toNat = (extsOf ((elL n ws 0).take k)).length - 1 by omega)] at hM; exact hM), Ax, cx, rfl, trivial⟩
      · -- no: ((((extsOf ((elL n ws 0).take k)).getD ((((extsOf ((elL n ws 0).take k)).length : Int) - 1).toNat) (0, 0)).1) + (((extsO
        refine CW.skip ?_
        refine CW.region ?_
        refine RW.step (Ex.load1 hM 1 to68 rfl rfl rfl) rfl rfl rfl ?_
        refine RW.step (Ex.move (.int .i64 ((e : Int))) rfl) rfl rfl rfl ?_
        refine RW.step (Ex.build bs103 [(0, .int .i64 ((e : Int))), (1, .int .i64 (1))] [.int .i64 ((e : Int)), .int .i64 (1)] rfl rfl) rfl rfl rfl ?_
        refine RW.buildSlice hM st68 tz103 [(0, .agg #[.int .i64 ((e : Int)), .int .i64 (1)])] [.int .i64 ((e : Int)), .int .i64 (1)] (by decide) rfl rfl rfl (by decide) rfl rfl ?_; intro b17 w hM
        refine RW.append hM 1 st68 rfl rfl rfl ([.int .i64 ((e : Int)), .int .i64 (1)]) rfl (fun j u hj => hM.rowCell (k := 0) rfl rfl hj) (oneAll ⟨rfl, rfl, trivial⟩) (by omega) (by unfold maxLen; omega) rfl rfl ?_; intro A18 c19 w hM
        replace hM : Mem w0 H w Hk [.row (.slice (some ⟨b17, 0, none⟩) 1 1) 103 2 1 ([.int .i64 ((e : Int)), .int .i64 (1)]), .row (.slice A18 ((extsOf ((elL n ws 0).take k)).length + 1) c19) 103 2 ((extsOf ((elL n ws 0).take k)).length + 1) (((extsOf ((elL n ws 0).take k)) ++ [((e : Int), 1)]).flatMap eC), .box b2 68 [.slice Ax ((extsOf ((elL n ws 0).take k)).length) cx], .box b1 65 [.int .i64 (n), .slice A1 ws.length c1], .obj l11 bsy, .obj D12 ddO] := (by simpa [List.flatMap_append, eC] using hM)
        refine RW.store hM 2 (.slice A18 ((extsOf ((elL n ws 0).take k)).length + 1) c19) [.slice A18 ((extsOf ((elL n ws 0).take k)).length + 1) c19] [.slice A18 ((extsOf ((elL n ws 0).take k)).length + 1) c19] sz68 rfl rfl rfl (oneAll ⟨rfl, trivial⟩) rfl (Nat.le_of_ble_eq_true rfl) rfl [.row (.slice (some ⟨b17, 0, none⟩) 1 1) 103 2 1 ([.int .i64 ((e : Int)), .int .i64 (1)]), .row (.slice A18 ((extsOf ((elL n ws 0).take k)).length + 1) c19) 103 2 ((extsOf ((elL n ws 0).take k)).length + 1) (((extsOf ((elL n ws 0).take k)) ++ [((e : Int), 1)]).flatMap eC), .box b2 68 [.slice A18 ((extsOf ((elL n ws 0).take k)).length + 1) c19], .box b1 65 [.int .i64 (n), .slice A1 ws.length c1], .obj l11 bsy, .obj D12 ddO] rfl rfl rfl ?_; intro w hM
        refine RW.nil ?_
        refine And.intro rfl ⟨_, [.row (.slice A18 ((extsOf ((elL n ws 0).take (k + 1))).length) c19) 103 2 ((extsOf ((elL n ws 0).take (k + 1))).length) ((extsOf ((elL n ws 0).take (k + 1))).flatMap eC), .box b2 68 [.slice A18 ((extsOf ((elL n ws 0).take (k + 1))).length) c19], .box b1 65 [.int .i64 (n), .slice A1 ws.length c1]], hle14, (by rw [hel, addX_new (fun hj => hc16 (by rw [(show (((extsOf ((elL n ws 0).take k)).length : Int) - 1).toNat = (extsOf ((elL n ws 0).take k)).length - 1 by omega)]; exact hj.2)), List.length_append]; exact hM.sub (List.Sublist.cons _ (List.Sublist.refl _))), A18, c19, rfl, trivial⟩
    ·
      refine CW.drawE 19 [.int .i64 (((extsOf ((elL n ws 0).take k)).length : Int)), .bool false, .bool false, undef, undef, undef, undef, undef, undef, undef, undef, undef, undef, undef, undef, undef, undef, undef, .bool false]
        [[(5, none)], [(11, some 0)], [(12, some 1)], [(13, some 2)], [(13, some 2)], [(13, some 2)], [(13, some 2)], [(13, some 2)], [(13, some 2)], [(13, some 2)], [(13, some 2)], [(13, some 2)], [(13, some 2)], [(13, some 2)], [(13, some 2)], [(13, some 2)], [(13, some 2)], [(13, some 2)], [(13, some 2), (28, some 17)]] [(3, none), (4, none), (5, none), (29, some 18)] (by kernel_rfl) hM (by kernel_rfl) ⟨?_, ?_, ?_, ?_, ?_, ?_, ?_, ?_, ?_, ?_, ?_, ?_, ?_, ?_, ?_, ?_, ?_, ?_, ?_, trivial⟩ ?_
      · exact One.ex (fun H' τ w hled hM => Ex.move (.int .i64 (((extsOf ((elL n ws 0).take k)).length : Int))) rfl) rfl (fun _ => rfl) rfl
      · exact One.ex (fun H' τ w hled hM => Ex.no (Ex.gtr rfl rfl) hd15) rfl (fun _ => rfl) rfl
      · exact One.ex (fun H' τ w hled hM => Ex.move (.bool false) rfl) rfl (fun _ => rfl) rfl
      · exact One.pass (fun _ => rfl) rfl
      · exact One.pass (fun _ => rfl) rfl
      · exact One.pass (fun _ => rfl) rfl
      · exact One.pass (fun _ => rfl) rfl
      · exact One.pass (fun _ => rfl) rfl
      · exact One.pass (fun _ => rfl) rfl
      · exact One.pass (fun _ => rfl) rfl
      · exact One.pass (fun _ => rfl) rfl
      · exact One.pass (fun _ => rfl) rfl
      · exact One.pass (fun _ => rfl) rfl
      · exact One.pass (fun _ => rfl) rfl
      · exact One.pass (fun _ => rfl) rfl
      · exact One.pass (fun _ => rfl) rfl
      · exact One.pass (fun _ => rfl) rfl
      · exact One.pass (fun _ => rfl) rfl
      · exact One.ex (fun H' τ w hled hM => Ex.pickF (.bool false) rfl rfl) rfl (fun _ => rfl) rfl
      intro τ w hM
      change RW _ _ _ _ _ _ _ _ (sl [(3, .pointer (some ⟨b2, 0, none⟩)), (4, .int .i64 ((e : Int))), (5, .int .i64 (((extsOf ((elL n ws 0).take k)).length : Int))), (29, .bool false)] τ) _
      refine RW.nil ?_
      refine CW.cond_false rfl ?_
      refine CW.skip ?_
      refine CW.region ?_
      refine RW.step (Ex.load1 hM 1 to68 rfl rfl rfl) rfl rfl rfl ?_
      refine RW.step (Ex.move (.int .i64 ((e : Int))) rfl) rfl rfl rfl ?_
      refine RW.step (Ex.build bs103 [(0, .int .i64 ((e : Int))), (1, .int .i64 (1))] [.int .i64 ((e : Int)), .int .i64 (1)] rfl rfl) rfl rfl rfl ?_
      refine RW.buildSlice hM st68 tz103 [(0, .agg #[.int .i64 ((e : Int)), .int .i64 (1)])] [.int .i64 ((e : Int)), .int .i64 (1)] (by decide) rfl rfl rfl (by decide) rfl rfl ?_; intro b20 w hM
      refine RW.append hM 1 st68 rfl rfl rfl ([.int .i64 ((e : Int)), .int .i64 (1)]) rfl (fun j u hj => hM.rowCell (k := 0) rfl rfl hj) (oneAll ⟨rfl, rfl, trivial⟩) (by omega) (by unfold maxLen; omega) rfl rfl ?_; intro A21 c22 w hM
      replace hM : Mem w0 H w Hk [.row (.slice (some ⟨b20, 0, none⟩) 1 1) 103 2 1 ([.int .i64 ((e : Int)), .int .i64 (1)]), .row (.slice A21 ((extsOf ((elL n ws 0).take k)).length + 1) c22) 103 2 ((extsOf ((elL n ws 0).take k)).length + 1) (((extsOf ((elL n ws 0).take k)) ++ [((e : Int), 1)]).flatMap eC), .box b2 68 [.slice Ax ((extsOf ((elL n ws 0).take k)).length) cx], .box b1 65 [.int .i64 (n), .slice A1 ws.length c1], .obj l11 bsy, .obj D12 ddO] := (by simpa [List.flatMap_append, eC] using hM)
      refine RW.store hM 2 (.slice A21 ((extsOf ((elL n ws 0).take k)).length + 1) c22) [.slice A21 ((extsOf ((elL n ws 0).take k)).length + 1) c22] [.slice A21 ((extsOf ((elL n ws 0).take k)).length + 1) c22] sz68 rfl rfl rfl (oneAll ⟨rfl, trivial⟩) rfl (Nat.le_of_ble_eq_true rfl) rfl [.row (.slice (some ⟨b20, 0, none⟩) 1 1) 103 2 1 ([.int .i64 ((e : Int)), .int .i64 (1)]), .row (.slice A21 ((extsOf ((elL n ws 0).take k)).length + 1) c22) 103 2 ((extsOf ((elL n ws 0).take k)).length + 1) (((extsOf ((elL n ws 0).take k)) ++ [((e : Int), 1)]).flatMap eC), .box b2 68 [.slice A21 ((extsOf ((elL n ws 0).take k)).length + 1) c22], .box b1 65 [.int .i64 (n), .slice A1 ws.length c1], .obj l11 bsy, .obj D12 ddO] rfl rfl rfl ?_; intro w hM
      refine RW.nil ?_
      refine And.intro rfl ⟨_, [.row (.slice A21 ((extsOf ((elL n ws 0).take (k + 1))).length) c22) 103 2 ((extsOf ((elL n ws 0).take (k + 1))).length) ((extsOf ((elL n ws 0).take (k + 1))).flatMap eC), .box b2 68 [.slice A21 ((extsOf ((elL n ws 0).take (k + 1))).length) c22], .box b1 65 [.int .i64 (n), .slice A1 ws.length c1]], hle14, (by rw [hel, addX_new (fun hj => by have := hj.1; omega), List.length_append]; exact hM.sub (List.Sublist.cons _ (List.Sublist.refl _))), A21, c22, rfl, trivial⟩
  · -- behind it
    rintro D12 Hk _ w hle14 ⟨Ax, cx, rfl, -⟩ hM
    replace hM : Mem w0 H w Hk [.row (.slice Ax ((extsOf ((elL n ws 0).take ((elL n ws 0).length))).length) cx) 103 2 ((extsOf ((elL n ws 0).take ((elL n ws 0).length))).length) ((extsOf ((elL n ws 0).take ((elL n ws 0).length))).flatMap eC), .box b2 68 [.slice Ax ((extsOf ((elL n ws 0).take ((elL n ws 0).length))).length) cx], .box b1 65 [.int .i64 (n), .slice A1 ws.length c1], .obj D12 ddO] := hM
    refine CW.seq ?_
    refine CW.region ?_
    refine RW.step (Ex.load1 hM 1 to68 rfl rfl rfl) rfl rfl rfl ?_
    refine RW.step (Ex.assign (.slice Ax ((extsOf ((elL n ws 0).take ((elL n ws 0).length))).length) cx) rfl) rfl rfl rfl ?_
    refine RW.nil ?_
    refine CW.ret ?_
    refine endQM.mark (.inl rfl) hM 3 rfl ?_; intro w hM
    replace hM : Mem w0 H w Hk [.row (.slice Ax ((extsOf ((elL n ws 0).take ((elL n ws 0).length))).length) cx) 103 2 ((extsOf ((elL n ws 0).take ((elL n ws 0).length))).length) ((extsOf ((elL n ws 0).take ((elL n ws 0).length))).flatMap eC), .box b2 68 [.slice Ax ((extsOf ((elL n ws 0).take ((elL n ws 0).length))).length) cx], .box b1 65 [.int .i64 (n), .slice A1 ws.length c1], .obj D12 (.deferred none)] := hM
    refine end_tmp (.inl rfl) rfl (.slice Ax ((extsOf ((elL n ws 0).take ((elL n ws 0).length))).length) cx) rfl ?_
    obtain ⟨H9, hM9, hle9, hr9⟩ := hM.giveRow (k := 0) rfl
    exact ⟨_, _, hM9, ERv.ok (elL_exts.trans (by rw [List.take_length])) rfl hr9⟩
theorem Ret.toP {P : Program} {f : FuncId} {args : Array Value} {H : Hp} {Φ : Hp → Value → Prop} (h : Ret P f args H Φ) : RetP P f args H (fun H' v L => Φ H' v ∧ L = []) := fun w hw =>
  (h w hw).mono fun _ _ ⟨v, H', h1, h2, h3, h4, h5, h6⟩ => ⟨v, H', [], h1, ⟨h5, h2, h4, h3, by simp, List.Pairwise.nil, by simp⟩, h6, rfl⟩
theorem dtlExt {H : Hp} : ∀ es : List (Int × Int), DtL (α := api_Extent) H (es.flatMap eC) (es.map fun e => ⟨e.1, e.2⟩)
  | [] => rfl
  | e :: es => by
    rw [List.flatMap_cons, List.map_cons]
    exact DtL.cons (show Dt.rd (α := api_Extent) H (eC e) ⟨e.1, e.2⟩ from rfl) (dtlExt es)
theorem bitmap_Extents_lift {H : Hp} (hT : TabH H 0) (x0 : api_Bitmap) {A1 : Option Addr} {n1 c1 : Nat} {s1 : List Value} (hF1 : Fz (α := BitVec 64) H A1 n1 c1 x0.Words s1) {Φ : List api_Extent → Prop} (hm : bitmap_Extents_W x0 Φ) : RetP Tryd.prog 44 #[.agg #[.int .i64 x0.Size, .slice A1 n1 c1]] H (fun H' v L => ∃ y, Φ y ∧ ∃ A n c s, v = .slice A n c ∧ Fz (α := api_Extent) H' A n c y s ∧ L = []) := by
  have hn := hF1.hn
  subst hn
  have h := (exts_ret H A1 x0.Size c1 x0.Words hF1.words hT).toP
  refine h.mono fun H' v L hle hq => ?_
  obtain ⟨⟨A, c, hv, hr⟩, hL⟩ := hq
  exact ⟨_, hm, A, _, c, _, hv, ⟨hr, dtlExt _, (List.length_map _).symm⟩, hL⟩
theorem extDtl {H : Hp} : ∀ {es : List api_Extent} {cs : List Value}, DtL H cs es → cs = (es.map fun e => (e.Start, e.Count)).flatMap eC
  | [], _, h => h
  | _ :: _, _, ⟨_, _, h, h1, h2⟩ => by rw [h, show _ = [Value.int .i64 _, Value.int .i64 _] from h1, extDtl h2]; rfl
theorem bitmap_FromExtents_lift {H : Hp} (x0 : Int) (x1 : List api_Extent) {A1 : Option Addr} {n1 c1 : Nat} {s1 : List Value} (hF1 : Fz (α := api_Extent) H A1 n1 c1 x1 s1) {Φ : api_Bitmap × Int → Prop} (hm : bitmap_FromExtents_W x0 x1 Φ) : RetP Tryd.prog 81 #[.int .i64 x0, .slice A1 n1 c1] H (fun H' v L => ∃ y, Φ y ∧ ∃ A n c s, v = .tuple #[.agg #[.int .i64 y.1.Size, .slice A n c], .int .i64 y.2] ∧ Fz (α := BitVec 64) H' A n c y.1.Words s ∧ L = []) := by
  have hn := hF1.hn
  have hr := hF1.rdc
  rw [extDtl hF1.dat, hn, show x1.length = (x1.map fun e => (e.Start, e.Count)).length from (List.length_map _).symm] at hr
  rw [hn, show x1.length = (x1.map fun e => (e.Start, e.Count)).length from (List.length_map _).symm]
  have h := (fromExt_ret H x0 A1 c1 (x1.map fun e => (e.Start, e.Count)) hr).toP
  refine h.mono fun H' v L hle hq => ?_
  obtain ⟨⟨A, c, hv, hb⟩, hL⟩ := hq
  exact ⟨_, hm, A, _, c, _, hv, Fz.ofWords hb, hL⟩
theorem law47_one_lift {H : Hp} (x0 : Int) (x1 : BitVec 8) {Φ : api_Write → Prop} (hm : law47_one_W x0 x1 Φ) : RetP Tryd.prog 39 #[.int .i64 x0, u8 (x1)] H (fun H' v L => ∃ y, Φ y ∧ ∃ A4, ∃ n4, ∃ c4, ∃ s4, v = .agg #[.int .i64 (y.Volume), .int .i64 (y.Start), .slice A4 n4 c4] ∧ DtL (α := Sec) H' s4 y.Data ∧ n4 = y.Data.length ∧ L = [.row (.slice A4 n4 c4) 71 8 n4 s4]) := by
 refine RetP.of_code Tryd.func39 rfl (nb rfl) fun w0 hM => ?_
 refine CW.sr ?_
 refine RW.alloc hM tz100 [.int .i64 0, .int .i64 0, .slice none 0 0] rfl rfl rfl ?_; intro b1 w hM
 refine RW.nil <| CW.sr <| RW.st (Ex.move (.int .i64 x0) rfl) rfl <| RW.st (Ex.move (u8 (x1)) rfl) rfl <| RW.st (Ex.buildA ba71 [(0, u8 (x1))] [u8 (x1), .int .u8 (0), .int .u8 (0), .int .u8 (0), .int .u8 (0), .int .u8 (0), .int .u8 (0), .int .u8 (0)] rfl rfl) rfl ?_
 refine RW.buildSlice hM st61 tz71 [(0, .agg #[u8 (x1), .int .u8 (0), .int .u8 (0), .int .u8 (0), .int .u8 (0), .int .u8 (0), .int .u8 (0), .int .u8 (0)])] [u8 (x1), .int .u8 (0), .int .u8 (0), .int .u8 (0), .int .u8 (0), .int .u8 (0), .int .u8 (0), .int .u8 (0)] (by decide) rfl rfl rfl (by decide) rfl rfl ?_; intro b2 w hM
 have hd3 : DtL H [u8 (x1), .int .u8 (0), .int .u8 (0), .int .u8 (0), .int .u8 (0), .int .u8 (0), .int .u8 (0), .int .u8 (0)] ([(Sec.mk x1 (0#8) (0#8) (0#8) (0#8) (0#8) (0#8) (0#8))] : List Sec) := (DtL.cons (c1 := [u8 (x1), .int .u8 (0), .int .u8 (0), .int .u8 (0), .int .u8 (0), .int .u8 (0), .int .u8 (0), .int .u8 (0)]) rfl DtL.nil)
 refine RW.st (Ex.build bs100 [(1, .int .i64 x0), (2, .slice (some ⟨b2, 0, none⟩) 1 1)] [.int .i64 0, .int .i64 x0, .slice (some ⟨b2, 0, none⟩) 1 1] rfl rfl) rfl ?_
 refine RW.store hM 1 (.agg #[.int .i64 0, .int .i64 x0, .slice (some ⟨b2, 0, none⟩) 1 1]) [.int .i64 0, .int .i64 x0, .slice (some ⟨b2, 0, none⟩) 1 1] [.int .i64 0, .int .i64 x0, .slice (some ⟨b2, 0, none⟩) 1 1] sz100 rfl rfl rfl (oneAll ⟨rfl, rfl, rfl, trivial⟩) rfl (nb rfl) rfl [.row (.slice (some ⟨b2, 0, none⟩) 1 1) 71 8 1 [u8 (x1), .int .u8 (0), .int .u8 (0), .int .u8 (0), .int .u8 (0), .int .u8 (0), .int .u8 (0), .int .u8 (0)], .box b1 100 [.int .i64 0, .int .i64 x0, .slice (some ⟨b2, 0, none⟩) 1 1]] rfl rfl rfl ?_; intro w hM
 refine RW.nil <| CW.ret ?_
 refine end_cell (k := 1) (.inl rfl) rfl hM rfl ta100 [.int .i64 0, .int .i64 x0, .slice (some ⟨b2, 0, none⟩) 1 1] rfl rfl ?_
 exact ⟨_, _, (hM.pick [0] rfl rfl), (api_Write.mk 0 x0 ([(Sec.mk x1 (0#8) (0#8) (0#8) (0#8) (0#8) (0#8) (0#8))] : List Sec)), hm, (some ⟨b2, 0, none⟩), 1, 1, [u8 (x1), .int .u8 (0), .int .u8 (0), .int .u8 (0), .int .u8 (0), .int .u8 (0), .int .u8 (0), .int .u8 (0)], rfl, hd3, rfl, rfl⟩
theorem ref07_SizesOf_lift {H : Hp} (x0 : List (List Sec)) {A1 : Option Addr} {n1 c1 : Nat} {s1 : List Value} (hF1 : Fz (α := List Sec) H A1 n1 c1 x0 s1) {Φ : List Int → Prop} (hm : ref07_SizesOf_W x0 Φ) : RetP Tryd.prog 57 #[.slice A1 n1 c1] H (fun H' v L => ∃ y, Φ y ∧ ∃ A29, ∃ n29, ∃ c29, ∃ s29, v = .slice A29 n29 c29 ∧ DtL (α := Int) H' s29 y ∧ n29 = y.length ∧ L = [.row (.slice A29 n29 c29) 3 1 n29 s29]) := by
 refine RetP.of_code Tryd.func57 rfl (nb rfl) fun w0 hM => ?_
 refine CW.sr <| RW.st (Ex.assign (.slice none 0 0) rfl) rfl <| RW.nil <| CW.sr <| RW.st (Ex.assign (.slice none 0 0) rfl) rfl <| RW.nil <| CW.seq <| CW.sr <| RW.st (Ex.assign (.int .i64 0) rfl) rfl <| RW.nil <| CW.block ?_
 obtain ⟨m28, hm⟩ := hm
 skip
 replace hM := hM.nilRow 3 1
 refine CW.loop (β := Nat) (fun n σ w => ∃ (v4 : List Int), ∃ (A5 : Option Addr), ∃ (n6 : Nat), ∃ (c7 : Nat), ∃ (s8 : List Value), ∃ (v11 : Int), ∃ Hk2, H.le Hk2 ∧ (∃ τ, σ = sl [(0, .slice A1 n1 c1), (3, .slice A5 n6 c7), (4, .int .i64 v11)] τ) ∧ Mem w0 H w Hk2 [.row (.slice A5 n6 c7) 3 1 n6 s8] ∧ (DtL (α := Int) Hk2 s8 v4) ∧ (n6 = v4.length) ∧ LoopN (ref07_SizesOf_L1 x0 Φ) n (v4, v11)) (fun n => n) m28 ⟨([] : List Int), none, 0, 0, [], 0, H, (Hp.le.refl _), slc ⟨rfl, rfl, rfl, trivial⟩, hM, (DtL.nil : DtL _ [] ([] : List Int)), rfl, hm⟩ ?_
 rintro k12 _ w ⟨v4, A5, n6, c7, s8, v11, Hk2, hle3, ⟨τ, rfl⟩, hM, hd9, hn10, hm⟩
 obtain _ | k12 := k12
 · exact hm.elim
 replace hm : (ref07_SizesOf_L1 x0 Φ) (v4, v11) (LoopN (ref07_SizesOf_L1 x0 Φ) k12) := hm
 generalize hrec13 : LoopN (ref07_SizesOf_L1 x0 Φ) k12 = rec1 at hm
 refine CW.seq <| CW.sr <| RW.st (Ex.move (.int .i64 v11) rfl) rfl <| RW.st (Ex.move (.slice A1 n1 c1) rfl) rfl <| RW.st (Ex.lenN st25.1 rfl hF1.hn) rfl <| RW.st (Ex.lss rfl rfl) rfl <| RW.nil ?_
 refine CW.cond_dec (p := v11 < (x0.length : Int)) rfl (fun hc14 => ?_) (fun hc14 => ?_)
 ·
  replace hm := And.left hm hc14
  refine CW.skip <| CW.seq <| CW.block <| CW.region <| RW.st (Ex.move (.slice A5 n6 c7) rfl) rfl <| RW.st (Ex.move (.slice A1 n1 c1) rfl) rfl <| RW.st (Ex.move (.int .i64 v11) rfl) rfl ?_
  obtain ⟨hg15, hm⟩ := hm
  refine RW.st (Ex.index st25 rfl rfl v11.toNat (hF1.ne hg15) hg15.nat (hF1.lt hg15)) rfl ?_
  obtain ⟨_, ⟨A16, n16, c16, s16, rfl, hF16⟩, hx17⟩ := DtL.getI (α := List Sec) (hF1.mono hle3).dat hg15
  refine RW.st (Ex.loadE hM hle3 hF1.rdc to61 rfl (hx17 0 _ rfl)) rfl <| RW.st (Ex.lenN st61.1 rfl hF16.hn) rfl ?_
  refine RW.buildSlice hM st40 tz3 [(0, .int .i64 (((ix x0 v11).length : Int)))] [.int .i64 (((ix x0 v11).length : Int))] (by decide) rfl rfl rfl (by decide) rfl rfl ?_; intro b18 w hM
  have hd19 : DtL Hk2 [.int .i64 (((ix x0 v11).length : Int))] ([((ix x0 v11).length : Int)] : List Int) := (DtL.cons (c1 := [.int .i64 (((ix x0 v11).length : Int))]) rfl DtL.nil)
  obtain ⟨hg26, hm⟩ := hm
  refine RW.appendD (α := Int) (xs := v4) (ys := ([((ix x0 v11).length : Int)] : List Int)) hM 1 st40 rfl rfl hd9 hn10 rfl (fun j u hj => hM.rowCell (k := 0) rfl rfl hj) hd19 rfl hg26 rfl rfl ?_; intro A20 n21 c22 s23 w hd24 hn25 hM
  refine RW.st (Ex.assign (.slice A20 n21 c22) rfl) rfl <| RW.nil <| CW.region <| RW.st (Ex.move (.int .i64 v11) rfl) rfl ?_
  obtain ⟨hg27, hm⟩ := hm
  refine RW.st (Ex.add rfl rfl hg27.1 hg27.2) rfl <| RW.st (Ex.assign (.int .i64 (v11 + 1)) rfl) rfl <| RW.nil ?_
  exact And.intro rfl ⟨k12, ⟨(v4 ++ ([((ix x0 v11).length : Int)] : List Int)), A20, n21, c22, s23, v11 + 1, Hk2, hle3.trans (Hp.le.refl _), slc ⟨rfl, rfl, rfl, trivial⟩, (hM.pick [1] rfl rfl), hd24, hn25, (by rw [hrec13]; exact hm)⟩, Nat.lt_succ_self _⟩
 ·
  replace hm := And.right hm hc14
  refine CW.exit ?_
  refine CW.sr <| RW.st (Ex.move (.slice A5 n6 c7) rfl) rfl <| RW.st (Ex.assign (.slice A5 n6 c7) rfl) rfl <| RW.nil <| CW.ret ?_
  refine end_tmp (.inl rfl) rfl (.slice A5 n6 c7) rfl ?_
  exact ⟨_, _, hM, v4, hm, A5, n6, c7, s8, rfl, hd9, hn10, rfl⟩
theorem ref07_Sizes_lift {H : Hp} (x0 : List Int) {A1 : Option Addr} {n1 c1 : Nat} {s1 : List Value} (hF1 : Fz (α := Int) H A1 n1 c1 x0 s1) {Φ : Int → Prop} (hm : ref07_Sizes_W x0 Φ) : RetP Tryd.prog 73 #[.slice A1 n1 c1] H (fun _ v L => ∃ y, Φ y ∧ v = .int .i64 (y) ∧ L = []) := by
 refine RetP.of_code Tryd.func73 rfl (nb rfl) fun w0 hM => ?_
 refine CW.sr <| RW.st (Ex.assign (.int .i64 0) rfl) rfl <| RW.nil <| CW.seq ?_
 skip
 refine CW.cut (fun D σ w => D = [] ∧ (∃ τ, σ = sl [(0, .slice A1 n1 c1), (11, .bool (decide (((x0.length : Int) < 1) ∨ (8 < (x0.length : Int)))))] τ) ∧ Mem w0 H w H []) ?_ ?_
 ·
  skip
  refine CW.region <| RW.st (Ex.move (.slice A1 n1 c1) rfl) rfl <| RW.st (Ex.lenN st40.1 rfl hF1.hn) rfl <| RW.st (Ex.lss rfl rfl) rfl <| RW.st (Ex.move (.bool (decide ((x0.length : Int) < 1))) rfl) rfl ?_
  refine RW.split 7 (p := (x0.length : Int) < 1) rfl (fun hc2 => ?_) (fun hc2 => ?_)
  ·
   skip
   refine RW.pp <| RW.pass rfl rfl <| RW.st (Ex.pickT (.bool true) rfl rfl) rfl <| RW.nil ?_
   exact And.intro rfl (And.intro (slc ⟨rfl, (congrArg Value.bool (decide_eq_true (.inl hc2)).symm), trivial⟩) hM)
  ·
   skip
   refine RW.st (Ex.move (.slice A1 n1 c1) rfl) rfl <| RW.st (Ex.lenN st40.1 rfl hF1.hn) rfl <| RW.st (Ex.gtr rfl rfl) rfl <| RW.st (Ex.pickF (.bool (decide (8 < (x0.length : Int)))) rfl rfl) rfl <| RW.nil ?_
   exact And.intro rfl (And.intro (slc ⟨rfl, (congrArg Value.bool (decide_eq_decide.2 (imOr hc2 Iff.rfl))), trivial⟩) hM)
 rintro _ _ w ⟨rfl, ⟨τ, rfl⟩, hM⟩
 refine CW.cond_dec (p := ((x0.length : Int) < 1) ∨ (8 < (x0.length : Int))) rfl (fun hc3 => ?_) (fun hc3 => ?_)
 ·
  replace hm := And.left hm hc3
  refine CW.sr <| RW.st (Ex.assign (.int .i64 6) rfl) rfl <| RW.nil <| CW.ret ?_
  refine tqr ?_
  refine end_tmp (.inl rfl) rfl (.int .i64 6) rfl ?_
  exact ⟨_, _, hM, 6, hm, rfl, rfl⟩
 ·
  replace hm := And.right hm hc3
  refine CW.skip <| CW.seq <| CW.sr <| RW.st (Ex.assign (.int .i64 0) rfl) rfl <| RW.nil <| CW.block ?_
  obtain ⟨m16, hm⟩ := hm
  skip
  refine CW.loop (β := Nat) (fun n σ w => ∃ (v6 : Int), ∃ Hk4, H.le Hk4 ∧ (∃ τ, σ = sl [(0, .slice A1 n1 c1), (3, .int .i64 v6)] τ) ∧ Mem w0 H w Hk4 [] ∧ LoopN (ref07_Sizes_L1 x0 Φ) n (v6)) (fun n => n) m16 ⟨0, H, (Hp.le.refl _), slc ⟨rfl, rfl, trivial⟩, hM, hm⟩ ?_
  rintro k7 _ w ⟨v6, Hk4, hle5, ⟨τ, rfl⟩, hM, hm⟩
  obtain _ | k7 := k7
  · exact hm.elim
  replace hm : (ref07_Sizes_L1 x0 Φ) (v6) (LoopN (ref07_Sizes_L1 x0 Φ) k7) := hm
  generalize hrec8 : LoopN (ref07_Sizes_L1 x0 Φ) k7 = rec1 at hm
  refine CW.seq <| CW.sr <| RW.st (Ex.move (.int .i64 v6) rfl) rfl <| RW.st (Ex.move (.slice A1 n1 c1) rfl) rfl <| RW.st (Ex.lenN st40.1 rfl hF1.hn) rfl <| RW.st (Ex.lss rfl rfl) rfl <| RW.nil ?_
  refine CW.cond_dec (p := v6 < (x0.length : Int)) rfl (fun hc9 => ?_) (fun hc9 => ?_)
  ·
   replace hm := And.left hm hc9
   refine CW.skip <| CW.seq <| CW.block ?_
   obtain ⟨hG15, hm⟩ := hm
   refine CW.cut (fun D σ w => D = [] ∧ (∃ τ, σ = sl [(0, .slice A1 n1 c1), (3, .int .i64 v6), (29, .bool (decide (((ix x0 v6) < 1) ∨ (4096 < (ix x0 v6)))))] τ) ∧ Mem w0 H w Hk4 []) ?_ ?_
   ·
    replace hm := hG15
    refine CW.region <| RW.st (Ex.move (.slice A1 n1 c1) rfl) rfl <| RW.st (Ex.move (.int .i64 v6) rfl) rfl ?_
    have hg10 := hm
    refine RW.st (Ex.index st40 rfl rfl v6.toNat (hF1.ne hg10) hg10.nat (hF1.lt hg10)) rfl ?_
    obtain ⟨_, rfl, hx11⟩ := DtL.getI (α := Int) (hF1.mono hle5).dat hg10
    refine RW.st (Ex.loadE hM hle5 hF1.rdc to3 rfl (hx11 0 _ rfl)) rfl <| RW.st (Ex.lss rfl rfl) rfl <| RW.st (Ex.move (.bool (decide ((ix x0 v6) < 1))) rfl) rfl ?_
    refine RW.split 23 (p := (ix x0 v6) < 1) rfl (fun hc12 => ?_) (fun hc12 => ?_)
    ·
     skip
     refine RW.pp <| RW.pp <| RW.pass rfl rfl <| RW.st (Ex.pickT (.bool true) rfl rfl) rfl <| RW.nil ?_
     exact And.intro rfl (And.intro (slc ⟨rfl, rfl, (congrArg Value.bool (decide_eq_true (.inl hc12)).symm), trivial⟩) hM)
    ·
     skip
     refine RW.st (Ex.move (.slice A1 n1 c1) rfl) rfl <| RW.st (Ex.move (.int .i64 v6) rfl) rfl <| RW.st (Ex.index st40 rfl rfl v6.toNat (hF1.ne hg10) hg10.nat (hF1.lt hg10)) rfl <| RW.st (Ex.loadE hM hle5 hF1.rdc to3 rfl (hx11 0 _ rfl)) rfl <| RW.st (Ex.gtr rfl rfl) rfl <| RW.st (Ex.pickF (.bool (decide (4096 < (ix x0 v6)))) rfl rfl) rfl <| RW.nil ?_
     exact And.intro rfl (And.intro (slc ⟨rfl, rfl, (congrArg Value.bool (decide_eq_decide.2 (imOr hc12 Iff.rfl))), trivial⟩) hM)
   rintro _ _ w ⟨rfl, ⟨τ, rfl⟩, hM⟩
   refine CW.cond_dec (p := ((ix x0 v6) < 1) ∨ (4096 < (ix x0 v6))) rfl (fun hc13 => ?_) (fun hc13 => ?_)
   ·
    replace hm := And.left hm hc13
    refine CW.sr <| RW.st (Ex.assign (.int .i64 2) rfl) rfl <| RW.nil <| CW.ret ?_
    refine bqr (tqr (tqr (bqr (tqr ?_))))
    refine end_tmp (.inl rfl) rfl (.int .i64 2) rfl ?_
    exact ⟨_, _, hM, 2, hm, rfl, rfl⟩
   ·
    replace hm := And.right hm hc13
    refine CW.skip <| CW.region <| RW.st (Ex.move (.int .i64 v6) rfl) rfl ?_
    obtain ⟨hg14, hm⟩ := hm
    refine RW.st (Ex.add rfl rfl hg14.1 hg14.2) rfl <| RW.st (Ex.assign (.int .i64 (v6 + 1)) rfl) rfl <| RW.nil ?_
    exact And.intro rfl ⟨k7, ⟨v6 + 1, Hk4, hle5.trans (Hp.le.refl _), slc ⟨rfl, rfl, trivial⟩, hM, (by rw [hrec8]; exact hm)⟩, Nat.lt_succ_self _⟩
  ·
   replace hm := And.right hm hc9
   refine CW.exit ?_
   refine CW.sr <| RW.st (Ex.assign (.int .i64 0) rfl) rfl <| RW.nil <| CW.ret ?_
   refine end_tmp (.inl rfl) rfl (.int .i64 0) rfl ?_
   exact ⟨_, _, hM, 0, hm, rfl, rfl⟩
theorem ref07_Copy_lift {H : Hp} (x0 : List (List Sec)) {A1 : Option Addr} {n1 c1 : Nat} {s1 : List Value} (hF1 : Fz (α := List Sec) H A1 n1 c1 x0 s1) {Φ : List (List Sec) → Prop} (hm : ref07_Copy_W x0 Φ) : RetP Tryd.prog 25 #[.slice A1 n1 c1] H (fun H' v L => ∃ y, Φ y ∧ ∃ A38, ∃ n38, ∃ c38, ∃ s38, ∃ rs39, v = .slice A38 n38 c38 ∧ DeepL (α := List Sec) [71] H' s38 y rs39 ∧ n38 = y.length ∧ L = .row (.slice A38 n38 c38) 61 1 n38 s38 :: rs39) := by
 refine RetP.of_code Tryd.func25 rfl (nb rfl) fun w0 hM => ?_
 refine CW.sr <| RW.st (Ex.assign (.slice none 0 0) rfl) rfl <| RW.nil <| CW.sr <| RW.st (Ex.assign (.slice none 0 0) rfl) rfl <| RW.nil <| CW.seq <| CW.sr <| RW.st (Ex.assign (.int .i64 0) rfl) rfl <| RW.nil <| CW.block ?_
 obtain ⟨m37, hm⟩ := hm
 skip
 replace hM := hM.nilRow 61 1
 refine CW.loop (β := Nat) (fun n σ w => ∃ (v4 : List (List Sec)), ∃ (A5 : Option Addr), ∃ (n6 : Nat), ∃ (c7 : Nat), ∃ (s8 : List Value), ∃ (rs9 : List Ent), ∃ (v12 : Int), ∃ Hk2, H.le Hk2 ∧ (∃ τ, σ = sl [(0, .slice A1 n1 c1), (3, .slice A5 n6 c7), (4, .int .i64 v12)] τ) ∧ Mem w0 H w Hk2 (.row (.slice A5 n6 c7) 61 1 n6 s8 :: rs9) ∧ (DeepL (α := List Sec) [71] Hk2 s8 v4 rs9) ∧ (n6 = v4.length) ∧ LoopN (ref07_Copy_L1 x0 Φ) n (v4, v12)) (fun n => n) m37 ⟨([] : List (List Sec)), none, 0, 0, [], [], 0, H, (Hp.le.refl _), slc ⟨rfl, rfl, rfl, trivial⟩, hM, (DeepL.nil : DeepL (α := List Sec) [71] H [] [] []), rfl, hm⟩ ?_
 rintro k13 _ w ⟨v4, A5, n6, c7, s8, rs9, v12, Hk2, hle3, ⟨τ, rfl⟩, hM, hd10, hn11, hm⟩
 obtain _ | k13 := k13
 · exact hm.elim
 replace hm : (ref07_Copy_L1 x0 Φ) (v4, v12) (LoopN (ref07_Copy_L1 x0 Φ) k13) := hm
 generalize hrec14 : LoopN (ref07_Copy_L1 x0 Φ) k13 = rec1 at hm
 refine CW.seq <| CW.sr <| RW.st (Ex.move (.int .i64 v12) rfl) rfl <| RW.st (Ex.move (.slice A1 n1 c1) rfl) rfl <| RW.st (Ex.lenN st25.1 rfl hF1.hn) rfl <| RW.st (Ex.lss rfl rfl) rfl <| RW.nil ?_
 refine CW.cond_dec (p := v12 < (x0.length : Int)) rfl (fun hc15 => ?_) (fun hc15 => ?_)
 ·
  replace hm := And.left hm hc15
  refine CW.skip <| CW.seq <| CW.block <| CW.sr <| RW.st (Ex.assign (.slice none 0 0) rfl) rfl <| RW.nil <| CW.region <| RW.st (Ex.move (.slice A5 n6 c7) rfl) rfl <| RW.st (Ex.move (.slice none 0 0) rfl) rfl <| RW.st (Ex.move (.slice A1 n1 c1) rfl) rfl <| RW.st (Ex.move (.int .i64 v12) rfl) rfl ?_
  obtain ⟨hg16, hm⟩ := hm
  refine RW.st (Ex.index st25 rfl rfl v12.toNat (hF1.ne hg16) hg16.nat (hF1.lt hg16)) rfl ?_
  obtain ⟨_, ⟨A17, n17, c17, s17, rfl, hF17⟩, hx18⟩ := DtL.getI (α := List Sec) (hF1.mono hle3).dat hg16
  refine RW.st (Ex.loadE hM hle3 hF1.rdc to61 rfl (hx18 0 _ rfl)) rfl ?_
  replace hM := hM.nilRow 71 8
  obtain ⟨hg25, hm⟩ := hm
  refine RW.appendF (α := Sec) (xs := ([] : List Sec)) (ys := (ix x0 v12)) hM 0 st61 rfl rfl (DtL.nil : DtL _ [] ([] : List Sec)) rfl rfl (Hp.le.refl _) hF17 hg25 rfl rfl ?_; intro A19 n20 c21 s22 w hd23 hn24 hM
  refine RW.buildSlice hM st25 tz61 [(0, .slice A19 n20 c21)] [.slice A19 n20 c21] (by decide) rfl rfl rfl (by decide) rfl rfl ?_; intro b26 w hM
  obtain ⟨hg32, hm⟩ := hm
  refine RW.appendH (α := List Sec) (xs := v4) (x0 := (([] : List Sec) ++ (ix x0 v12))) hM 2 st25 rfl rfl hn11 rfl (fun j u hj => hM.rowCell (k := 0) rfl rfl hj) rfl (oneAll ⟨rfl, trivial⟩) hg32 rfl rfl ?_; intro A28 n29 c30 w hn31 hM
  obtain ⟨s33, rs34, hd35, hM⟩ := Mem.adopt (α := List Sec) (Ts := [71]) (x := (([] : List Sec) ++ (ix x0 v12))) [.row (.slice (some ⟨b26, 0, none⟩) 1 1) 61 1 1 [.slice A19 n20 c21], .row (.slice A28 n29 c30) 61 1 n29 (s8 ++ [.slice A19 n20 c21])] (Mem.pickT (L1 := [.row (.slice (some ⟨b26, 0, none⟩) 1 1) 61 1 1 [.slice A19 n20 c21], .row (.slice A19 n20 c21) 71 8 n20 s22, .row (.slice A28 n29 c30) 61 1 n29 (s8 ++ [.slice A19 n20 c21])]) (T := rs9) hM [1, 0, 2] rfl rfl) 1 rfl hd10 ⟨A19, n20, c21, s22, rfl, rfl, hd23, hn24⟩
  replace hM : Mem w0 H w Hk2 (.row (.slice A28 n29 c30) 61 1 n29 s33 :: rs34) := Mem.pickT (L1 := [.row (.slice (some ⟨b26, 0, none⟩) 1 1) 61 1 1 [.slice A19 n20 c21], .row (.slice A28 n29 c30) 61 1 n29 s33]) (T := rs34) hM [1] rfl rfl
  refine RW.st (Ex.assign (.slice A28 n29 c30) rfl) rfl <| RW.nil <| CW.region <| RW.st (Ex.move (.int .i64 v12) rfl) rfl ?_
  obtain ⟨hg36, hm⟩ := hm
  refine RW.st (Ex.add rfl rfl hg36.1 hg36.2) rfl <| RW.st (Ex.assign (.int .i64 (v12 + 1)) rfl) rfl <| RW.nil ?_
  exact And.intro rfl ⟨k13, ⟨(v4 ++ [(([] : List Sec) ++ (ix x0 v12))]), A28, n29, c30, s33, rs34, v12 + 1, Hk2, hle3.trans (Hp.le.refl _), slc ⟨rfl, rfl, rfl, trivial⟩, hM, hd35, hn31, (by rw [hrec14]; exact hm)⟩, Nat.lt_succ_self _⟩
 ·
  replace hm := And.right hm hc15
  refine CW.exit ?_
  refine CW.sr <| RW.st (Ex.move (.slice A5 n6 c7) rfl) rfl <| RW.st (Ex.assign (.slice A5 n6 c7) rfl) rfl <| RW.nil <| CW.ret ?_
  refine end_tmp (.inl rfl) rfl (.slice A5 n6 c7) rfl ?_
  exact ⟨_, _, hM, v4, hm, A5, n6, c7, s8, rs9, rfl, hd10, hn11, rfl⟩
theorem ref07_FitsSizes_lift {H : Hp} (x0 : List Int) (x1 : api_Write) {A1 : Option Addr} {n1 c1 : Nat} {s1 : List Value} (hF1 : Fz (α := Int) H A1 n1 c1 x0 s1) {A2 : Option Addr} {n2 c2 : Nat} {s2 : List Value} (hF2 : Fz (α := Sec) H A2 n2 c2 x1.Data s2) {Φ : Int → Prop} (hm : ref07_FitsSizes_W x0 x1 Φ) : RetP Tryd.prog 74 #[.slice A1 n1 c1, .agg #[.int .i64 x1.Volume, .int .i64 x1.Start, .slice A2 n2 c2]] H (fun _ v L => ∃ y, Φ y ∧ v = .int .i64 (y) ∧ L = []) := by
 refine RetP.of_code Tryd.func74 rfl (nb rfl) fun w0 hM => ?_
 refine CW.sr ?_
 refine RW.box hM (.agg #[.int .i64 x1.Volume, .int .i64 x1.Start, .slice A2 n2 c2]) [.int .i64 x1.Volume, .int .i64 x1.Start, .slice A2 n2 c2] rfl rfl rfl rfl ?_; intro b3 w hM
 refine RW.st (Ex.assign (.int .i64 0) rfl) rfl <| RW.nil <| CW.seq ?_
 skip
 refine CW.cut (fun D σ w => D = [] ∧ (∃ τ, σ = sl [(0, .slice A1 n1 c1), (3, .pointer (some ⟨b3, 0, none⟩)), (14, .bool (decide ((x1.Volume < 0) ∨ ((x0.length : Int) ≤ x1.Volume))))] τ) ∧ Mem w0 H w H [.box b3 100 [.int .i64 x1.Volume, .int .i64 x1.Start, .slice A2 n2 c2]]) ?_ ?_
 ·
  skip
  refine CW.region <| RW.st (Ex.fieldAddr fa100_0 rfl) rfl <| RW.st (Ex.load1 hM 0 to3 rfl rfl rfl) rfl <| RW.st (Ex.lss rfl rfl) rfl <| RW.st (Ex.move (.bool (decide (x1.Volume < 0))) rfl) rfl ?_
  refine RW.split 8 (p := x1.Volume < 0) rfl (fun hc4 => ?_) (fun hc4 => ?_)
  ·
   skip
   refine RW.pp <| RW.pp <| RW.pass rfl rfl <| RW.st (Ex.pickT (.bool true) rfl rfl) rfl <| RW.nil ?_
   exact And.intro rfl (And.intro (slc ⟨rfl, rfl, (congrArg Value.bool (decide_eq_true (.inl hc4)).symm), trivial⟩) hM)
  ·
   skip
   refine RW.st (Ex.fieldAddr fa100_0 rfl) rfl <| RW.st (Ex.load1 hM 0 to3 rfl rfl rfl) rfl <| RW.st (Ex.move (.slice A1 n1 c1) rfl) rfl <| RW.st (Ex.lenN st40.1 rfl hF1.hn) rfl <| RW.st (Ex.geq rfl rfl) rfl <| RW.st (Ex.pickF (.bool (decide ((x0.length : Int) ≤ x1.Volume))) rfl rfl) rfl <| RW.nil ?_
   exact And.intro rfl (And.intro (slc ⟨rfl, rfl, (congrArg Value.bool (decide_eq_decide.2 (imOr hc4 Iff.rfl))), trivial⟩) hM)
 rintro _ _ w ⟨rfl, ⟨τ, rfl⟩, hM⟩
 refine CW.cond_dec (p := (x1.Volume < 0) ∨ ((x0.length : Int) ≤ x1.Volume)) rfl (fun hc5 => ?_) (fun hc5 => ?_)
 ·
  replace hm := And.left hm hc5
  refine CW.sr <| RW.st (Ex.assign (.int .i64 7) rfl) rfl <| RW.nil <| CW.ret ?_
  refine tqr ?_
  refine end_tmp (.inl rfl) rfl (.int .i64 7) rfl ?_
  exact ⟨_, _, (hM.pick [] rfl rfl), 7, hm, rfl, rfl⟩
 ·
  replace hm := And.right hm hc5
  refine CW.skip <| CW.seq <| CW.sr <| RW.st (Ex.fieldAddr fa100_2 rfl) rfl <| RW.st (Ex.load1 hM 0 to61 rfl rfl rfl) rfl <| RW.st (Ex.lenN st61.1 rfl hF2.hn) rfl <| RW.st (Ex.eql rfl rfl) rfl <| RW.nil ?_
  refine CW.cond_dec (p := (x1.Data.length : Int) = 0) rfl (fun hc6 => ?_) (fun hc6 => ?_)
  ·
   replace hm := And.left hm hc6
   refine CW.sr <| RW.st (Ex.assign (.int .i64 1) rfl) rfl <| RW.nil <| CW.ret ?_
   refine tqr ?_
   refine end_tmp (.inl rfl) rfl (.int .i64 1) rfl ?_
   exact ⟨_, _, (hM.pick [] rfl rfl), 1, hm, rfl, rfl⟩
  ·
   replace hm := And.right hm hc6
   refine CW.skip <| CW.seq ?_
   obtain ⟨hG13, hm⟩ := hm
   refine CW.cut (fun D σ w => D = [] ∧ (∃ τ, σ = sl [(45, .bool (decide ((x1.Start < 0) ∨ (((ix x0 x1.Volume) ≤ x1.Start) ∨ (((ix x0 x1.Volume) - x1.Start) < (x1.Data.length : Int))))))] τ) ∧ Mem w0 H w H [.box b3 100 [.int .i64 x1.Volume, .int .i64 x1.Start, .slice A2 n2 c2]]) ?_ ?_
   ·
    replace hm := hG13
    by_cases hc7 : x1.Start < 0
    ·
     skip
     refine CW.drawE 27 [.pointer (some ⟨b3, 1, none⟩), .int .i64 x1.Start, .bool true, .bool true, undef, undef, undef, undef, undef, undef, undef, undef, .bool true, .bool true, undef, undef, undef, undef, undef, undef, undef, undef, undef, undef, undef, undef, .bool true]
      [[(3, none)], [(19, some 0)], [(20, some 1)], [(21, some 2)], [(22, some 3)], [(22, some 3)], [(22, some 3)], [(22, some 3)], [(22, some 3)], [(22, some 3)], [(22, some 3)], [(22, some 3)], [(22, some 3), (30, some 11)], [(31, some 12)], [(32, some 13)], [(32, some 13)], [(32, some 13)], [(32, some 13)], [(32, some 13)], [(32, some 13)], [(32, some 13)], [(32, some 13)], [(32, some 13)], [(32, some 13)], [(32, some 13)], [(32, some 13)], [(32, some 13), (44, some 25)]] [(45, some 26)] (by kernel_rfl) hM (by kernel_rfl) ⟨?_, ?_, ?_, ?_, ?_, ?_, ?_, ?_, ?_, ?_, ?_, ?_, ?_, ?_, ?_, ?_, ?_, ?_, ?_, ?_, ?_, ?_, ?_, ?_, ?_, ?_, ?_, trivial⟩ ?_
     · exact One.ex (fun H' τ w hled hM => Ex.fieldAddr fa100_1 rfl) rfl (fun _ => rfl) rfl
     · exact One.ex (fun H' τ w hled hM => Ex.load1 hM 0 to3 rfl rfl rfl) rfl (fun _ => rfl) rfl
     · exact One.ex (fun H' τ w hled hM => Ex.yes (Ex.lss rfl rfl) hc7) rfl (fun _ => rfl) rfl
     · exact One.ex (fun H' τ w hled hM => Ex.move (.bool true) rfl) rfl (fun _ => rfl) rfl
     · exact One.pass (fun _ => rfl) rfl
     · exact One.pass (fun _ => rfl) rfl
     · exact One.pass (fun _ => rfl) rfl
     · exact One.pass (fun _ => rfl) rfl
     · exact One.pass (fun _ => rfl) rfl
     · exact One.pass (fun _ => rfl) rfl
     · exact One.pass (fun _ => rfl) rfl
     · exact One.pass (fun _ => rfl) rfl
     · exact One.ex (fun H' τ w hled hM => Ex.pickT (.bool true) rfl rfl) rfl (fun _ => rfl) rfl
     · exact One.ex (fun H' τ w hled hM => Ex.move (.bool true) rfl) rfl (fun _ => rfl) rfl
     · exact One.pass (fun _ => rfl) rfl
     · exact One.pass (fun _ => rfl) rfl
     · exact One.pass (fun _ => rfl) rfl
     · exact One.pass (fun _ => rfl) rfl
     · exact One.pass (fun _ => rfl) rfl
     · exact One.pass (fun _ => rfl) rfl
     · exact One.pass (fun _ => rfl) rfl
     · exact One.pass (fun _ => rfl) rfl
     · exact One.pass (fun _ => rfl) rfl
     · exact One.pass (fun _ => rfl) rfl
     · exact One.pass (fun _ => rfl) rfl
     · exact One.pass (fun _ => rfl) rfl
     · exact One.ex (fun H' τ w hled hM => Ex.pickT (.bool true) rfl rfl) rfl (fun _ => rfl) rfl
     intro τ w hM
     change RW _ _ _ _ _ _ _ _ (sl [(45, .bool true)] τ) _
     refine RW.nil ?_
     exact And.intro rfl (And.intro (slc ⟨(congrArg Value.bool (decide_eq_true (.inl hc7)).symm), trivial⟩) hM)
    ·
     replace hm := hm hc7
     obtain ⟨hg8, hm⟩ := hm
     obtain ⟨_, rfl, hx9⟩ := DtL.getI (α := Int) hF1.dat hg8
     by_cases hc10 : (ix x0 x1.Volume) ≤ x1.Start
     ·
      skip
      refine CW.drawE 27 [.pointer (some ⟨b3, 1, none⟩), .int .i64 x1.Start, .bool false, .bool false, .pointer (some ⟨b3, 1, none⟩), .int .i64 x1.Start, .slice A1 n1 c1, .pointer (some ⟨b3, 0, none⟩), .int .i64 x1.Volume, elp A1 (x1.Volume.toNat * 1 + 0), .int .i64 ((ix x0 x1.Volume)), .bool true, .bool true, .bool true, undef, undef, undef, undef, undef, undef, undef, undef, undef, undef, undef, undef, .bool true]
       [[(3, none)], [(19, some 0)], [(20, some 1)], [(21, some 2)], [(3, none), (22, some 3)], [(22, some 3), (23, some 4)], [(0, none), (22, some 3)], [(3, none), (22, some 3)], [(22, some 3), (26, some 7)], [(22, some 3), (25, some 6), (27, some 8)], [(22, some 3), (28, some 9)], [(22, some 3), (24, some 5), (29, some 10)], [(22, some 3), (30, some 11)], [(31, some 12)], [(32, some 13)], [(32, some 13)], [(32, some 13)], [(32, some 13)], [(32, some 13)], [(32, some 13)], [(32, some 13)], [(32, some 13)], [(32, some 13)], [(32, some 13)], [(32, some 13)], [(32, some 13)], [(32, some 13), (44, some 25)]] [(45, some 26)] (by kernel_rfl) hM (by kernel_rfl) ⟨?_, ?_, ?_, ?_, ?_, ?_, ?_, ?_, ?_, ?_, ?_, ?_, ?_, ?_, ?_, ?_, ?_, ?_, ?_, ?_, ?_, ?_, ?_, ?_, ?_, ?_, ?_, trivial⟩ ?_
      · exact One.ex (fun H' τ w hled hM => Ex.fieldAddr fa100_1 rfl) rfl (fun _ => rfl) rfl
      · exact One.ex (fun H' τ w hled hM => Ex.load1 hM 0 to3 rfl rfl rfl) rfl (fun _ => rfl) rfl
      · exact One.ex (fun H' τ w hled hM => Ex.no (Ex.lss rfl rfl) hc7) rfl (fun _ => rfl) rfl
      · exact One.ex (fun H' τ w hled hM => Ex.move (.bool false) rfl) rfl (fun _ => rfl) rfl
      · exact One.ex (fun H' τ w hled hM => Ex.fieldAddr fa100_1 rfl) rfl (fun _ => rfl) rfl
      · exact One.ex (fun H' τ w hled hM => Ex.load1 hM 0 to3 rfl rfl rfl) rfl (fun _ => rfl) rfl
      · exact One.ex (fun H' τ w hled hM => Ex.move (.slice A1 n1 c1) rfl) rfl (fun _ => rfl) rfl
      · exact One.ex (fun H' τ w hled hM => Ex.fieldAddr fa100_0 rfl) rfl (fun _ => rfl) rfl
      · exact One.ex (fun H' τ w hled hM => Ex.load1 hM 0 to3 rfl rfl rfl) rfl (fun _ => rfl) rfl
      · exact One.ex (fun H' τ w hled hM => Ex.index st40 rfl rfl x1.Volume.toNat (hF1.ne hg8) hg8.nat (hF1.lt hg8)) rfl (fun _ => rfl) rfl
      · exact One.ex (fun H' τ w hled hM => Ex.loadE hM hled hF1.rdc to3 rfl (hx9 0 _ rfl)) rfl (fun _ => rfl) rfl
      · exact One.ex (fun H' τ w hled hM => Ex.yes (Ex.geq rfl rfl) hc10) rfl (fun _ => rfl) rfl
      · exact One.ex (fun H' τ w hled hM => Ex.pickF (.bool true) rfl rfl) rfl (fun _ => rfl) rfl
      · exact One.ex (fun H' τ w hled hM => Ex.move (.bool true) rfl) rfl (fun _ => rfl) rfl
      · exact One.pass (fun _ => rfl) rfl
      · exact One.pass (fun _ => rfl) rfl
      · exact One.pass (fun _ => rfl) rfl
      · exact One.pass (fun _ => rfl) rfl
      · exact One.pass (fun _ => rfl) rfl
      · exact One.pass (fun _ => rfl) rfl
      · exact One.pass (fun _ => rfl) rfl
      · exact One.pass (fun _ => rfl) rfl
      · exact One.pass (fun _ => rfl) rfl
      · exact One.pass (fun _ => rfl) rfl
      · exact One.pass (fun _ => rfl) rfl
      · exact One.pass (fun _ => rfl) rfl
      · exact One.ex (fun H' τ w hled hM => Ex.pickT (.bool true) rfl rfl) rfl (fun _ => rfl) rfl
      intro τ w hM
      change RW _ _ _ _ _ _ _ _ (sl [(45, .bool true)] τ) _
      refine RW.nil ?_
      exact And.intro rfl (And.intro (slc ⟨(congrArg Value.bool (decide_eq_true (.inr (.inl hc10))).symm), trivial⟩) hM)
     ·
      replace hm := hm hc10
      have hg11 := hm
      refine CW.drawE 27 [.pointer (some ⟨b3, 1, none⟩), .int .i64 x1.Start, .bool false, .bool false, .pointer (some ⟨b3, 1, none⟩), .int .i64 x1.Start, .slice A1 n1 c1, .pointer (some ⟨b3, 0, none⟩), .int .i64 x1.Volume, elp A1 (x1.Volume.toNat * 1 + 0), .int .i64 ((ix x0 x1.Volume)), .bool false, .bool false, .bool false, .pointer (some ⟨b3, 2, none⟩), .slice A2 n2 c2, .int .i64 ((x1.Data.length : Int)), .slice A1 n1 c1, .pointer (some ⟨b3, 0, none⟩), .int .i64 x1.Volume, elp A1 (x1.Volume.toNat * 1 + 0), .int .i64 ((ix x0 x1.Volume)), .pointer (some ⟨b3, 1, none⟩), .int .i64 x1.Start, .int .i64 ((ix x0 x1.Volume) - x1.Start), .bool (decide (((ix x0 x1.Volume) - x1.Start) < (x1.Data.length : Int))), .bool (decide (((ix x0 x1.Volume) - x1.Start) < (x1.Data.length : Int)))]
       [[(3, none)], [(19, some 0)], [(20, some 1)], [(21, some 2)], [(3, none), (22, some 3)], [(22, some 3), (23, some 4)], [(0, none), (22, some 3)], [(3, none), (22, some 3)], [(22, some 3), (26, some 7)], [(22, some 3), (25, some 6), (27, some 8)], [(22, some 3), (28, some 9)], [(22, some 3), (24, some 5), (29, some 10)], [(22, some 3), (30, some 11)], [(31, some 12)], [(3, none), (32, some 13)], [(32, some 13), (33, some 14)], [(32, some 13), (34, some 15)], [(0, none), (32, some 13)], [(3, none), (32, some 13)], [(32, some 13), (37, some 18)], [(32, some 13), (36, some 17), (38, some 19)], [(32, some 13), (39, some 20)], [(3, none), (32, some 13)], [(32, some 13), (41, some 22)], [(32, some 13), (40, some 21), (42, some 23)], [(32, some 13), (35, some 16), (43, some 24)], [(32, some 13), (44, some 25)]] [(45, some 26)] (by kernel_rfl) hM (by kernel_rfl) ⟨?_, ?_, ?_, ?_, ?_, ?_, ?_, ?_, ?_, ?_, ?_, ?_, ?_, ?_, ?_, ?_, ?_, ?_, ?_, ?_, ?_, ?_, ?_, ?_, ?_, ?_, ?_, trivial⟩ ?_
      · exact One.ex (fun H' τ w hled hM => Ex.fieldAddr fa100_1 rfl) rfl (fun _ => rfl) rfl
      · exact One.ex (fun H' τ w hled hM => Ex.load1 hM 0 to3 rfl rfl rfl) rfl (fun _ => rfl) rfl
      · exact One.ex (fun H' τ w hled hM => Ex.no (Ex.lss rfl rfl) hc7) rfl (fun _ => rfl) rfl
      · exact One.ex (fun H' τ w hled hM => Ex.move (.bool false) rfl) rfl (fun _ => rfl) rfl
      · exact One.ex (fun H' τ w hled hM => Ex.fieldAddr fa100_1 rfl) rfl (fun _ => rfl) rfl
      · exact One.ex (fun H' τ w hled hM => Ex.load1 hM 0 to3 rfl rfl rfl) rfl (fun _ => rfl) rfl
      · exact One.ex (fun H' τ w hled hM => Ex.move (.slice A1 n1 c1) rfl) rfl (fun _ => rfl) rfl
      · exact One.ex (fun H' τ w hled hM => Ex.fieldAddr fa100_0 rfl) rfl (fun _ => rfl) rfl
      · exact One.ex (fun H' τ w hled hM => Ex.load1 hM 0 to3 rfl rfl rfl) rfl (fun _ => rfl) rfl
      · exact One.ex (fun H' τ w hled hM => Ex.index st40 rfl rfl x1.Volume.toNat (hF1.ne hg8) hg8.nat (hF1.lt hg8)) rfl (fun _ => rfl) rfl
      · exact One.ex (fun H' τ w hled hM => Ex.loadE hM hled hF1.rdc to3 rfl (hx9 0 _ rfl)) rfl (fun _ => rfl) rfl
      · exact One.ex (fun H' τ w hled hM => Ex.no (Ex.geq rfl rfl) hc10) rfl (fun _ => rfl) rfl
      · exact One.ex (fun H' τ w hled hM => Ex.pickF (.bool false) rfl rfl) rfl (fun _ => rfl) rfl
      · exact One.ex (fun H' τ w hled hM => Ex.move (.bool false) rfl) rfl (fun _ => rfl) rfl
      · exact One.ex (fun H' τ w hled hM => Ex.fieldAddr fa100_2 rfl) rfl (fun _ => rfl) rfl
      · exact One.ex (fun H' τ w hled hM => Ex.load1 hM 0 to61 rfl rfl rfl) rfl (fun _ => rfl) rfl
      · exact One.ex (fun H' τ w hled hM => Ex.lenN st61.1 rfl hF2.hn) rfl (fun _ => rfl) rfl
      · exact One.ex (fun H' τ w hled hM => Ex.move (.slice A1 n1 c1) rfl) rfl (fun _ => rfl) rfl
      · exact One.ex (fun H' τ w hled hM => Ex.fieldAddr fa100_0 rfl) rfl (fun _ => rfl) rfl
      · exact One.ex (fun H' τ w hled hM => Ex.load1 hM 0 to3 rfl rfl rfl) rfl (fun _ => rfl) rfl
      · exact One.ex (fun H' τ w hled hM => Ex.index st40 rfl rfl x1.Volume.toNat (hF1.ne hg8) hg8.nat (hF1.lt hg8)) rfl (fun _ => rfl) rfl
      · exact One.ex (fun H' τ w hled hM => Ex.loadE hM hled hF1.rdc to3 rfl (hx9 0 _ rfl)) rfl (fun _ => rfl) rfl
      · exact One.ex (fun H' τ w hled hM => Ex.fieldAddr fa100_1 rfl) rfl (fun _ => rfl) rfl
      · exact One.ex (fun H' τ w hled hM => Ex.load1 hM 0 to3 rfl rfl rfl) rfl (fun _ => rfl) rfl
      · exact One.ex (fun H' τ w hled hM => Ex.sub rfl rfl hg11.1 hg11.2) rfl (fun _ => rfl) rfl
      · exact One.ex (fun H' τ w hled hM => Ex.gtr rfl rfl) rfl (fun _ => rfl) rfl
      · exact One.ex (fun H' τ w hled hM => Ex.pickF (.bool (decide (((ix x0 x1.Volume) - x1.Start) < (x1.Data.length : Int)))) rfl rfl) rfl (fun _ => rfl) rfl
      intro τ w hM
      change RW _ _ _ _ _ _ _ _ (sl [(45, .bool (decide (((ix x0 x1.Volume) - x1.Start) < (x1.Data.length : Int))))] τ) _
      refine RW.nil ?_
      exact And.intro rfl (And.intro (slc ⟨(congrArg Value.bool (decide_eq_decide.2 (imOr hc7 (imOr hc10 Iff.rfl)))), trivial⟩) hM)
   rintro _ _ w ⟨rfl, ⟨τ, rfl⟩, hM⟩
   refine CW.cond_dec (p := (x1.Start < 0) ∨ (((ix x0 x1.Volume) ≤ x1.Start) ∨ (((ix x0 x1.Volume) - x1.Start) < (x1.Data.length : Int)))) rfl (fun hc12 => ?_) (fun hc12 => ?_)
   ·
    replace hm := And.left hm hc12
    refine CW.sr <| RW.st (Ex.assign (.int .i64 2) rfl) rfl <| RW.nil <| CW.ret ?_
    refine tqr ?_
    refine end_tmp (.inl rfl) rfl (.int .i64 2) rfl ?_
    exact ⟨_, _, (hM.pick [] rfl rfl), 2, hm, rfl, rfl⟩
   ·
    replace hm := And.right hm hc12
    refine CW.skip <| CW.sr <| RW.st (Ex.assign (.int .i64 0) rfl) rfl <| RW.nil <| CW.ret ?_
    refine end_tmp (.inl rfl) rfl (.int .i64 0) rfl ?_
    exact ⟨_, _, (hM.pick [] rfl rfl), 0, hm, rfl, rfl⟩
theorem ref02_New_lift {H : Hp} (x0 : Int) {Φ : api_Bitmap × Int → Prop} (hm : ref02_New_W x0 Φ) : RetP Tryd.prog 65 #[.int .i64 x0] H (fun H' v L => ∃ y, Φ y ∧ ∃ A14, ∃ n14, ∃ c14, ∃ s14, v = .tuple #[.agg #[.int .i64 (y.1.Size), .slice A14 n14 c14], .int .i64 (y.2)] ∧ DtL (α := BitVec 64) H' s14 y.1.Words ∧ n14 = y.1.Words.length ∧ L = [.row (.slice A14 n14 c14) 151 1 n14 s14]) := by
 refine RetP.of_code Tryd.func65 rfl (nb rfl) fun w0 hM => ?_
 refine CW.sr ?_
 refine RW.alloc hM tz65 [.int .i64 0, .slice none 0 0] rfl rfl rfl ?_; intro b1 w hM
 refine RW.st (Ex.assign (.int .i64 0) rfl) rfl <| RW.nil <| CW.seq ?_
 skip
 refine CW.cut (fun D σ w => D = [] ∧ (∃ τ, σ = sl [(0, .int .i64 x0), (2, .pointer (some ⟨b1, 0, none⟩)), (9, .bool (decide ((x0 < 0) ∨ (4096 < x0))))] τ) ∧ Mem w0 H w H [.box b1 65 [.int .i64 0, .slice none 0 0]]) ?_ ?_
 ·
  skip
  refine CW.region <| RW.st (Ex.move (.int .i64 x0) rfl) rfl <| RW.st (Ex.lss rfl rfl) rfl <| RW.st (Ex.move (.bool (decide (x0 < 0))) rfl) rfl ?_
  refine RW.split 6 (p := x0 < 0) rfl (fun hc2 => ?_) (fun hc2 => ?_)
  ·
   skip
   refine RW.pp <| RW.st (Ex.pickT (.bool true) rfl rfl) rfl <| RW.nil ?_
   exact And.intro rfl (And.intro (slc ⟨rfl, rfl, (congrArg Value.bool (decide_eq_true (.inl hc2)).symm), trivial⟩) hM)
  ·
   skip
   refine RW.st (Ex.move (.int .i64 x0) rfl) rfl <| RW.st (Ex.gtr rfl rfl) rfl <| RW.st (Ex.pickF (.bool (decide (4096 < x0))) rfl rfl) rfl <| RW.nil ?_
   exact And.intro rfl (And.intro (slc ⟨rfl, rfl, (congrArg Value.bool (decide_eq_decide.2 (imOr hc2 Iff.rfl))), trivial⟩) hM)
 rintro _ _ w ⟨rfl, ⟨τ, rfl⟩, hM⟩
 refine CW.cond_dec (p := (x0 < 0) ∨ (4096 < x0)) rfl (fun hc3 => ?_) (fun hc3 => ?_)
 ·
  replace hm := And.left hm hc3
  refine CW.sr <| RW.st (Ex.build bs65 [] [.int .i64 0, .slice none 0 0] rfl rfl) rfl ?_
  refine RW.store hM 0 (.agg #[.int .i64 0, .slice none 0 0]) [.int .i64 0, .slice none 0 0] [.int .i64 0, .slice none 0 0] sz65 rfl rfl rfl (oneAll ⟨rfl, rfl, trivial⟩) rfl (nb rfl) rfl [.box b1 65 [.int .i64 0, .slice none 0 0]] rfl rfl rfl ?_; intro w hM
  refine RW.st (Ex.assign (.int .i64 2) rfl) rfl <| RW.nil <| CW.ret ?_
  refine tqr ?_
  refine ect (k := 0) (.inl rfl) rfl hM rfl (.int .i64 2) rfl ta65 [.int .i64 0, .slice none 0 0] rfl rfl ?_
  replace hM := hM.nilRow 151 1
  exact ⟨_, _, (hM.pick [0] rfl rfl), ((api_Bitmap.mk 0 ([] : List (BitVec 64))), 2), hm, none, 0, 0, [], rfl, (DtL.nil : DtL _ [] ([] : List (BitVec 64))), rfl, rfl⟩
 ·
  replace hm := And.right hm hc3
  refine CW.skip <| CW.sr <| RW.st (Ex.move (.int .i64 x0) rfl) rfl <| RW.st (Ex.move (.int .i64 x0) rfl) rfl ?_
  obtain ⟨hg4, hm⟩ := hm
  refine RW.st (Ex.add rfl rfl hg4.1 hg4.2) rfl ?_
  obtain ⟨hg5, hm⟩ := hm
  refine RW.st (Ex.quo rfl rfl hg5.1 hg5.2.2 (by decide)) rfl ?_
  obtain ⟨hg12, hm⟩ := hm
  obtain ⟨hg13, hm⟩ := hm
  refine RW.makeD (α := BitVec 64) (x0 := 0#64) hM st63 tz151 [.int .u64 (0)] rfl (fun _ => rfl) rfl rfl hg12 hg13 rfl rfl ?_; intro b6 n7 s9 w hd10 hn11 hM
  refine RW.st (Ex.build bs65 [(0, .int .i64 x0), (1, .slice (some ⟨b6, 0, none⟩) n7 n7)] [.int .i64 x0, .slice (some ⟨b6, 0, none⟩) n7 n7] rfl rfl) rfl ?_
  refine RW.store hM 1 (.agg #[.int .i64 x0, .slice (some ⟨b6, 0, none⟩) n7 n7]) [.int .i64 x0, .slice (some ⟨b6, 0, none⟩) n7 n7] [.int .i64 x0, .slice (some ⟨b6, 0, none⟩) n7 n7] sz65 rfl rfl rfl (oneAll ⟨rfl, rfl, trivial⟩) rfl (nb rfl) rfl [.row (.slice (some ⟨b6, 0, none⟩) n7 n7) 151 1 n7 s9, .box b1 65 [.int .i64 x0, .slice (some ⟨b6, 0, none⟩) n7 n7]] rfl rfl rfl ?_; intro w hM
  refine RW.st (Ex.assign (.int .i64 0) rfl) rfl <| RW.nil <| CW.ret ?_
  refine ect (k := 1) (.inl rfl) rfl hM rfl (.int .i64 0) rfl ta65 [.int .i64 x0, .slice (some ⟨b6, 0, none⟩) n7 n7] rfl rfl ?_
  exact ⟨_, _, (hM.pick [0] rfl rfl), ((api_Bitmap.mk x0 (List.replicate ((x0 + 63) / 64).toNat (0#64))), 0), hm, (some ⟨b6, 0, none⟩), n7, n7, s9, rfl, hd10, hn11, rfl⟩
theorem ref02_Copy_lift {H : Hp} (x0 : api_Bitmap) {A1 : Option Addr} {n1 c1 : Nat} {s1 : List Value} (hF1 : Fz (α := BitVec 64) H A1 n1 c1 x0.Words s1) {Φ : api_Bitmap → Prop} (hm : ref02_Copy_W x0 Φ) : RetP Tryd.prog 129 #[.agg #[.int .i64 x0.Size, .slice A1 n1 c1]] H (fun H' v L => ∃ y, Φ y ∧ ∃ A44, ∃ n44, ∃ c44, ∃ s44, v = .agg #[.int .i64 (y.Size), .slice A44 n44 c44] ∧ DtL (α := BitVec 64) H' s44 y.Words ∧ n44 = y.Words.length ∧ L = [.row (.slice A44 n44 c44) 151 1 n44 s44]) := by
 refine RetP.of_code Tryd.func129 rfl (nb rfl) fun w0 hM => ?_
 refine CW.sr ?_
 refine RW.box hM (.agg #[.int .i64 x0.Size, .slice A1 n1 c1]) [.int .i64 x0.Size, .slice A1 n1 c1] rfl rfl rfl rfl ?_; intro b2 w hM
 refine RW.alloc hM tz65 [.int .i64 0, .slice none 0 0] rfl rfl rfl ?_; intro b3 w hM
 refine RW.nil <| CW.seq ?_
 obtain ⟨hg15, hm⟩ := hm
 refine CW.drawL 7 [] [(fun Hq us E => us = [.pointer (some ⟨b2, 0, none⟩)] ∧ E = [] ∧ True), (fun Hq us E => us = [.int .i64 x0.Size] ∧ E = [] ∧ True), (fun Hq us E => ∃ (b13 : Nat), us = [.slice (some ⟨b13, 0, none⟩) 0 0] ∧ E = [.row (.slice (some ⟨b13, 0, none⟩) 0 0) 151 1 0 []] ∧ DtL Hq [] ([] : List (BitVec 64)) ∧ True), (fun Hq us E => us = [.pointer (some ⟨b2, 1, none⟩)] ∧ E = [] ∧ True), (fun Hq us E => us = [.slice A1 n1 c1] ∧ E = [] ∧ True), (fun Hq us E => ∃ (A16 : Option Addr), ∃ (n17 : Nat), ∃ (c18 : Nat), ∃ (s19 : List Value), us = [.slice A16 n17 c18] ∧ E = [.row (.slice A16 n17 c18) 151 1 n17 s19] ∧ DtL (α := BitVec 64) Hq s19 (([] : List (BitVec 64)) ++ x0.Words) ∧ n17 = (([] : List (BitVec 64)) ++ x0.Words).length ∧ True), (fun Hq us E => ∃ (A16 : Option Addr), ∃ (n17 : Nat), ∃ (c18 : Nat), us = [.slice A16 n17 c18, .agg #[.int .i64 x0.Size, .slice A16 n17 c18]] ∧ E = [] ∧ True)]
  (fun k => [[0], [1], [2], [3], [4], [5], [5, 6]].getD k []) (fun k => [none, none, none, none, none, some 2, none].getD k none) (by kernel_rfl) hM (by kernel_rfl) (by kernel_rfl) (by kernel_rfl) rfl (by simp only [List.forall_mem_cons]; exact ⟨fun _ _ _ _ hle ⟨e1, e2, _⟩ => ⟨e1, e2, trivial⟩, fun _ _ _ _ hle ⟨e1, e2, _⟩ => ⟨e1, e2, trivial⟩, fun _ _ _ _ hle ⟨b13, e1, e2, hd14, _⟩ => ⟨b13, e1, e2, hd14.mono hle, trivial⟩, fun _ _ _ _ hle ⟨e1, e2, _⟩ => ⟨e1, e2, trivial⟩, fun _ _ _ _ hle ⟨e1, e2, _⟩ => ⟨e1, e2, trivial⟩, fun _ _ _ _ hle ⟨A16, n17, c18, s19, e1, e2, hd20, hn21, _⟩ => ⟨A16, n17, c18, s19, e1, e2, hd20.mono hle, hn21, trivial⟩, fun _ _ _ _ hle ⟨A16, n17, c18, e1, e2, _⟩ => ⟨A16, n17, c18, e1, e2, trivial⟩, by simp⟩) ⟨?_, ?_, ?_, ?_, ?_, ?_, ?_, trivial⟩ ?_
 ·
  intro H' σ' w R E hle hMR hE0 hE hp hf
  obtain rfl := hE0 rfl
  obtain ⟨τ, rfl⟩ := slc (σ := σ') (l := [(1, .pointer (some ⟨b2, 0, none⟩))]) ⟨(hf 1 (by kernel_rfl)).trans rfl, trivial⟩
  have hM := Mem.subR (R := R) hMR
  exact RW.step (Ex.fieldAddr fa65_0 rfl) rfl rfl rfl (RW.nil ⟨rfl, rfl, _, rfl, H', [], Hp.le.refl _, hMR, rfl, rfl, trivial⟩)
 ·
  intro H' σ' w R E hle hMR hE0 hE hp hf
  obtain rfl := hE0 rfl
  obtain ⟨_, hg⟩ := hp 0 (by decide) (by kernel_rfl)
  obtain ⟨e22, _, _⟩ := hg.get rfl
  have e23 : σ' 3 = .pointer (some ⟨b2, 0, none⟩) := (List.cons.inj e22).1
  obtain ⟨τ, rfl⟩ := slc (σ := σ') (l := [(3, .pointer (some ⟨b2, 0, none⟩))]) ⟨e23, trivial⟩
  have hM := Mem.subR (R := R) hMR
  exact RW.step (Ex.load1 hM 1 to3 rfl rfl rfl) rfl rfl rfl (RW.nil ⟨rfl, rfl, _, rfl, H', [], Hp.le.refl _, hMR, rfl, rfl, trivial⟩)
 ·
  intro H' σ' w R E hle hMR hE0 hE hp hf
  obtain rfl := hE0 rfl
  obtain ⟨τ, rfl⟩ := slc (σ := σ') (l := []) trivial
  have hM := Mem.subR (R := R) hMR
  refine RW.buildSlice hMR st63 tz151 [] [] (by decide) rfl rfl rfl (by decide) rfl rfl ?_; intro b13 w hMR
  have hd14 : DtL H' [] ([] : List (BitVec 64)) := DtL.nil
  exact RW.nil ⟨rfl, rfl, _, rfl, H', [.row (.slice (some ⟨b13, 0, none⟩) 0 0) 151 1 0 []], Hp.le.refl _, hMR, b13, rfl, rfl, hd14, trivial⟩
 ·
  intro H' σ' w R E hle hMR hE0 hE hp hf
  obtain rfl := hE0 rfl
  obtain ⟨τ, rfl⟩ := slc (σ := σ') (l := [(1, .pointer (some ⟨b2, 0, none⟩))]) ⟨(hf 1 (by kernel_rfl)).trans rfl, trivial⟩
  have hM := Mem.subR (R := R) hMR
  exact RW.step (Ex.fieldAddr fa65_1 rfl) rfl rfl rfl (RW.nil ⟨rfl, rfl, _, rfl, H', [], Hp.le.refl _, hMR, rfl, rfl, trivial⟩)
 ·
  intro H' σ' w R E hle hMR hE0 hE hp hf
  obtain rfl := hE0 rfl
  obtain ⟨_, hg⟩ := hp 3 (by decide) (by kernel_rfl)
  obtain ⟨e24, _, _⟩ := hg.get rfl
  have e25 : σ' 6 = .pointer (some ⟨b2, 1, none⟩) := (List.cons.inj e24).1
  obtain ⟨τ, rfl⟩ := slc (σ := σ') (l := [(6, .pointer (some ⟨b2, 1, none⟩))]) ⟨e25, trivial⟩
  have hM := Mem.subR (R := R) hMR
  exact RW.step (Ex.load1 hM 1 to63 rfl rfl rfl) rfl rfl rfl (RW.nil ⟨rfl, rfl, _, rfl, H', [], Hp.le.refl _, hMR, rfl, rfl, trivial⟩)
 ·
  intro H' σ' w R E hle hMR hE0 hE hp hf
  obtain ⟨b13, e26, rfl, hd14, _⟩ := (hE 2 rfl).get rfl
  have e27 : σ' 5 = .slice (some ⟨b13, 0, none⟩) 0 0 := (List.cons.inj e26).1
  obtain ⟨_, hg⟩ := hp 4 (by decide) (by kernel_rfl)
  obtain ⟨e28, _, _⟩ := hg.get rfl
  have e29 : σ' 7 = .slice A1 n1 c1 := (List.cons.inj e28).1
  obtain ⟨τ, rfl⟩ := slc (σ := σ') (l := [(5, .slice (some ⟨b13, 0, none⟩) 0 0), (7, .slice A1 n1 c1)]) ⟨e27, e29, trivial⟩
  refine RW.appendF (α := BitVec 64) (xs := ([] : List (BitVec 64))) (ys := x0.Words) hMR 0 st63 rfl rfl hd14 rfl rfl hle hF1 hg15 rfl rfl ?_; intro A16 n17 c18 s19 w hd20 hn21 hMR
  exact RW.nil ⟨rfl, rfl, _, rfl, H', [.row (.slice A16 n17 c18) 151 1 n17 s19], Hp.le.refl _, hMR, A16, n17, c18, s19, rfl, rfl, hd20, hn21, trivial⟩
 ·
  intro H' σ' w R E hle hMR hE0 hE hp hf
  obtain rfl := hE0 rfl
  obtain ⟨_, hg⟩ := hp 1 (by decide) (by kernel_rfl)
  obtain ⟨e30, _, _⟩ := hg.get rfl
  have e31 : σ' 4 = .int .i64 x0.Size := (List.cons.inj e30).1
  obtain ⟨_, hg⟩ := hp 5 (by decide) (by kernel_rfl)
  obtain ⟨A16, n17, c18, s19, e32, _, hd20, hn21, _⟩ := hg.get rfl
  have e33 : σ' 8 = .slice A16 n17 c18 := (List.cons.inj e32).1
  obtain ⟨τ, rfl⟩ := slc (σ := σ') (l := [(4, .int .i64 x0.Size), (8, .slice A16 n17 c18)]) ⟨e31, e33, trivial⟩
  have hM := Mem.subR (R := R) hMR
  exact RW.step (Ex.build bs65 [(0, .int .i64 x0.Size), (1, .slice A16 n17 c18)] [.int .i64 x0.Size, .slice A16 n17 c18] rfl rfl) rfl rfl rfl (RW.nil ⟨rfl, rfl, _, rfl, H', [], Hp.le.refl _, hMR, A16, n17, c18, rfl, rfl, trivial⟩)
 ·
  intro HR8 σ' w X miss hms hleR hM hX hX0 hf
  simp [subs] at hms
  rcases hms with rfl
  ·
   obtain ⟨H34, hH8⟩ : ∃ x, x = HR8 := ⟨_, rfl⟩
   subst hH8
   have hle35 := hleR
   obtain ⟨_, g0, y0⟩ := hX 0 (by decide) (by kernel_rfl)
   obtain ⟨_, rfl, _⟩ := g0.get rfl
   replace y0 : X 0 = [] := y0
   obtain ⟨_, g0, y1⟩ := hX 1 (by decide) (by kernel_rfl)
   obtain ⟨_, rfl, _⟩ := g0.get rfl
   replace y1 : X 1 = [] := y1
   obtain ⟨_, g0, y2⟩ := hX 2 (by decide) (by kernel_rfl)
   obtain ⟨_, _, rfl, _, _⟩ := g0.get rfl
   replace y2 : X 2 = [] := y2
   obtain ⟨_, g0, y3⟩ := hX 3 (by decide) (by kernel_rfl)
   obtain ⟨_, rfl, _⟩ := g0.get rfl
   replace y3 : X 3 = [] := y3
   obtain ⟨_, g0, y4⟩ := hX 4 (by decide) (by kernel_rfl)
   obtain ⟨_, rfl, _⟩ := g0.get rfl
   replace y4 : X 4 = [] := y4
   obtain ⟨_, g0, y5⟩ := hX 5 (by decide) (by kernel_rfl)
   obtain ⟨A16, n17, c18, s19, e36, rfl, hd20, hn21, _⟩ := g0.get rfl
   have e37 : σ' 8 = .slice A16 n17 c18 := (List.cons.inj e36).1
   replace y5 : X 5 = [.row (.slice A16 n17 c18) 151 1 n17 s19] := y5
   obtain ⟨_, g0, y6⟩ := hX 6 (by decide) (by kernel_rfl)
   obtain ⟨A16q, n17q, c18q, e38, rfl, _⟩ := g0.get rfl
   have e39 : σ' 8 = .slice A16q n17q c18q := (List.cons.inj e38).1
   have he_ := e37.symm.trans e39
   have ⟨e40, e41, e42⟩ : A16 = A16q ∧ n17 = n17q ∧ c18 = c18q := by simp at he_; simp [he_]
   subst e40
   subst e41
   subst e42
   have e43 : σ' 9 = .agg #[.int .i64 x0.Size, .slice A16 n17 c18] := (List.cons.inj (List.cons.inj e38).2).1
   replace y6 : X 6 = [] := y6
   have hfl : flatX X 7 = [.row (.slice A16 n17 c18) 151 1 n17 s19] := by
    show X 0 ++ (X 1 ++ (X 2 ++ (X 3 ++ (X 4 ++ (X 5 ++ (X 6 ++ [])))))) = _
    rw [y0, y1, y2, y3, y4, y5, y6]; rfl
   rw [hfl] at hM
   obtain ⟨τ, rfl⟩ := slc (σ := σ') (l := [(2, .pointer (some ⟨b3, 0, none⟩)), (9, .agg #[.int .i64 x0.Size, .slice A16 n17 c18])]) ⟨(hf 2 (by kernel_rfl)).trans rfl, e43, trivial⟩
   change RA _ _ _ _ _ _ _ (sl [(2, .pointer (some ⟨b3, 0, none⟩)), (9, .agg #[.int .i64 x0.Size, .slice A16 n17 c18])] τ) _ 8 _
   refine RA.step [7] (by kernel_rfl) rfl ⟨⟨_, rfl, ?_⟩, trivial⟩
   refine RW.store hM 1 (.agg #[.int .i64 x0.Size, .slice A16 n17 c18]) [.int .i64 x0.Size, .slice A16 n17 c18] [.int .i64 x0.Size, .slice A16 n17 c18] sz65 rfl rfl rfl (oneAll ⟨rfl, rfl, trivial⟩) rfl (nb rfl) rfl [.row (.slice A16 n17 c18) 151 1 n17 s19, .box b3 65 [.int .i64 x0.Size, .slice A16 n17 c18], .box b2 65 [.int .i64 x0.Size, .slice A1 n1 c1]] rfl rfl rfl ?_; intro w hM
   refine RW.nil ?_
   refine And.intro rfl ?_
   refine RA.done (by kernel_rfl) ?_
   refine CW.ret ?_
   refine end_cell (k := 1) (.inl rfl) rfl hM rfl ta65 [.int .i64 x0.Size, .slice A16 n17 c18] rfl rfl ?_
   exact ⟨_, _, (hM.pick [0] rfl rfl), (api_Bitmap.mk x0.Size (([] : List (BitVec 64)) ++ x0.Words)), hm, A16, n17, c18, s19, rfl, hd20, hn21, rfl⟩
theorem ref02_bit_lift {H : Hp} (x0 : api_Bitmap) (x1 : Int) {A1 : Option Addr} {n1 c1 : Nat} {s1 : List Value} (hF1 : Fz (α := BitVec 64) H A1 n1 c1 x0.Words s1) {Φ : Bool → Prop} (hm : ref02_bit_W x0 x1 Φ) : RetP Tryd.prog 68 #[.agg #[.int .i64 x0.Size, .slice A1 n1 c1], .int .i64 x1] H (fun _ v L => ∃ y, Φ y ∧ v = .bool y ∧ L = []) := by
 refine RetP.of_code Tryd.func68 rfl (nb rfl) fun w0 hM => ?_
 refine CW.sr ?_
 refine RW.box hM (.agg #[.int .i64 x0.Size, .slice A1 n1 c1]) [.int .i64 x0.Size, .slice A1 n1 c1] rfl rfl rfl rfl ?_; intro b2 w hM
 refine RW.st (Ex.assign (.bool false) rfl) rfl <| RW.nil <| CW.sr <| RW.st (Ex.fieldAddr fa65_1 rfl) rfl <| RW.st (Ex.load1 hM 0 to63 rfl rfl rfl) rfl <| RW.st (Ex.move (.int .i64 x1) rfl) rfl ?_
 obtain ⟨hg3, hm⟩ := hm
 refine RW.st (Ex.quo rfl rfl hg3.1 hg3.2.2 (by decide)) rfl ?_
 obtain ⟨hg4, hm⟩ := hm
 refine RW.st (Ex.index st63 rfl rfl ((x1 / 64).toNat) (hF1.ne hg4) hg4.nat (hF1.lt hg4)) rfl ?_
 obtain ⟨_, rfl, hx5⟩ := DtL.getI (α := BitVec 64) hF1.dat hg4
 refine RW.st (Ex.loadE hM (Hp.le.refl _) hF1.rdc to151 rfl (hx5 0 _ rfl)) rfl <| RW.st (Ex.move (.int .i64 x1) rfl) rfl ?_
 obtain ⟨hg6, hm⟩ := hm
 refine RW.st (Ex.rem rfl rfl hg6 (by decide)) rfl <| RW.st (Ex.convI64 Tryd.underlying3 Tryd.underlying178 rfl) rfl <| RW.st (Ex.shr64 (a := (ix x0.Words (x1 / 64))) (n := (BitVec.ofInt 64 (x1 % 64)).toNat) rfl rfl (by omega)) rfl <| RW.st (Ex.and64 (a := (ix x0.Words (x1 / 64)) >>> ((BitVec.ofInt 64 (x1 % 64)).toNat : Int).toNat) (b := 1#64) rfl rfl) rfl <| RW.st (Ex.eql64 (a := ((ix x0.Words (x1 / 64)) >>> ((BitVec.ofInt 64 (x1 % 64)).toNat : Int).toNat) &&& (1#64)) (b := 1#64) rfl rfl) rfl <| RW.st (Ex.assign (.bool (decide ((((ix x0.Words (x1 / 64)) >>> ((BitVec.ofInt 64 (x1 % 64)).toNat : Int).toNat) &&& (1#64)) = (1#64)))) rfl) rfl <| RW.nil <| CW.ret ?_
 refine end_tmp (.inl rfl) rfl (.bool (decide ((((ix x0.Words (x1 / 64)) >>> ((BitVec.ofInt 64 (x1 % 64)).toNat : Int).toNat) &&& (1#64)) = (1#64)))) rfl ?_
 exact ⟨_, _, (hM.pick [] rfl rfl), decide ((((ix x0.Words (x1 / 64)) >>> ((BitVec.ofInt 64 (x1 % 64)).toNat : Int).toNat) &&& (1#64)) = (1#64)), hm, rfl, rfl⟩
theorem ref02_Fits_lift {H : Hp} (x0 : api_Extent) (x1 : Int) {Φ : Bool → Prop} (hm : ref02_Fits_W x0 x1 Φ) : RetP Tryd.prog 149 #[.agg #[.int .i64 x0.Start, .int .i64 x0.Count], .int .i64 x1] H (fun _ v L => ∃ y, Φ y ∧ v = .bool y ∧ L = []) := by
 refine RetP.of_code Tryd.func149 rfl (nb rfl) fun w0 hM => ?_
 refine CW.sr ?_
 refine RW.box hM (.agg #[.int .i64 x0.Start, .int .i64 x0.Count]) [.int .i64 x0.Start, .int .i64 x0.Count] rfl rfl rfl rfl ?_; intro b1 w hM
 refine RW.st (Ex.assign (.bool false) rfl) rfl <| RW.nil ?_
 obtain ⟨hG6, hm⟩ := hm
 refine CW.cut (fun D σ w => D = [] ∧ (∃ τ, σ = sl [(4, .bool (decide ((0 ≤ x0.Start) ∧ ((0 ≤ x0.Count) ∧ ((x0.Start ≤ x1) ∧ (x0.Count ≤ (x1 - x0.Start)))))))] τ) ∧ Mem w0 H w H [.box b1 103 [.int .i64 x0.Start, .int .i64 x0.Count]]) ?_ ?_
 ·
  replace hm := hG6
  refine CW.region <| RW.st (Ex.fieldAddr fa103_0 rfl) rfl <| RW.st (Ex.load1 hM 0 to3 rfl rfl rfl) rfl <| RW.st (Ex.geq rfl rfl) rfl <| RW.st (Ex.move (.bool (decide (0 ≤ x0.Start))) rfl) rfl ?_
  refine RW.split 8 (p := 0 ≤ x0.Start) rfl (fun hc2 => ?_) (fun hc2 => ?_)
  ·
   replace hm := hm hc2
   refine RW.st (Ex.fieldAddr fa103_1 rfl) rfl <| RW.st (Ex.load1 hM 0 to3 rfl rfl rfl) rfl <| RW.st (Ex.geq rfl rfl) rfl <| RW.st (Ex.pickT (.bool (decide (0 ≤ x0.Count))) rfl rfl) rfl <| RW.st (Ex.move (.bool (decide (0 ≤ x0.Count))) rfl) rfl ?_
   refine RW.split 13 (p := 0 ≤ x0.Count) rfl (fun hc3 => ?_) (fun hc3 => ?_)
   ·
    replace hm := hm hc3
    refine RW.st (Ex.fieldAddr fa103_0 rfl) rfl <| RW.st (Ex.load1 hM 0 to3 rfl rfl rfl) rfl <| RW.st (Ex.move (.int .i64 x1) rfl) rfl <| RW.st (Ex.leq rfl rfl) rfl <| RW.st (Ex.pickT (.bool (decide (x0.Start ≤ x1))) rfl rfl) rfl <| RW.st (Ex.move (.bool (decide (x0.Start ≤ x1))) rfl) rfl ?_
    refine RW.split 19 (p := x0.Start ≤ x1) rfl (fun hc4 => ?_) (fun hc4 => ?_)
    ·
     replace hm := hm hc4
     refine RW.st (Ex.fieldAddr fa103_1 rfl) rfl <| RW.st (Ex.load1 hM 0 to3 rfl rfl rfl) rfl <| RW.st (Ex.move (.int .i64 x1) rfl) rfl <| RW.st (Ex.fieldAddr fa103_0 rfl) rfl <| RW.st (Ex.load1 hM 0 to3 rfl rfl rfl) rfl ?_
     have hg5 := hm
     refine RW.st (Ex.sub rfl rfl hg5.1 hg5.2) rfl <| RW.st (Ex.leq rfl rfl) rfl <| RW.st (Ex.pickT (.bool (decide (x0.Count ≤ (x1 - x0.Start)))) rfl rfl) rfl <| RW.st (Ex.assign (.bool (decide (x0.Count ≤ (x1 - x0.Start)))) rfl) rfl <| RW.nil ?_
     exact And.intro rfl (And.intro (slc ⟨(congrArg Value.bool (decide_eq_decide.2 (imAnd hc2 (imAnd hc3 (imAnd hc4 Iff.rfl))))), trivial⟩) hM)
    ·
     skip
     refine RW.pp <| RW.pp <| RW.pp <| RW.pass rfl rfl <| RW.st (Ex.pickF (.bool false) rfl rfl) rfl <| RW.st (Ex.assign (.bool false) rfl) rfl <| RW.nil ?_
     exact And.intro rfl (And.intro (slc ⟨(congrArg Value.bool (decide_eq_false (fun q => (fun q => (fun q => hc4 q.1) q.2) q.2)).symm), trivial⟩) hM)
   ·
    skip
    refine RW.pp <| RW.pp <| RW.st (Ex.pickF (.bool false) rfl rfl) rfl <| RW.st (Ex.move (.bool false) rfl) rfl <| RW.pp <| RW.pp <| RW.pp <| RW.pass rfl rfl <| RW.st (Ex.pickF (.bool false) rfl rfl) rfl ?_
    refine RW.st (Ex.assign (.bool false) rfl) rfl <| RW.nil ?_
    exact And.intro rfl (And.intro (slc ⟨(congrArg Value.bool (decide_eq_false (fun q => (fun q => hc3 q.1) q.2)).symm), trivial⟩) hM)
  ·
   skip
   refine RW.pp <| RW.pass rfl rfl <| RW.st (Ex.pickF (.bool false) rfl rfl) rfl <| RW.st (Ex.move (.bool false) rfl) rfl <| RW.pp <| RW.pp <| RW.st (Ex.pickF (.bool false) rfl rfl) rfl <| RW.st (Ex.move (.bool false) rfl) rfl <| RW.pp <| RW.pass rfl rfl ?_
   refine RW.pp <| RW.pp <| RW.st (Ex.pickF (.bool false) rfl rfl) rfl <| RW.st (Ex.assign (.bool false) rfl) rfl <| RW.nil ?_
   exact And.intro rfl (And.intro (slc ⟨(congrArg Value.bool (decide_eq_false (fun q => hc2 q.1)).symm), trivial⟩) hM)
 rintro _ _ w ⟨rfl, ⟨τ, rfl⟩, hM⟩
 refine CW.ret ?_
 refine end_tmp (.inl rfl) rfl (.bool (decide ((0 ≤ x0.Start) ∧ ((0 ≤ x0.Count) ∧ ((x0.Start ≤ x1) ∧ (x0.Count ≤ (x1 - x0.Start))))))) rfl ?_
 exact ⟨_, _, (hM.pick [] rfl rfl), decide ((0 ≤ x0.Start) ∧ ((0 ≤ x0.Count) ∧ ((x0.Start ≤ x1) ∧ (x0.Count ≤ (x1 - x0.Start))))), hm, rfl, rfl⟩
theorem delta_in_lift {H : Hp} (x0 : Int) (x1 : Int) {Φ : Bool → Prop} (hm : delta_in_W x0 x1 Φ) : RetP Tryd.prog 92 #[.int .i64 x0, .int .i64 x1] H (fun _ v L => ∃ y, Φ y ∧ v = .bool y ∧ L = []) := by
 refine RetP.of_code Tryd.func92 rfl (nb rfl) fun w0 hM => ?_
 refine CW.sr <| RW.st (Ex.assign (.bool false) rfl) rfl <| RW.nil ?_
 skip
 refine CW.cut (fun D σ w => D = [] ∧ (∃ τ, σ = sl [(4, .bool (decide ((x1 ≤ x0) ∧ (x0 ≤ 1073741824))))] τ) ∧ Mem w0 H w H []) ?_ ?_
 ·
  skip
  refine CW.region <| RW.st (Ex.move (.int .i64 x0) rfl) rfl <| RW.st (Ex.move (.int .i64 x1) rfl) rfl <| RW.st (Ex.geq rfl rfl) rfl <| RW.st (Ex.move (.bool (decide (x1 ≤ x0))) rfl) rfl ?_
  refine RW.split 8 (p := x1 ≤ x0) rfl (fun hc1 => ?_) (fun hc1 => ?_)
  ·
   skip
   refine RW.st (Ex.move (.int .i64 x0) rfl) rfl <| RW.st (Ex.leq rfl rfl) rfl <| RW.st (Ex.pickT (.bool (decide (x0 ≤ 1073741824))) rfl rfl) rfl <| RW.st (Ex.assign (.bool (decide (x0 ≤ 1073741824))) rfl) rfl <| RW.nil ?_
   exact And.intro rfl (And.intro (slc ⟨(congrArg Value.bool (decide_eq_decide.2 (imAnd hc1 Iff.rfl))), trivial⟩) hM)
  ·
   skip
   refine RW.pp <| RW.st (Ex.pickF (.bool false) rfl rfl) rfl <| RW.st (Ex.assign (.bool false) rfl) rfl <| RW.nil ?_
   exact And.intro rfl (And.intro (slc ⟨(congrArg Value.bool (decide_eq_false (fun q => hc1 q.1)).symm), trivial⟩) hM)
 rintro _ _ w ⟨rfl, ⟨τ, rfl⟩, hM⟩
 refine CW.ret ?_
 refine end_tmp (.inl rfl) rfl (.bool (decide ((x1 ≤ x0) ∧ (x0 ≤ 1073741824)))) rfl ?_
 exact ⟨_, _, hM, decide ((x1 ≤ x0) ∧ (x0 ≤ 1073741824)), hm, rfl, rfl⟩
theorem image_sizes_1_lift {H : Hp} (x0 : List Sec) {A1 : Option Addr} {n1 c1 : Nat} {s1 : List Value} (hF1 : Fz (α := Sec) H A1 n1 c1 x0 s1) {Φ : Int → Prop} (hm : image_sizes_1_W x0 Φ) : RetP Tryd.prog 147 #[.slice A1 n1 c1] H (fun _ v L => ∃ y, Φ y ∧ v = .int .i64 (y) ∧ L = []) := by
 refine RetP.of_code Tryd.func147 rfl (nb rfl) fun w0 hM => ?_
 refine CW.sr <| RW.st (Ex.assign (.int .i64 0) rfl) rfl <| RW.nil <| CW.sr <| RW.st (Ex.move (.slice A1 n1 c1) rfl) rfl <| RW.st (Ex.lenN st61.1 rfl hF1.hn) rfl <| RW.st (Ex.assign (.int .i64 ((x0.length : Int))) rfl) rfl <| RW.nil <| CW.ret ?_
 refine end_tmp (.inl rfl) rfl (.int .i64 ((x0.length : Int))) rfl ?_
 exact ⟨_, _, hM, (x0.length : Int), hm, rfl, rfl⟩
theorem image_checkSizes_1_lift {H : Hp} (x0 : Int) {Φ : Bool → Prop} (hm : image_checkSizes_1_W x0 Φ) : RetP Tryd.prog 145 #[.int .i64 x0] H (fun _ v L => ∃ y, Φ y ∧ v = .bool y ∧ L = []) := by
 refine RetP.of_code Tryd.func145 rfl (nb rfl) fun w0 hM => ?_
 refine CW.sr <| RW.st (Ex.assign (.bool false) rfl) rfl <| RW.nil ?_
 skip
 refine CW.cut (fun D σ w => D = [] ∧ (∃ τ, σ = sl [(2, .bool (decide ((x0 < 1) ∨ (4096 < x0))))] τ) ∧ Mem w0 H w H []) ?_ ?_
 ·
  skip
  refine CW.region <| RW.st (Ex.move (.int .i64 x0) rfl) rfl <| RW.st (Ex.lss rfl rfl) rfl <| RW.st (Ex.move (.bool (decide (x0 < 1))) rfl) rfl ?_
  refine RW.split 5 (p := x0 < 1) rfl (fun hc1 => ?_) (fun hc1 => ?_)
  ·
   skip
   refine RW.pp <| RW.st (Ex.pickT (.bool true) rfl rfl) rfl <| RW.st (Ex.assign (.bool true) rfl) rfl <| RW.nil ?_
   exact And.intro rfl (And.intro (slc ⟨(congrArg Value.bool (decide_eq_true (.inl hc1)).symm), trivial⟩) hM)
  ·
   skip
   refine RW.st (Ex.move (.int .i64 x0) rfl) rfl <| RW.st (Ex.gtr rfl rfl) rfl <| RW.st (Ex.pickF (.bool (decide (4096 < x0))) rfl rfl) rfl <| RW.st (Ex.assign (.bool (decide (4096 < x0))) rfl) rfl <| RW.nil ?_
   exact And.intro rfl (And.intro (slc ⟨(congrArg Value.bool (decide_eq_decide.2 (imOr hc1 Iff.rfl))), trivial⟩) hM)
 rintro _ _ w ⟨rfl, ⟨τ, rfl⟩, hM⟩
 refine CW.ret ?_
 refine end_tmp (.inl rfl) rfl (.bool (decide ((x0 < 1) ∨ (4096 < x0)))) rfl ?_
 exact ⟨_, _, hM, decide ((x0 < 1) ∨ (4096 < x0)), hm, rfl, rfl⟩
theorem bitmap_words_lift {H : Hp} (x0 : Int) {Φ : Int → Prop} (hm : bitmap_words_W x0 Φ) : RetP Tryd.prog 131 #[.int .i64 x0] H (fun _ v L => ∃ y, Φ y ∧ v = .int .i64 (y) ∧ L = []) := by
 refine RetP.of_code Tryd.func131 rfl (nb rfl) fun w0 hM => ?_
 refine CW.sr <| RW.st (Ex.assign (.int .i64 0) rfl) rfl <| RW.nil <| CW.sr <| RW.st (Ex.move (.int .i64 x0) rfl) rfl ?_
 obtain ⟨hg1, hm⟩ := hm
 refine RW.st (Ex.add rfl rfl hg1.1 hg1.2) rfl ?_
 obtain ⟨hg2, hm⟩ := hm
 refine RW.st (Ex.sub rfl rfl hg2.1 hg2.2) rfl ?_
 obtain ⟨hg3, hm⟩ := hm
 refine RW.st (Ex.quo rfl rfl hg3.1 hg3.2.2 (by decide)) rfl <| RW.st (Ex.assign (.int .i64 (((x0 + 64) - 1) / 64)) rfl) rfl <| RW.nil <| CW.ret ?_
 refine end_tmp (.inl rfl) rfl (.int .i64 (((x0 + 64) - 1) / 64)) rfl ?_
 exact ⟨_, _, hM, ((x0 + 64) - 1) / 64, hm, rfl, rfl⟩
theorem reverse_last_lift {H : Hp} (x0 : List api_Span) {A1 : Option Addr} {n1 c1 : Nat} {s1 : List Value} (hF1 : Fz (α := api_Span) H A1 n1 c1 x0 s1) {Φ : Int → Prop} (hm : reverse_last_W x0 Φ) : RetP Tryd.prog 41 #[.slice A1 n1 c1] H (fun _ v L => ∃ y, Φ y ∧ v = .int .i64 (y) ∧ L = []) := by
 refine RetP.of_code Tryd.func41 rfl (nb rfl) fun w0 hM => ?_
 refine CW.sr <| RW.st (Ex.assign (.int .i64 0) rfl) rfl <| RW.nil <| CW.seq <| CW.sr <| RW.st (Ex.move (.slice A1 n1 c1) rfl) rfl <| RW.st (Ex.lenN st22.1 rfl hF1.hn) rfl <| RW.st (Ex.eql rfl rfl) rfl <| RW.nil ?_
 refine CW.cond_dec (p := (x0.length : Int) = 0) rfl (fun hc2 => ?_) (fun hc2 => ?_)
 ·
  replace hm := And.left hm hc2
  refine CW.sr <| RW.st (Ex.assign (.int .i64 0) rfl) rfl <| RW.nil <| CW.ret ?_
  refine tqr ?_
  refine end_tmp (.inl rfl) rfl (.int .i64 0) rfl ?_
  exact ⟨_, _, hM, 0, hm, rfl, rfl⟩
 ·
  replace hm := And.right hm hc2
  refine CW.skip <| CW.sr <| RW.st (Ex.move (.slice A1 n1 c1) rfl) rfl <| RW.st (Ex.move (.slice A1 n1 c1) rfl) rfl <| RW.st (Ex.lenN st22.1 rfl hF1.hn) rfl ?_
  obtain ⟨hg3, hm⟩ := hm
  refine RW.st (Ex.sub rfl rfl hg3.1 hg3.2) rfl ?_
  obtain ⟨hg4, hm⟩ := hm
  refine RW.st (Ex.index st22 rfl rfl (((x0.length : Int) - 1).toNat) (hF1.ne hg4) hg4.nat (hF1.lt hg4)) rfl <| RW.st (Ex.fieldE fa98_2 (hF1.ne hg4) rfl) rfl ?_
  obtain ⟨_, rfl, hx5⟩ := DtL.getI (α := api_Span) hF1.dat hg4
  refine RW.st (Ex.loadE hM (Hp.le.refl _) hF1.rdc to3 rfl (hx5 2 _ rfl)) rfl <| RW.st (Ex.assign (.int .i64 ((ix x0 ((x0.length : Int) - 1)).To)) rfl) rfl <| RW.nil <| CW.ret ?_
  refine end_tmp (.inl rfl) rfl (.int .i64 ((ix x0 ((x0.length : Int) - 1)).To)) rfl ?_
  exact ⟨_, _, hM, (ix x0 ((x0.length : Int) - 1)).To, hm, rfl, rfl⟩
theorem reverse_Undo_1_lift {H : Hp} (hT : TabH H 0) (x0 : Int) (x1 : api_Bitmap) {A1 : Option Addr} {n1 c1 : Nat} {s1 : List Value} (hF1 : Fz (α := BitVec 64) H A1 n1 c1 x1.Words s1) {Φ : List api_Extent → Prop} (hm : reverse_Undo_1_W x0 x1 Φ) : RetP Tryd.prog 43 #[.int .i64 x0, .agg #[.int .i64 x1.Size, .slice A1 n1 c1]] H (fun H' v L => ∃ y, Φ y ∧ ∃ A7, ∃ n7, ∃ c7, ∃ s7, v = .slice A7 n7 c7 ∧ Fz (α := api_Extent) H' A7 n7 c7 y s7 ∧ L = []) := by
 refine RetP.of_code Tryd.func43 rfl (nb rfl) fun w0 hM => ?_
 refine CW.sr ?_
 refine RW.box hM (.agg #[.int .i64 x1.Size, .slice A1 n1 c1]) [.int .i64 x1.Size, .slice A1 n1 c1] rfl rfl rfl rfl ?_; intro b2 w hM
 refine RW.st (Ex.assign (.slice none 0 0) rfl) rfl <| RW.nil <| CW.sr <| RW.st (Ex.loadA hM 0 [.int .i64 x1.Size, .slice A1 n1 c1] ta65 rfl rfl rfl rfl) rfl ?_
 refine RW.callP hM (bitmap_Extents_lift hT x1 hF1 hm) en44 rfl rfl rfl rfl ?_; rintro _ w H4 _ hle5 ⟨v3, hm, A6, n6, c6, s6, rfl, hF6, rfl⟩ hM
 refine RW.st (Ex.assign (.slice A6 n6 c6) rfl) rfl <| RW.nil <| CW.ret ?_
 refine end_tmp (.inl rfl) rfl (.slice A6 n6 c6) rfl ?_
 exact ⟨_, _, (hM.pick [] rfl rfl), v3, hm, A6, n6, c6, s6, rfl, hF6, rfl⟩
theorem delta_alike_1_lift {H : Hp} (x0 : List Sec) (x1 : List Sec) {A1 : Option Addr} {n1 c1 : Nat} {s1 : List Value} (hF1 : Fz (α := Sec) H A1 n1 c1 x0 s1) {A2 : Option Addr} {n2 c2 : Nat} {s2 : List Value} (hF2 : Fz (α := Sec) H A2 n2 c2 x1 s2) {Φ : Bool → Prop} (hm : delta_alike_1_W x0 x1 Φ) : RetP Tryd.prog 136 #[.slice A1 n1 c1, .slice A2 n2 c2] H (fun _ v L => ∃ y, Φ y ∧ v = .bool y ∧ L = []) := by
 refine RetP.of_code Tryd.func136 rfl (nb rfl) fun w0 hM => ?_
 refine CW.sr <| RW.st (Ex.assign (.bool false) rfl) rfl <| RW.nil <| CW.sr <| RW.st (Ex.move (.slice A1 n1 c1) rfl) rfl <| RW.st (Ex.lenN st61.1 rfl hF1.hn) rfl <| RW.st (Ex.move (.slice A2 n2 c2) rfl) rfl <| RW.st (Ex.lenN st61.1 rfl hF2.hn) rfl <| RW.st (Ex.eql rfl rfl) rfl <| RW.st (Ex.assign (.bool (decide ((x0.length : Int) = (x1.length : Int)))) rfl) rfl <| RW.nil <| CW.ret ?_
 refine end_tmp (.inl rfl) rfl (.bool (decide ((x0.length : Int) = (x1.length : Int)))) rfl ?_
 exact ⟨_, _, hM, decide ((x0.length : Int) = (x1.length : Int)), hm, rfl, rfl⟩
theorem bitmap_Or_1_lift {H : Hp} (x0 : BitVec 64) (x1 : BitVec 64) {Φ : BitVec 64 → Prop} (hm : bitmap_Or_1_W x0 x1 Φ) : RetP Tryd.prog 126 #[u64 (x0), u64 (x1)] H (fun _ v L => ∃ y, Φ y ∧ v = u64 (y) ∧ L = []) := by
 refine RetP.of_code Tryd.func126 rfl (nb rfl) fun w0 hM => ?_
 refine CW.sr <| RW.st (Ex.assign (.int .u64 (0)) rfl) rfl <| RW.nil <| CW.sr <| RW.st (Ex.move (u64 (x0)) rfl) rfl <| RW.st (Ex.move (u64 (x1)) rfl) rfl <| RW.st (Ex.or64 (a := x0) (b := x1) rfl rfl) rfl <| RW.st (Ex.assign (u64 (x0 ||| x1)) rfl) rfl <| RW.nil <| CW.ret ?_
 refine end_tmp (.inl rfl) rfl (u64 (x0 ||| x1)) rfl ?_
 exact ⟨_, _, hM, x0 ||| x1, hm, rfl, rfl⟩
theorem slices_Clone_int_int_lift {H : Hp} (x0 : List Int) {A1 : Option Addr} {n1 c1 : Nat} {s1 : List Value} (hF1 : Fz (α := Int) H A1 n1 c1 x0 s1) {Φ : List Int → Prop} (hm : slices_Clone_int_int_W x0 Φ) : RetP Tryd.prog 51 #[.slice A1 n1 c1] H (fun H' v L => ∃ y, Φ y ∧ ∃ A12, ∃ n12, ∃ c12, ∃ s12, v = .slice A12 n12 c12 ∧ DtL (α := Int) H' s12 y ∧ n12 = y.length ∧ L = [.row (.slice A12 n12 c12) 3 1 n12 s12]) := by
 refine RetP.of_code Tryd.func51 rfl (nb rfl) fun w0 hM => ?_
 refine CW.sr <| RW.st (Ex.assign (.slice none 0 0) rfl) rfl <| RW.nil <| CW.seq <| CW.sr <| RW.st (Ex.move (.slice A1 n1 c1) rfl) rfl <| RW.st (Ex.eqlNil st40.1 rfl rfl) rfl <| RW.nil ?_
 refine CW.cond_dec (p := A1 = none) rfl (fun hc2 => ?_) (fun hc2 => ?_)
 ·
  replace hm := And.left hm (hF1.nilc hc2)
  refine CW.sr <| RW.st (Ex.assign (.slice none 0 0) rfl) rfl <| RW.nil <| CW.ret ?_
  refine tqr ?_
  refine end_tmp (.inl rfl) rfl (.slice none 0 0) rfl ?_
  replace hM := hM.nilRow 3 1
  exact ⟨_, _, hM, ([] : List Int), hm, none, 0, 0, [], rfl, (DtL.nil : DtL _ [] ([] : List Int)), rfl, rfl⟩
 ·
  replace hm := And.right hm
  refine CW.skip <| CW.sr ?_
  refine RW.buildSlice hM st40 tz3 [] [] (by decide) rfl rfl rfl (by decide) rfl rfl ?_; intro b3 w hM
  have hd4 : DtL H [] ([] : List Int) := DtL.nil
  refine RW.st (Ex.move (.slice A1 n1 c1) rfl) rfl ?_
  obtain ⟨hg11, hm⟩ := hm
  refine RW.appendF (α := Int) (xs := ([] : List Int)) (ys := x0) hM 0 st40 rfl rfl hd4 rfl rfl (Hp.le.refl _) hF1 hg11 rfl rfl ?_; intro A5 n6 c7 s8 w hd9 hn10 hM
  refine RW.st (Ex.assign (.slice A5 n6 c7) rfl) rfl <| RW.nil <| CW.ret ?_
  refine end_tmp (.inl rfl) rfl (.slice A5 n6 c7) rfl ?_
  exact ⟨_, _, hM, (([] : List Int) ++ x0), hm, A5, n6, c7, s8, rfl, hd9, hn10, rfl⟩
theorem slices_Clone_api_Sector_api_Sector_lift {H : Hp} (x0 : List Sec) {A1 : Option Addr} {n1 c1 : Nat} {s1 : List Value} (hF1 : Fz (α := Sec) H A1 n1 c1 x0 s1) {Φ : List Sec → Prop} (hm : slices_Clone_api_Sector_api_Sector_W x0 Φ) : RetP Tryd.prog 52 #[.slice A1 n1 c1] H (fun H' v L => ∃ y, Φ y ∧ ∃ A12, ∃ n12, ∃ c12, ∃ s12, v = .slice A12 n12 c12 ∧ DtL (α := Sec) H' s12 y ∧ n12 = y.length ∧ L = [.row (.slice A12 n12 c12) 71 8 n12 s12]) := by
 refine RetP.of_code Tryd.func52 rfl (nb rfl) fun w0 hM => ?_
 refine CW.sr <| RW.st (Ex.assign (.slice none 0 0) rfl) rfl <| RW.nil <| CW.seq <| CW.sr <| RW.st (Ex.move (.slice A1 n1 c1) rfl) rfl <| RW.st (Ex.eqlNil st61.1 rfl rfl) rfl <| RW.nil ?_
 refine CW.cond_dec (p := A1 = none) rfl (fun hc2 => ?_) (fun hc2 => ?_)
 ·
  replace hm := And.left hm (hF1.nilc hc2)
  refine CW.sr <| RW.st (Ex.assign (.slice none 0 0) rfl) rfl <| RW.nil <| CW.ret ?_
  refine tqr ?_
  refine end_tmp (.inl rfl) rfl (.slice none 0 0) rfl ?_
  replace hM := hM.nilRow 71 8
  exact ⟨_, _, hM, ([] : List Sec), hm, none, 0, 0, [], rfl, (DtL.nil : DtL _ [] ([] : List Sec)), rfl, rfl⟩
 ·
  replace hm := And.right hm
  refine CW.skip <| CW.sr ?_
  refine RW.buildSlice hM st61 tz71 [] [] (by decide) rfl rfl rfl (by decide) rfl rfl ?_; intro b3 w hM
  have hd4 : DtL H [] ([] : List Sec) := DtL.nil
  refine RW.st (Ex.move (.slice A1 n1 c1) rfl) rfl ?_
  obtain ⟨hg11, hm⟩ := hm
  refine RW.appendF (α := Sec) (xs := ([] : List Sec)) (ys := x0) hM 0 st61 rfl rfl hd4 rfl rfl (Hp.le.refl _) hF1 hg11 rfl rfl ?_; intro A5 n6 c7 s8 w hd9 hn10 hM
  refine RW.st (Ex.assign (.slice A5 n6 c7) rfl) rfl <| RW.nil <| CW.ret ?_
  refine end_tmp (.inl rfl) rfl (.slice A5 n6 c7) rfl ?_
  exact ⟨_, _, hM, (([] : List Sec) ++ x0), hm, A5, n6, c7, s8, rfl, hd9, hn10, rfl⟩
theorem image_New_1_lift {H : Hp} (x0 : Int) {Φ : List Sec → Prop} (hm : image_New_1_W x0 Φ) : RetP Tryd.prog 139 #[.int .i64 x0] H (fun H' v L => ∃ y, Φ y ∧ ∃ A9, ∃ n9, ∃ c9, ∃ s9, v = .slice A9 n9 c9 ∧ DtL (α := Sec) H' s9 y ∧ n9 = y.length ∧ L = [.row (.slice A9 n9 c9) 71 8 n9 s9]) := by
 refine RetP.of_code Tryd.func139 rfl (nb rfl) fun w0 hM => ?_
 refine CW.sr <| RW.st (Ex.assign (.slice none 0 0) rfl) rfl <| RW.nil <| CW.sr <| RW.st (Ex.move (.int .i64 x0) rfl) rfl ?_
 obtain ⟨hg7, hm⟩ := hm
 obtain ⟨hg8, hm⟩ := hm
 refine RW.makeD (α := Sec) (x0 := sec0) hM st61 tz71 [.int .u8 (0), .int .u8 (0), .int .u8 (0), .int .u8 (0), .int .u8 (0), .int .u8 (0), .int .u8 (0), .int .u8 (0)] rfl (fun _ => rfl) rfl rfl hg7 hg8 rfl rfl ?_; intro b1 n2 s4 w hd5 hn6 hM
 refine RW.st (Ex.assign (.slice (some ⟨b1, 0, none⟩) n2 n2) rfl) rfl <| RW.nil <| CW.ret ?_
 refine end_tmp (.inl rfl) rfl (.slice (some ⟨b1, 0, none⟩) n2 n2) rfl ?_
 exact ⟨_, _, hM, (List.replicate x0.toNat sec0), hm, (some ⟨b1, 0, none⟩), n2, n2, s4, rfl, hd5, hn6, rfl⟩
theorem ref23_SameInts_lift {H : Hp} (x0 : List Int) (x1 : List Int) {A1 : Option Addr} {n1 c1 : Nat} {s1 : List Value} (hF1 : Fz (α := Int) H A1 n1 c1 x0 s1) {A2 : Option Addr} {n2 c2 : Nat} {s2 : List Value} (hF2 : Fz (α := Int) H A2 n2 c2 x1 s2) {Φ : Bool → Prop} (hm : ref23_SameInts_W x0 x1 Φ) : RetP Tryd.prog 58 #[.slice A1 n1 c1, .slice A2 n2 c2] H (fun _ v L => ∃ y, Φ y ∧ v = .bool y ∧ L = []) := by
 refine RetP.of_code Tryd.func58 rfl (nb rfl) fun w0 hM => ?_
 refine CW.sr <| RW.st (Ex.assign (.bool false) rfl) rfl <| RW.nil <| CW.seq <| CW.sr <| RW.st (Ex.move (.slice A1 n1 c1) rfl) rfl <| RW.st (Ex.lenN st40.1 rfl hF1.hn) rfl <| RW.st (Ex.move (.slice A2 n2 c2) rfl) rfl <| RW.st (Ex.lenN st40.1 rfl hF2.hn) rfl <| RW.st (Ex.neq rfl rfl) rfl <| RW.nil ?_
 refine CW.cond_dec (p := (x0.length : Int) ≠ (x1.length : Int)) rfl (fun hc3 => ?_) (fun hc3 => ?_)
 ·
  replace hm := And.left hm hc3
  refine CW.sr <| RW.st (Ex.assign (.bool false) rfl) rfl <| RW.nil <| CW.ret ?_
  refine tqr ?_
  refine end_tmp (.inl rfl) rfl (.bool false) rfl ?_
  exact ⟨_, _, hM, false, hm, rfl, rfl⟩
 ·
  replace hm := And.right hm hc3
  refine CW.skip <| CW.seq <| CW.sr <| RW.st (Ex.assign (.int .i64 0) rfl) rfl <| RW.nil <| CW.block ?_
  obtain ⟨m16, hm⟩ := hm
  skip
  refine CW.loop (β := Nat) (fun n σ w => ∃ (v6 : Int), ∃ Hk4, H.le Hk4 ∧ (∃ τ, σ = sl [(0, .slice A1 n1 c1), (1, .slice A2 n2 c2), (5, .int .i64 v6)] τ) ∧ Mem w0 H w Hk4 [] ∧ LoopN (ref23_SameInts_L1 x0 x1 Φ) n (v6)) (fun n => n) m16 ⟨0, H, (Hp.le.refl _), slc ⟨rfl, rfl, rfl, trivial⟩, hM, hm⟩ ?_
  rintro k7 _ w ⟨v6, Hk4, hle5, ⟨τ, rfl⟩, hM, hm⟩
  obtain _ | k7 := k7
  · exact hm.elim
  replace hm : (ref23_SameInts_L1 x0 x1 Φ) (v6) (LoopN (ref23_SameInts_L1 x0 x1 Φ) k7) := hm
  generalize hrec8 : LoopN (ref23_SameInts_L1 x0 x1 Φ) k7 = rec1 at hm
  refine CW.seq <| CW.sr <| RW.st (Ex.move (.int .i64 v6) rfl) rfl <| RW.st (Ex.move (.slice A1 n1 c1) rfl) rfl <| RW.st (Ex.lenN st40.1 rfl hF1.hn) rfl <| RW.st (Ex.lss rfl rfl) rfl <| RW.nil ?_
  refine CW.cond_dec (p := v6 < (x0.length : Int)) rfl (fun hc9 => ?_) (fun hc9 => ?_)
  ·
   replace hm := And.left hm hc9
   refine CW.skip <| CW.seq <| CW.block <| CW.seq ?_
   obtain ⟨hg10, hm⟩ := hm
   obtain ⟨_, rfl, hx11⟩ := DtL.getI (α := Int) (hF1.mono hle5).dat hg10
   obtain ⟨hg12, hm⟩ := hm
   obtain ⟨_, rfl, hx13⟩ := DtL.getI (α := Int) (hF2.mono hle5).dat hg12
   refine CW.drawE 9 [.slice A1 n1 c1, .int .i64 v6, elp A1 (v6.toNat * 1 + 0), .int .i64 ((ix x0 v6)), .slice A2 n2 c2, .int .i64 v6, elp A2 (v6.toNat * 1 + 0), .int .i64 ((ix x1 v6)), .bool (decide ((ix x0 v6) ≠ (ix x1 v6)))]
    [[(0, none)], [(5, none)], [(17, some 0), (18, some 1)], [(19, some 2)], [(1, none)], [(5, none)], [(21, some 4), (22, some 5)], [(23, some 6)], [(20, some 3), (24, some 7)]] [(0, none), (1, none), (5, none), (25, some 8)] (by kernel_rfl) hM (by kernel_rfl) ⟨?_, ?_, ?_, ?_, ?_, ?_, ?_, ?_, ?_, trivial⟩ ?_
   · exact One.ex (fun H' τ w hled hM => Ex.move (.slice A1 n1 c1) rfl) rfl (fun _ => rfl) rfl
   · exact One.ex (fun H' τ w hled hM => Ex.move (.int .i64 v6) rfl) rfl (fun _ => rfl) rfl
   · exact One.ex (fun H' τ w hled hM => Ex.index st40 rfl rfl v6.toNat (hF1.ne hg10) hg10.nat (hF1.lt hg10)) rfl (fun _ => rfl) rfl
   · exact One.ex (fun H' τ w hled hM => Ex.loadE hM (hle5.trans hled) hF1.rdc to3 rfl (hx11 0 _ rfl)) rfl (fun _ => rfl) rfl
   · exact One.ex (fun H' τ w hled hM => Ex.move (.slice A2 n2 c2) rfl) rfl (fun _ => rfl) rfl
   · exact One.ex (fun H' τ w hled hM => Ex.move (.int .i64 v6) rfl) rfl (fun _ => rfl) rfl
   · exact One.ex (fun H' τ w hled hM => Ex.index st40 rfl rfl v6.toNat (hF2.ne hg12) hg12.nat (hF2.lt hg12)) rfl (fun _ => rfl) rfl
   · exact One.ex (fun H' τ w hled hM => Ex.loadE hM (hle5.trans hled) hF2.rdc to3 rfl (hx13 0 _ rfl)) rfl (fun _ => rfl) rfl
   · exact One.ex (fun H' τ w hled hM => Ex.neq rfl rfl) rfl (fun _ => rfl) rfl
   intro τ w hM
   change RW _ _ _ _ _ _ _ _ (sl [(0, .slice A1 n1 c1), (1, .slice A2 n2 c2), (5, .int .i64 v6), (25, .bool (decide ((ix x0 v6) ≠ (ix x1 v6))))] τ) _
   refine RW.nil ?_
   refine CW.cond_dec (p := (ix x0 v6) ≠ (ix x1 v6)) rfl (fun hc14 => ?_) (fun hc14 => ?_)
   ·
    replace hm := And.left hm hc14
    refine CW.sr <| RW.st (Ex.assign (.bool false) rfl) rfl <| RW.nil <| CW.ret ?_
    refine bqr (tqr (tqr (bqr (tqr ?_))))
    refine end_tmp (.inl rfl) rfl (.bool false) rfl ?_
    exact ⟨_, _, hM, false, hm, rfl, rfl⟩
   ·
    replace hm := And.right hm hc14
    refine CW.skip <| CW.region <| RW.st (Ex.move (.int .i64 v6) rfl) rfl ?_
    obtain ⟨hg15, hm⟩ := hm
    refine RW.st (Ex.add rfl rfl hg15.1 hg15.2) rfl <| RW.st (Ex.assign (.int .i64 (v6 + 1)) rfl) rfl <| RW.nil ?_
    exact And.intro rfl ⟨k7, ⟨v6 + 1, Hk4, hle5.trans (Hp.le.refl _), slc ⟨rfl, rfl, rfl, trivial⟩, hM, (by rw [hrec8]; exact hm)⟩, Nat.lt_succ_self _⟩
  ·
   replace hm := And.right hm hc9
   refine CW.exit ?_
   refine CW.sr <| RW.st (Ex.assign (.bool true) rfl) rfl <| RW.nil <| CW.ret ?_
   refine end_tmp (.inl rfl) rfl (.bool true) rfl ?_
   exact ⟨_, _, hM, true, hm, rfl, rfl⟩
theorem ref43_FewBitmaps_lift {H : Hp} (x0 : List api_Bitmap) {A1 : Option Addr} {n1 c1 : Nat} {s1 : List Value} (hF1 : Fz (α := api_Bitmap) H A1 n1 c1 x0 s1) {Φ : Bool → Prop} (hm : ref43_FewBitmaps_W x0 Φ) : RetP Tryd.prog 77 #[.slice A1 n1 c1] H (fun _ v L => ∃ y, Φ y ∧ v = .bool y ∧ L = []) := by
 refine RetP.of_code Tryd.func77 rfl (nb rfl) fun w0 hM => ?_
 refine CW.sr <| RW.st (Ex.assign (.bool false) rfl) rfl <| RW.nil <| CW.seq <| CW.sr <| RW.st (Ex.assign (.int .i64 0) rfl) rfl <| RW.nil <| CW.block ?_
 obtain ⟨m17, hm⟩ := hm
 skip
 refine CW.loop (β := Nat) (fun n σ w => ∃ (v4 : Int), ∃ Hk2, H.le Hk2 ∧ (∃ τ, σ = sl [(0, .slice A1 n1 c1), (3, .int .i64 v4)] τ) ∧ Mem w0 H w Hk2 [] ∧ LoopN (ref43_FewBitmaps_L1 x0 Φ) n (v4)) (fun n => n) m17 ⟨0, H, (Hp.le.refl _), slc ⟨rfl, rfl, trivial⟩, hM, hm⟩ ?_
 rintro k5 _ w ⟨v4, Hk2, hle3, ⟨τ, rfl⟩, hM, hm⟩
 obtain _ | k5 := k5
 · exact hm.elim
 replace hm : (ref43_FewBitmaps_L1 x0 Φ) (v4) (LoopN (ref43_FewBitmaps_L1 x0 Φ) k5) := hm
 generalize hrec6 : LoopN (ref43_FewBitmaps_L1 x0 Φ) k5 = rec1 at hm
 refine CW.seq ?_
 skip
 refine CW.cut (fun D σ w => D = [] ∧ (∃ τ, σ = sl [(0, .slice A1 n1 c1), (3, .int .i64 v4), (11, .bool (decide ((v4 < (x0.length : Int)) ∧ (v4 < 20))))] τ) ∧ Mem w0 H w Hk2 []) ?_ ?_
 ·
  skip
  refine CW.region <| RW.st (Ex.move (.int .i64 v4) rfl) rfl <| RW.st (Ex.move (.slice A1 n1 c1) rfl) rfl <| RW.st (Ex.lenN st23.1 rfl hF1.hn) rfl <| RW.st (Ex.lss rfl rfl) rfl <| RW.st (Ex.move (.bool (decide (v4 < (x0.length : Int)))) rfl) rfl ?_
  refine RW.split 8 (p := v4 < (x0.length : Int)) rfl (fun hc7 => ?_) (fun hc7 => ?_)
  ·
   skip
   refine RW.st (Ex.move (.int .i64 v4) rfl) rfl <| RW.st (Ex.lss rfl rfl) rfl <| RW.st (Ex.pickT (.bool (decide (v4 < 20))) rfl rfl) rfl <| RW.nil ?_
   exact And.intro rfl (And.intro (slc ⟨rfl, rfl, (congrArg Value.bool (decide_eq_decide.2 (imAnd hc7 Iff.rfl))), trivial⟩) hM)
  ·
   skip
   refine RW.pp <| RW.st (Ex.pickF (.bool false) rfl rfl) rfl <| RW.nil ?_
   exact And.intro rfl (And.intro (slc ⟨rfl, rfl, (congrArg Value.bool (decide_eq_false (fun q => hc7 q.1)).symm), trivial⟩) hM)
 rintro _ _ w ⟨rfl, ⟨τ, rfl⟩, hM⟩
 refine CW.cond_dec (p := (v4 < (x0.length : Int)) ∧ (v4 < 20)) rfl (fun hc8 => ?_) (fun hc8 => ?_)
 ·
  replace hm := And.left hm hc8
  refine CW.skip <| CW.seq <| CW.block ?_
  obtain ⟨hG16, hm⟩ := hm
  refine CW.cut (fun D σ w => D = [] ∧ (∃ τ, σ = sl [(0, .slice A1 n1 c1), (3, .int .i64 v4), (36, .bool (decide (((200 < ((ix x0 v4).Size)) ∧ ((((ix x0 v4).Size) ≤ 4096) ∨ (100 < (((ix x0 v4).Words).length : Int)))) ∨ (¬ (200 < ((ix x0 v4).Size)) ∧ (100 < (((ix x0 v4).Words).length : Int))))))] τ) ∧ Mem w0 H w Hk2 []) ?_ ?_
  ·
   replace hm := hG16
   refine CW.region <| RW.st (Ex.move (.slice A1 n1 c1) rfl) rfl <| RW.st (Ex.move (.int .i64 v4) rfl) rfl ?_
   have hg9 := hm
   refine RW.st (Ex.index st23 rfl rfl v4.toNat (hF1.ne hg9) hg9.nat (hF1.lt hg9)) rfl <| RW.st (Ex.fieldE fa65_0 (hF1.ne hg9) rfl) rfl ?_
   obtain ⟨_, ⟨A10, n10, c10, s10, rfl, hF10⟩, hx11⟩ := DtL.getI (α := api_Bitmap) (hF1.mono hle3).dat hg9
   refine RW.st (Ex.loadE hM hle3 hF1.rdc to3 rfl (hx11 0 _ rfl)) rfl <| RW.st (Ex.gtr rfl rfl) rfl <| RW.st (Ex.move (.bool (decide (200 < ((ix x0 v4).Size)))) rfl) rfl ?_
   refine RW.split 20 (p := 200 < ((ix x0 v4).Size)) rfl (fun hc12 => ?_) (fun hc12 => ?_)
   ·
    skip
    refine RW.st (Ex.move (.slice A1 n1 c1) rfl) rfl <| RW.st (Ex.move (.int .i64 v4) rfl) rfl <| RW.st (Ex.index st23 rfl rfl v4.toNat (hF1.ne hg9) hg9.nat (hF1.lt hg9)) rfl <| RW.st (Ex.fieldE fa65_0 (hF1.ne hg9) rfl) rfl <| RW.st (Ex.loadE hM hle3 hF1.rdc to3 rfl (hx11 0 _ rfl)) rfl <| RW.st (Ex.leq rfl rfl) rfl <| RW.st (Ex.pickT (.bool (decide (((ix x0 v4).Size) ≤ 4096))) rfl rfl) rfl <| RW.st (Ex.move (.bool (decide (((ix x0 v4).Size) ≤ 4096))) rfl) rfl ?_
    refine RW.split 28 (p := ((ix x0 v4).Size) ≤ 4096) rfl (fun hc13 => ?_) (fun hc13 => ?_)
    ·
     skip
     refine RW.pp <| RW.pp <| RW.pp <| RW.pass rfl rfl <| RW.st (Ex.pickT (.bool true) rfl rfl) rfl <| RW.nil ?_
     exact And.intro rfl (And.intro (slc ⟨rfl, rfl, (congrArg Value.bool (decide_eq_true (.inl ⟨hc12, (.inl hc13)⟩)).symm), trivial⟩) hM)
    ·
     skip
     refine RW.st (Ex.move (.slice A1 n1 c1) rfl) rfl <| RW.st (Ex.move (.int .i64 v4) rfl) rfl <| RW.st (Ex.index st23 rfl rfl v4.toNat (hF1.ne hg9) hg9.nat (hF1.lt hg9)) rfl <| RW.st (Ex.fieldE fa65_1 (hF1.ne hg9) rfl) rfl <| RW.st (Ex.loadE hM hle3 hF1.rdc to63 rfl (hx11 1 _ rfl)) rfl <| RW.st (Ex.lenN st63.1 rfl hF10.hn) rfl <| RW.st (Ex.gtr rfl rfl) rfl <| RW.st (Ex.pickF (.bool (decide (100 < (((ix x0 v4).Words).length : Int)))) rfl rfl) rfl <| RW.nil ?_
     exact And.intro rfl (And.intro (slc ⟨rfl, rfl, (congrArg Value.bool (decide_eq_decide.2 (imL hc12 (imOr hc13 Iff.rfl)))), trivial⟩) hM)
   ·
    skip
    refine RW.pp <| RW.pp <| RW.pp <| RW.st (Ex.pickF (.bool false) rfl rfl) rfl <| RW.st (Ex.move (.bool false) rfl) rfl <| RW.st (Ex.move (.slice A1 n1 c1) rfl) rfl <| RW.st (Ex.move (.int .i64 v4) rfl) rfl <| RW.st (Ex.index st23 rfl rfl v4.toNat (hF1.ne hg9) hg9.nat (hF1.lt hg9)) rfl <| RW.st (Ex.fieldE fa65_1 (hF1.ne hg9) rfl) rfl <| RW.st (Ex.loadE hM hle3 hF1.rdc to63 rfl (hx11 1 _ rfl)) rfl <| RW.st (Ex.lenN st63.1 rfl hF10.hn) rfl ?_
    refine RW.st (Ex.gtr rfl rfl) rfl <| RW.st (Ex.pickF (.bool (decide (100 < (((ix x0 v4).Words).length : Int)))) rfl rfl) rfl <| RW.nil ?_
    exact And.intro rfl (And.intro (slc ⟨rfl, rfl, (congrArg Value.bool (decide_eq_decide.2 (imR hc12 Iff.rfl))), trivial⟩) hM)
  rintro _ _ w ⟨rfl, ⟨τ, rfl⟩, hM⟩
  refine CW.cond_dec (p := ((200 < ((ix x0 v4).Size)) ∧ ((((ix x0 v4).Size) ≤ 4096) ∨ (100 < (((ix x0 v4).Words).length : Int)))) ∨ (¬ (200 < ((ix x0 v4).Size)) ∧ (100 < (((ix x0 v4).Words).length : Int)))) rfl (fun hc14 => ?_) (fun hc14 => ?_)
  ·
   replace hm := And.left hm hc14
   refine CW.sr <| RW.st (Ex.assign (.bool false) rfl) rfl <| RW.nil <| CW.ret ?_
   refine bqr (tqr (tqr (bqr (tqr ?_))))
   refine end_tmp (.inl rfl) rfl (.bool false) rfl ?_
   exact ⟨_, _, hM, false, hm, rfl, rfl⟩
  ·
   replace hm := And.right hm hc14
   refine CW.skip <| CW.region <| RW.st (Ex.move (.int .i64 v4) rfl) rfl ?_
   obtain ⟨hg15, hm⟩ := hm
   refine RW.st (Ex.add rfl rfl hg15.1 hg15.2) rfl <| RW.st (Ex.assign (.int .i64 (v4 + 1)) rfl) rfl <| RW.nil ?_
   exact And.intro rfl ⟨k5, ⟨v4 + 1, Hk2, hle3.trans (Hp.le.refl _), slc ⟨rfl, rfl, trivial⟩, hM, (by rw [hrec6]; exact hm)⟩, Nat.lt_succ_self _⟩
 ·
  replace hm := And.right hm hc8
  refine CW.exit ?_
  refine CW.sr <| RW.st (Ex.move (.slice A1 n1 c1) rfl) rfl <| RW.st (Ex.lenN st23.1 rfl hF1.hn) rfl <| RW.st (Ex.leq rfl rfl) rfl <| RW.st (Ex.assign (.bool (decide ((x0.length : Int) ≤ 20))) rfl) rfl <| RW.nil <| CW.ret ?_
  refine end_tmp (.inl rfl) rfl (.bool (decide ((x0.length : Int) ≤ 20))) rfl ?_
  exact ⟨_, _, hM, decide ((x0.length : Int) ≤ 20), hm, rfl, rfl⟩
theorem tracker_between_lift {H : Hp} (x0 : Int) (x1 : Int) (x2 : Int) {Φ : Bool → Prop} (hm : tracker_between_W x0 x1 x2 Φ) : RetP Tryd.prog 121 #[.int .i64 x0, .int .i64 x1, .int .i64 x2] H (fun _ v L => ∃ y, Φ y ∧ v = .bool y ∧ L = []) := by
 refine RetP.of_code Tryd.func121 rfl (nb rfl) fun w0 hM => ?_
 refine CW.sr <| RW.st (Ex.assign (.bool false) rfl) rfl <| RW.nil ?_
 skip
 refine CW.cut (fun D σ w => D = [] ∧ (∃ τ, σ = sl [(6, .bool (decide ((x1 ≤ x0) ∧ (x0 ≤ x2))))] τ) ∧ Mem w0 H w H []) ?_ ?_
 ·
  skip
  refine CW.region <| RW.st (Ex.move (.int .i64 x0) rfl) rfl <| RW.st (Ex.move (.int .i64 x1) rfl) rfl <| RW.st (Ex.geq rfl rfl) rfl <| RW.st (Ex.move (.bool (decide (x1 ≤ x0))) rfl) rfl ?_
  refine RW.split 10 (p := x1 ≤ x0) rfl (fun hc1 => ?_) (fun hc1 => ?_)
  ·
   skip
   refine RW.st (Ex.move (.int .i64 x0) rfl) rfl <| RW.st (Ex.move (.int .i64 x2) rfl) rfl <| RW.st (Ex.leq rfl rfl) rfl <| RW.st (Ex.pickT (.bool (decide (x0 ≤ x2))) rfl rfl) rfl <| RW.st (Ex.assign (.bool (decide (x0 ≤ x2))) rfl) rfl <| RW.nil ?_
   exact And.intro rfl (And.intro (slc ⟨(congrArg Value.bool (decide_eq_decide.2 (imAnd hc1 Iff.rfl))), trivial⟩) hM)
  ·
   skip
   refine RW.pp <| RW.pass rfl rfl <| RW.st (Ex.pickF (.bool false) rfl rfl) rfl <| RW.st (Ex.assign (.bool false) rfl) rfl <| RW.nil ?_
   exact And.intro rfl (And.intro (slc ⟨(congrArg Value.bool (decide_eq_false (fun q => hc1 q.1)).symm), trivial⟩) hM)
 rintro _ _ w ⟨rfl, ⟨τ, rfl⟩, hM⟩
 refine CW.ret ?_
 refine end_tmp (.inl rfl) rfl (.bool (decide ((x1 ≤ x0) ∧ (x0 ≤ x2)))) rfl ?_
 exact ⟨_, _, hM, decide ((x1 ≤ x0) ∧ (x0 ≤ x2)), hm, rfl, rfl⟩
theorem reverse_Turn_1_lift {H : Hp} (x0 : api_Peer) (y800 : Int) {A1 : Option Addr} {n1 c1 : Nat} {s1 : List Value} (_ : Fz (α := api_Bitmap) H A1 n1 c1 x0.Dirty s1) {b800 : Nat} (hb800 : H b800 = some (.cells [.int .i64 (y800)].toArray 3 (0, 0))) {Φ : Bool → Prop} (hm : reverse_Turn_1_W x0 y800 Φ) : RetP Tryd.prog 80 #[.agg #[.int .i64 x0.Site, .int .i64 x0.Common, .slice A1 n1 c1], .pointer (some ⟨b800, 0, none⟩)] H (fun _ v L => ∃ y, Φ y ∧ v = .bool y ∧ L = []) := by
 refine RetP.of_code Tryd.func80 rfl (nb rfl) fun w0 hM => ?_
 refine CW.sr ?_
 refine RW.box hM (.agg #[.int .i64 x0.Site, .int .i64 x0.Common, .slice A1 n1 c1]) [.int .i64 x0.Site, .int .i64 x0.Common, .slice A1 n1 c1] rfl rfl rfl rfl ?_; intro b2 w hM
 refine RW.st (Ex.assign (.bool false) rfl) rfl <| RW.nil <| CW.sr <| RW.st (Ex.fieldAddr fa142_0 rfl) rfl <| RW.st (Ex.load1 hM 0 to3 rfl rfl rfl) rfl <| RW.st (Ex.loadH hM (Hp.le.refl _) hb800 to3 rfl rfl) rfl <| RW.st (Ex.eql rfl rfl) rfl <| RW.st (Ex.assign (.bool (decide (x0.Site = y800))) rfl) rfl <| RW.nil <| CW.ret ?_
 refine end_tmp (.inl rfl) rfl (.bool (decide (x0.Site = y800))) rfl ?_
 exact ⟨_, _, (hM.pick [] rfl rfl), decide (x0.Site = y800), hm, rfl, rfl⟩
theorem slices_Clone_uint64_uint64_lift {H : Hp} (x0 : List (BitVec 64)) {A1 : Option Addr} {n1 c1 : Nat} {s1 : List Value} (hF1 : Fz (α := BitVec 64) H A1 n1 c1 x0 s1) {Φ : List (BitVec 64) → Prop} (hm : slices_Clone_uint64_uint64_W x0 Φ) : RetP Tryd.prog 85 #[.slice A1 n1 c1] H (fun H' v L => ∃ y, Φ y ∧ ∃ A12, ∃ n12, ∃ c12, ∃ s12, v = .slice A12 n12 c12 ∧ DtL (α := BitVec 64) H' s12 y ∧ n12 = y.length ∧ L = [.row (.slice A12 n12 c12) 151 1 n12 s12]) := by
 refine RetP.of_code Tryd.func85 rfl (nb rfl) fun w0 hM => ?_
 refine CW.sr <| RW.st (Ex.assign (.slice none 0 0) rfl) rfl <| RW.nil <| CW.seq <| CW.sr <| RW.st (Ex.move (.slice A1 n1 c1) rfl) rfl <| RW.st (Ex.eqlNil st63.1 rfl rfl) rfl <| RW.nil ?_
 refine CW.cond_dec (p := A1 = none) rfl (fun hc2 => ?_) (fun hc2 => ?_)
 ·
  replace hm := And.left hm (hF1.nilc hc2)
  refine CW.sr <| RW.st (Ex.assign (.slice none 0 0) rfl) rfl <| RW.nil <| CW.ret ?_
  refine tqr ?_
  refine end_tmp (.inl rfl) rfl (.slice none 0 0) rfl ?_
  replace hM := hM.nilRow 151 1
  exact ⟨_, _, hM, ([] : List (BitVec 64)), hm, none, 0, 0, [], rfl, (DtL.nil : DtL _ [] ([] : List (BitVec 64))), rfl, rfl⟩
 ·
  replace hm := And.right hm
  refine CW.skip <| CW.sr ?_
  refine RW.buildSlice hM st63 tz151 [] [] (by decide) rfl rfl rfl (by decide) rfl rfl ?_; intro b3 w hM
  have hd4 : DtL H [] ([] : List (BitVec 64)) := DtL.nil
  refine RW.st (Ex.move (.slice A1 n1 c1) rfl) rfl ?_
  obtain ⟨hg11, hm⟩ := hm
  refine RW.appendF (α := BitVec 64) (xs := ([] : List (BitVec 64))) (ys := x0) hM 0 st63 rfl rfl hd4 rfl rfl (Hp.le.refl _) hF1 hg11 rfl rfl ?_; intro A5 n6 c7 s8 w hd9 hn10 hM
  refine RW.st (Ex.assign (.slice A5 n6 c7) rfl) rfl <| RW.nil <| CW.ret ?_
  refine end_tmp (.inl rfl) rfl (.slice A5 n6 c7) rfl ?_
  exact ⟨_, _, hM, (([] : List (BitVec 64)) ++ x0), hm, A5, n6, c7, s8, rfl, hd9, hn10, rfl⟩
theorem ref02_Same_lift {H : Hp} (x0 : api_Bitmap) (x1 : api_Bitmap) {A1 : Option Addr} {n1 c1 : Nat} {s1 : List Value} (hF1 : Fz (α := BitVec 64) H A1 n1 c1 x0.Words s1) {A2 : Option Addr} {n2 c2 : Nat} {s2 : List Value} (hF2 : Fz (α := BitVec 64) H A2 n2 c2 x1.Words s2) {Φ : Bool → Prop} (hm : ref02_Same_W x0 x1 Φ) : RetP Tryd.prog 130 #[.agg #[.int .i64 x0.Size, .slice A1 n1 c1], .agg #[.int .i64 x1.Size, .slice A2 n2 c2]] H (fun _ v L => ∃ y, Φ y ∧ v = .bool y ∧ L = []) := by
 refine RetP.of_code Tryd.func130 rfl (nb rfl) fun w0 hM => ?_
 refine CW.sr ?_
 refine RW.box hM (.agg #[.int .i64 x0.Size, .slice A1 n1 c1]) [.int .i64 x0.Size, .slice A1 n1 c1] rfl rfl rfl rfl ?_; intro b3 w hM
 refine RW.box hM (.agg #[.int .i64 x1.Size, .slice A2 n2 c2]) [.int .i64 x1.Size, .slice A2 n2 c2] rfl rfl rfl rfl ?_; intro b4 w hM
 refine RW.st (Ex.assign (.bool false) rfl) rfl <| RW.nil <| CW.seq ?_
 skip
 refine CW.cut (fun D σ w => D = [] ∧ (∃ τ, σ = sl [(2, .pointer (some ⟨b3, 0, none⟩)), (3, .pointer (some ⟨b4, 0, none⟩)), (19, .bool (decide ((x0.Size ≠ x1.Size) ∨ ((x0.Words.length : Int) ≠ (x1.Words.length : Int)))))] τ) ∧ Mem w0 H w H [.box b4 65 [.int .i64 x1.Size, .slice A2 n2 c2], .box b3 65 [.int .i64 x0.Size, .slice A1 n1 c1]]) ?_ ?_
 ·
  skip
  refine CW.region <| RW.st (Ex.fieldAddr fa65_0 rfl) rfl <| RW.st (Ex.load1 hM 1 to3 rfl rfl rfl) rfl <| RW.st (Ex.fieldAddr fa65_0 rfl) rfl <| RW.st (Ex.load1 hM 0 to3 rfl rfl rfl) rfl <| RW.st (Ex.neq rfl rfl) rfl <| RW.st (Ex.move (.bool (decide (x0.Size ≠ x1.Size))) rfl) rfl ?_
  refine RW.split 11 (p := x0.Size ≠ x1.Size) rfl (fun hc5 => ?_) (fun hc5 => ?_)
  ·
   skip
   refine RW.pp <| RW.pp <| RW.pp <| RW.pass rfl rfl <| RW.st (Ex.pickT (.bool true) rfl rfl) rfl <| RW.nil ?_
   exact And.intro rfl (And.intro (slc ⟨rfl, rfl, (congrArg Value.bool (decide_eq_true (.inl hc5)).symm), trivial⟩) hM)
  ·
   skip
   refine RW.st (Ex.fieldAddr fa65_1 rfl) rfl <| RW.st (Ex.load1 hM 1 to63 rfl rfl rfl) rfl <| RW.st (Ex.lenN st63.1 rfl hF1.hn) rfl <| RW.st (Ex.fieldAddr fa65_1 rfl) rfl <| RW.st (Ex.load1 hM 0 to63 rfl rfl rfl) rfl <| RW.st (Ex.lenN st63.1 rfl hF2.hn) rfl <| RW.st (Ex.neq rfl rfl) rfl <| RW.st (Ex.pickF (.bool (decide ((x0.Words.length : Int) ≠ (x1.Words.length : Int)))) rfl rfl) rfl <| RW.nil ?_
   exact And.intro rfl (And.intro (slc ⟨rfl, rfl, (congrArg Value.bool (decide_eq_decide.2 (imOr hc5 Iff.rfl))), trivial⟩) hM)
 rintro _ _ w ⟨rfl, ⟨τ, rfl⟩, hM⟩
 refine CW.cond_dec (p := (x0.Size ≠ x1.Size) ∨ ((x0.Words.length : Int) ≠ (x1.Words.length : Int))) rfl (fun hc6 => ?_) (fun hc6 => ?_)
 ·
  replace hm := And.left hm hc6
  refine CW.sr <| RW.st (Ex.assign (.bool false) rfl) rfl <| RW.nil <| CW.ret ?_
  refine tqr ?_
  refine end_tmp (.inl rfl) rfl (.bool false) rfl ?_
  exact ⟨_, _, (hM.pick [] rfl rfl), false, hm, rfl, rfl⟩
 ·
  replace hm := And.right hm hc6
  refine CW.skip <| CW.seq <| CW.sr <| RW.st (Ex.assign (.int .i64 0) rfl) rfl <| RW.nil <| CW.block ?_
  obtain ⟨m19, hm⟩ := hm
  skip
  refine CW.loop (β := Nat) (fun n σ w => ∃ (v9 : Int), ∃ Hk7, H.le Hk7 ∧ (∃ τ, σ = sl [(2, .pointer (some ⟨b3, 0, none⟩)), (3, .pointer (some ⟨b4, 0, none⟩)), (5, .int .i64 v9)] τ) ∧ Mem w0 H w Hk7 [.box b3 65 [.int .i64 x0.Size, .slice A1 n1 c1], .box b4 65 [.int .i64 x1.Size, .slice A2 n2 c2]] ∧ LoopN (ref02_Same_L1 x0 x1 Φ) n (v9)) (fun n => n) m19 ⟨0, H, (Hp.le.refl _), slc ⟨rfl, rfl, rfl, trivial⟩, (hM.pick [1, 0] rfl rfl), hm⟩ ?_
  rintro k10 _ w ⟨v9, Hk7, hle8, ⟨τ, rfl⟩, hM, hm⟩
  obtain _ | k10 := k10
  · exact hm.elim
  replace hm : (ref02_Same_L1 x0 x1 Φ) (v9) (LoopN (ref02_Same_L1 x0 x1 Φ) k10) := hm
  generalize hrec11 : LoopN (ref02_Same_L1 x0 x1 Φ) k10 = rec1 at hm
  refine CW.seq <| CW.sr <| RW.st (Ex.move (.int .i64 v9) rfl) rfl <| RW.st (Ex.fieldAddr fa65_1 rfl) rfl <| RW.st (Ex.load1 hM 0 to63 rfl rfl rfl) rfl <| RW.st (Ex.lenN st63.1 rfl hF1.hn) rfl <| RW.st (Ex.lss rfl rfl) rfl <| RW.nil ?_
  refine CW.cond_dec (p := v9 < (x0.Words.length : Int)) rfl (fun hc12 => ?_) (fun hc12 => ?_)
  ·
   replace hm := And.left hm hc12
   refine CW.skip <| CW.seq <| CW.block <| CW.seq ?_
   obtain ⟨hg13, hm⟩ := hm
   obtain ⟨_, rfl, hx14⟩ := DtL.getI (α := BitVec 64) (hF1.mono hle8).dat hg13
   obtain ⟨hg15, hm⟩ := hm
   obtain ⟨_, rfl, hx16⟩ := DtL.getI (α := BitVec 64) (hF2.mono hle8).dat hg15
   refine CW.drawE 11 [.pointer (some ⟨b3, 1, none⟩), .slice A1 n1 c1, .int .i64 v9, elp A1 (v9.toNat * 1 + 0), u64 ((ix x0.Words v9)), .pointer (some ⟨b4, 1, none⟩), .slice A2 n2 c2, .int .i64 v9, elp A2 (v9.toNat * 1 + 0), u64 ((ix x1.Words v9)), .bool (decide ((ix x0.Words v9) ≠ (ix x1.Words v9)))]
    [[(2, none)], [(27, some 0)], [(5, none)], [(28, some 1), (29, some 2)], [(30, some 3)], [(3, none)], [(32, some 5)], [(5, none)], [(33, some 6), (34, some 7)], [(35, some 8)], [(31, some 4), (36, some 9)]] [(2, none), (3, none), (5, none), (37, some 10)] (by kernel_rfl) hM (by kernel_rfl) ⟨?_, ?_, ?_, ?_, ?_, ?_, ?_, ?_, ?_, ?_, ?_, trivial⟩ ?_
   · exact One.ex (fun H' τ w hled hM => Ex.fieldAddr fa65_1 rfl) rfl (fun _ => rfl) rfl
   · exact One.ex (fun H' τ w hled hM => Ex.load1 hM 0 to63 rfl rfl rfl) rfl (fun _ => rfl) rfl
   · exact One.ex (fun H' τ w hled hM => Ex.move (.int .i64 v9) rfl) rfl (fun _ => rfl) rfl
   · exact One.ex (fun H' τ w hled hM => Ex.index st63 rfl rfl v9.toNat (hF1.ne hg13) hg13.nat (hF1.lt hg13)) rfl (fun _ => rfl) rfl
   · exact One.ex (fun H' τ w hled hM => Ex.loadE hM (hle8.trans hled) hF1.rdc to151 rfl (hx14 0 _ rfl)) rfl (fun _ => rfl) rfl
   · exact One.ex (fun H' τ w hled hM => Ex.fieldAddr fa65_1 rfl) rfl (fun _ => rfl) rfl
   · exact One.ex (fun H' τ w hled hM => Ex.load1 hM 1 to63 rfl rfl rfl) rfl (fun _ => rfl) rfl
   · exact One.ex (fun H' τ w hled hM => Ex.move (.int .i64 v9) rfl) rfl (fun _ => rfl) rfl
   · exact One.ex (fun H' τ w hled hM => Ex.index st63 rfl rfl v9.toNat (hF2.ne hg15) hg15.nat (hF2.lt hg15)) rfl (fun _ => rfl) rfl
   · exact One.ex (fun H' τ w hled hM => Ex.loadE hM (hle8.trans hled) hF2.rdc to151 rfl (hx16 0 _ rfl)) rfl (fun _ => rfl) rfl
   · exact One.ex (fun H' τ w hled hM => Ex.neq64 (a := (ix x0.Words v9)) (b := (ix x1.Words v9)) rfl rfl) rfl (fun _ => rfl) rfl
   intro τ w hM
   change RW _ _ _ _ _ _ _ _ (sl [(2, .pointer (some ⟨b3, 0, none⟩)), (3, .pointer (some ⟨b4, 0, none⟩)), (5, .int .i64 v9), (37, .bool (decide ((ix x0.Words v9) ≠ (ix x1.Words v9))))] τ) _
   refine RW.nil ?_
   refine CW.cond_dec (p := (ix x0.Words v9) ≠ (ix x1.Words v9)) rfl (fun hc17 => ?_) (fun hc17 => ?_)
   ·
    replace hm := And.left hm hc17
    refine CW.sr <| RW.st (Ex.assign (.bool false) rfl) rfl <| RW.nil <| CW.ret ?_
    refine bqr (tqr (tqr (bqr (tqr ?_))))
    refine end_tmp (.inl rfl) rfl (.bool false) rfl ?_
    exact ⟨_, _, (hM.pick [] rfl rfl), false, hm, rfl, rfl⟩
   ·
    replace hm := And.right hm hc17
    refine CW.skip <| CW.region <| RW.st (Ex.move (.int .i64 v9) rfl) rfl ?_
    obtain ⟨hg18, hm⟩ := hm
    refine RW.st (Ex.add rfl rfl hg18.1 hg18.2) rfl <| RW.st (Ex.assign (.int .i64 (v9 + 1)) rfl) rfl <| RW.nil ?_
    exact And.intro rfl ⟨k10, ⟨v9 + 1, Hk7, hle8.trans (Hp.le.refl _), slc ⟨rfl, rfl, rfl, trivial⟩, hM, (by rw [hrec11]; exact hm)⟩, Nat.lt_succ_self _⟩
  ·
   replace hm := And.right hm hc12
   refine CW.exit ?_
   refine CW.sr <| RW.st (Ex.assign (.bool true) rfl) rfl <| RW.nil <| CW.ret ?_
   refine end_tmp (.inl rfl) rfl (.bool true) rfl ?_
   exact ⟨_, _, (hM.pick [] rfl rfl), true, hm, rfl, rfl⟩
theorem ref43_Few_lift {H : Hp} (x0 : api_Tracker) {A1 : Option Addr} {n1 c1 : Nat} {s1 : List Value} (hF1 : Fz (α := Int) H A1 n1 c1 x0.Sizes s1) {A2 : Option Addr} {n2 c2 : Nat} {s2 : List Value} (hF2 : Fz (α := api_Peer) H A2 n2 c2 x0.Peers s2) {Φ : Bool → Prop} (hm : ref43_Few_W x0 Φ) : RetP Tryd.prog 33 #[.agg #[.slice A1 n1 c1, .slice A2 n2 c2]] H (fun _ v L => ∃ y, Φ y ∧ v = .bool y ∧ L = []) := by
 refine RetP.of_code Tryd.func33 rfl (nb rfl) fun w0 hM => ?_
 refine CW.sr ?_
 refine RW.box hM (.agg #[.slice A1 n1 c1, .slice A2 n2 c2]) [.slice A1 n1 c1, .slice A2 n2 c2] rfl rfl rfl rfl ?_; intro b3 w hM
 refine RW.st (Ex.assign (.bool false) rfl) rfl <| RW.nil <| CW.seq <| CW.sr <| RW.st (Ex.assign (.int .i64 0) rfl) rfl <| RW.nil <| CW.block ?_
 obtain ⟨m34, hm⟩ := hm
 skip
 refine CW.loop (β := Nat) (fun n σ w => ∃ (v6 : Int), ∃ Hk4, H.le Hk4 ∧ (∃ τ, σ = sl [(1, .pointer (some ⟨b3, 0, none⟩)), (3, .int .i64 v6)] τ) ∧ Mem w0 H w Hk4 [.box b3 85 [.slice A1 n1 c1, .slice A2 n2 c2]] ∧ LoopN (ref43_Few_L1 x0 Φ) n (v6)) (fun n => n) m34 ⟨0, H, (Hp.le.refl _), slc ⟨rfl, rfl, trivial⟩, hM, hm⟩ ?_
 rintro k7 _ w ⟨v6, Hk4, hle5, ⟨τ, rfl⟩, hM, hm⟩
 obtain _ | k7 := k7
 · exact hm.elim
 replace hm : (ref43_Few_L1 x0 Φ) (v6) (LoopN (ref43_Few_L1 x0 Φ) k7) := hm
 generalize hrec8 : LoopN (ref43_Few_L1 x0 Φ) k7 = rec1 at hm
 refine CW.seq ?_
 skip
 refine CW.cut (fun D σ w => D = [] ∧ (∃ τ, σ = sl [(1, .pointer (some ⟨b3, 0, none⟩)), (3, .int .i64 v6), (13, .bool (decide ((v6 < (x0.Peers.length : Int)) ∧ (v6 < 20))))] τ) ∧ Mem w0 H w Hk4 [.box b3 85 [.slice A1 n1 c1, .slice A2 n2 c2]]) ?_ ?_
 ·
  skip
  refine CW.region <| RW.st (Ex.move (.int .i64 v6) rfl) rfl <| RW.st (Ex.fieldAddr fa85_1 rfl) rfl <| RW.st (Ex.load1 hM 0 to83 rfl rfl rfl) rfl <| RW.st (Ex.lenN st83.1 rfl hF2.hn) rfl <| RW.st (Ex.lss rfl rfl) rfl <| RW.st (Ex.move (.bool (decide (v6 < (x0.Peers.length : Int)))) rfl) rfl ?_
  refine RW.split 10 (p := v6 < (x0.Peers.length : Int)) rfl (fun hc9 => ?_) (fun hc9 => ?_)
  ·
   skip
   refine RW.st (Ex.move (.int .i64 v6) rfl) rfl <| RW.st (Ex.lss rfl rfl) rfl <| RW.st (Ex.pickT (.bool (decide (v6 < 20))) rfl rfl) rfl <| RW.nil ?_
   exact And.intro rfl (And.intro (slc ⟨rfl, rfl, (congrArg Value.bool (decide_eq_decide.2 (imAnd hc9 Iff.rfl))), trivial⟩) hM)
  ·
   skip
   refine RW.pp <| RW.st (Ex.pickF (.bool false) rfl rfl) rfl <| RW.nil ?_
   exact And.intro rfl (And.intro (slc ⟨rfl, rfl, (congrArg Value.bool (decide_eq_false (fun q => hc9 q.1)).symm), trivial⟩) hM)
 rintro _ _ w ⟨rfl, ⟨τ, rfl⟩, hM⟩
 refine CW.cond_dec (p := (v6 < (x0.Peers.length : Int)) ∧ (v6 < 20)) rfl (fun hc10 => ?_) (fun hc10 => ?_)
 ·
  replace hm := And.left hm hc10
  refine CW.skip <| CW.seq <| CW.block <| CW.sr <| RW.st (Ex.fieldAddr fa85_1 rfl) rfl <| RW.st (Ex.load1 hM 0 to83 rfl rfl rfl) rfl <| RW.st (Ex.move (.int .i64 v6) rfl) rfl ?_
  obtain ⟨hg11, hm⟩ := hm
  refine RW.st (Ex.index st83 rfl rfl v6.toNat (hF2.ne hg11) hg11.nat (hF2.lt hg11)) rfl <| RW.st (Ex.fieldE fa142_2 (hF2.ne hg11) rfl) rfl ?_
  obtain ⟨_, ⟨A12, n12, c12, s12, rfl, hF12⟩, hx13⟩ := DtL.getI (α := api_Peer) (hF2.mono hle5).dat hg11
  refine RW.st (Ex.loadE hM hle5 hF2.rdc to23 rfl (hx13 2 _ rfl)) rfl ?_
  refine RW.callP hM (ref43_FewBitmaps_lift ((ix x0.Peers v6).Dirty) hF12 hm) en77 rfl rfl rfl rfl ?_; rintro _ w H15 _ hle16 ⟨v14, hm, rfl, rfl⟩ hM
  refine RW.st (Ex.not (p := v14 = true) (bvar _)) rfl <| RW.nil ?_
  refine CW.cond_dec (p := ¬ (v14 = true)) rfl (fun hc17 => ?_) (fun hc17 => ?_)
  ·
   replace hm := And.left hm hc17
   refine CW.sr <| RW.st (Ex.assign (.bool false) rfl) rfl <| RW.nil <| CW.ret ?_
   refine bqr (tqr (tqr (bqr (tqr ?_))))
   refine end_tmp (.inl rfl) rfl (.bool false) rfl ?_
   exact ⟨_, _, (hM.pick [] rfl rfl), false, hm, rfl, rfl⟩
  ·
   replace hm := And.right hm hc17
   refine CW.skip <| CW.region <| RW.st (Ex.move (.int .i64 v6) rfl) rfl ?_
   obtain ⟨hg18, hm⟩ := hm
   refine RW.st (Ex.add rfl rfl hg18.1 hg18.2) rfl <| RW.st (Ex.assign (.int .i64 (v6 + 1)) rfl) rfl <| RW.nil ?_
   exact And.intro rfl ⟨k7, ⟨v6 + 1, H15, hle5.trans hle16, slc ⟨rfl, rfl, trivial⟩, hM, (by rw [hrec8]; exact hm)⟩, Nat.lt_succ_self _⟩
 ·
  replace hm := And.right hm hc10
  refine CW.exit ?_
  refine CW.seq <| CW.sr <| RW.st (Ex.assign (.int .i64 0) rfl) rfl <| RW.nil <| CW.block ?_
  obtain ⟨m33, hm⟩ := hm
  skip
  refine CW.loop (β := Nat) (fun n σ w => ∃ (v21 : Int), ∃ Hk19, Hk4.le Hk19 ∧ (∃ τ, σ = sl [(1, .pointer (some ⟨b3, 0, none⟩)), (4, .int .i64 v21)] τ) ∧ Mem w0 H w Hk19 [.box b3 85 [.slice A1 n1 c1, .slice A2 n2 c2]] ∧ LoopN (ref43_Few_L2 x0 Φ) n (v21)) (fun n => n) m33 ⟨0, Hk4, (Hp.le.refl _), slc ⟨rfl, rfl, trivial⟩, hM, hm⟩ ?_
  rintro k22 _ w ⟨v21, Hk19, hle20, ⟨τ, rfl⟩, hM, hm⟩
  obtain _ | k22 := k22
  · exact hm.elim
  replace hm : (ref43_Few_L2 x0 Φ) (v21) (LoopN (ref43_Few_L2 x0 Φ) k22) := hm
  generalize hrec23 : LoopN (ref43_Few_L2 x0 Φ) k22 = rec2 at hm
  refine CW.seq ?_
  skip
  refine CW.cut (fun D σ w => D = [] ∧ (∃ τ, σ = sl [(1, .pointer (some ⟨b3, 0, none⟩)), (4, .int .i64 v21), (32, .bool (decide ((v21 < (x0.Sizes.length : Int)) ∧ (v21 < 20))))] τ) ∧ Mem w0 H w Hk19 [.box b3 85 [.slice A1 n1 c1, .slice A2 n2 c2]]) ?_ ?_
  ·
   skip
   refine CW.region <| RW.st (Ex.move (.int .i64 v21) rfl) rfl <| RW.st (Ex.fieldAddr fa85_0 rfl) rfl <| RW.st (Ex.load1 hM 0 to40 rfl rfl rfl) rfl <| RW.st (Ex.lenN st40.1 rfl hF1.hn) rfl <| RW.st (Ex.lss rfl rfl) rfl <| RW.st (Ex.move (.bool (decide (v21 < (x0.Sizes.length : Int)))) rfl) rfl ?_
   refine RW.split 29 (p := v21 < (x0.Sizes.length : Int)) rfl (fun hc24 => ?_) (fun hc24 => ?_)
   ·
    skip
    refine RW.st (Ex.move (.int .i64 v21) rfl) rfl <| RW.st (Ex.lss rfl rfl) rfl <| RW.st (Ex.pickT (.bool (decide (v21 < 20))) rfl rfl) rfl <| RW.nil ?_
    exact And.intro rfl (And.intro (slc ⟨rfl, rfl, (congrArg Value.bool (decide_eq_decide.2 (imAnd hc24 Iff.rfl))), trivial⟩) hM)
   ·
    skip
    refine RW.pp <| RW.st (Ex.pickF (.bool false) rfl rfl) rfl <| RW.nil ?_
    exact And.intro rfl (And.intro (slc ⟨rfl, rfl, (congrArg Value.bool (decide_eq_false (fun q => hc24 q.1)).symm), trivial⟩) hM)
  rintro _ _ w ⟨rfl, ⟨τ, rfl⟩, hM⟩
  refine CW.cond_dec (p := (v21 < (x0.Sizes.length : Int)) ∧ (v21 < 20)) rfl (fun hc25 => ?_) (fun hc25 => ?_)
  ·
   replace hm := And.left hm hc25
   refine CW.skip <| CW.seq <| CW.block ?_
   obtain ⟨hG31, hm⟩ := hm
   refine CW.cut (fun D σ w => D = [] ∧ (∃ τ, σ = sl [(1, .pointer (some ⟨b3, 0, none⟩)), (4, .int .i64 v21), (48, .bool (decide ((200 < (ix x0.Sizes v21)) ∧ ((ix x0.Sizes v21) ≤ 4096))))] τ) ∧ Mem w0 H w Hk19 [.box b3 85 [.slice A1 n1 c1, .slice A2 n2 c2]]) ?_ ?_
   ·
    replace hm := hG31
    refine CW.region <| RW.st (Ex.fieldAddr fa85_0 rfl) rfl <| RW.st (Ex.load1 hM 0 to40 rfl rfl rfl) rfl <| RW.st (Ex.move (.int .i64 v21) rfl) rfl ?_
    have hg26 := hm
    refine RW.st (Ex.index st40 rfl rfl v21.toNat (hF1.ne hg26) hg26.nat (hF1.lt hg26)) rfl ?_
    obtain ⟨_, rfl, hx27⟩ := DtL.getI (α := Int) (hF1.mono (hle5.trans hle20)).dat hg26
    refine RW.st (Ex.loadE hM (hle5.trans hle20) hF1.rdc to3 rfl (hx27 0 _ rfl)) rfl <| RW.st (Ex.gtr rfl rfl) rfl <| RW.st (Ex.move (.bool (decide (200 < (ix x0.Sizes v21)))) rfl) rfl ?_
    refine RW.split 41 (p := 200 < (ix x0.Sizes v21)) rfl (fun hc28 => ?_) (fun hc28 => ?_)
    ·
     skip
     refine RW.st (Ex.fieldAddr fa85_0 rfl) rfl <| RW.st (Ex.load1 hM 0 to40 rfl rfl rfl) rfl <| RW.st (Ex.move (.int .i64 v21) rfl) rfl <| RW.st (Ex.index st40 rfl rfl v21.toNat (hF1.ne hg26) hg26.nat (hF1.lt hg26)) rfl <| RW.st (Ex.loadE hM (hle5.trans hle20) hF1.rdc to3 rfl (hx27 0 _ rfl)) rfl <| RW.st (Ex.leq rfl rfl) rfl <| RW.st (Ex.pickT (.bool (decide ((ix x0.Sizes v21) ≤ 4096))) rfl rfl) rfl <| RW.nil ?_
     exact And.intro rfl (And.intro (slc ⟨rfl, rfl, (congrArg Value.bool (decide_eq_decide.2 (imAnd hc28 Iff.rfl))), trivial⟩) hM)
    ·
     skip
     refine RW.pp <| RW.pp <| RW.pp <| RW.st (Ex.pickF (.bool false) rfl rfl) rfl <| RW.nil ?_
     exact And.intro rfl (And.intro (slc ⟨rfl, rfl, (congrArg Value.bool (decide_eq_false (fun q => hc28 q.1)).symm), trivial⟩) hM)
   rintro _ _ w ⟨rfl, ⟨τ, rfl⟩, hM⟩
   refine CW.cond_dec (p := (200 < (ix x0.Sizes v21)) ∧ ((ix x0.Sizes v21) ≤ 4096)) rfl (fun hc29 => ?_) (fun hc29 => ?_)
   ·
    replace hm := And.left hm hc29
    refine CW.sr <| RW.st (Ex.assign (.bool false) rfl) rfl <| RW.nil <| CW.ret ?_
    refine bqr (tqr (tqr (bqr (tqr ?_))))
    refine end_tmp (.inl rfl) rfl (.bool false) rfl ?_
    exact ⟨_, _, (hM.pick [] rfl rfl), false, hm, rfl, rfl⟩
   ·
    replace hm := And.right hm hc29
    refine CW.skip <| CW.region <| RW.st (Ex.move (.int .i64 v21) rfl) rfl ?_
    obtain ⟨hg30, hm⟩ := hm
    refine RW.st (Ex.add rfl rfl hg30.1 hg30.2) rfl <| RW.st (Ex.assign (.int .i64 (v21 + 1)) rfl) rfl <| RW.nil ?_
    exact And.intro rfl ⟨k22, ⟨v21 + 1, Hk19, hle20.trans (Hp.le.refl _), slc ⟨rfl, rfl, trivial⟩, hM, (by rw [hrec23]; exact hm)⟩, Nat.lt_succ_self _⟩
  ·
   replace hm := And.right hm hc25
   refine CW.exit ?_
   skip
   refine CW.cut (fun D σ w => D = [] ∧ (∃ τ, σ = sl [(2, .bool (decide (((x0.Peers.length : Int) ≤ 20) ∧ ((x0.Sizes.length : Int) ≤ 20))))] τ) ∧ Mem w0 H w Hk19 [.box b3 85 [.slice A1 n1 c1, .slice A2 n2 c2]]) ?_ ?_
   ·
    skip
    refine CW.region <| RW.st (Ex.fieldAddr fa85_1 rfl) rfl <| RW.st (Ex.load1 hM 0 to83 rfl rfl rfl) rfl <| RW.st (Ex.lenN st83.1 rfl hF2.hn) rfl <| RW.st (Ex.leq rfl rfl) rfl <| RW.st (Ex.move (.bool (decide ((x0.Peers.length : Int) ≤ 20))) rfl) rfl ?_
    refine RW.split 53 (p := (x0.Peers.length : Int) ≤ 20) rfl (fun hc32 => ?_) (fun hc32 => ?_)
    ·
     skip
     refine RW.st (Ex.fieldAddr fa85_0 rfl) rfl <| RW.st (Ex.load1 hM 0 to40 rfl rfl rfl) rfl <| RW.st (Ex.lenN st40.1 rfl hF1.hn) rfl <| RW.st (Ex.leq rfl rfl) rfl <| RW.st (Ex.pickT (.bool (decide ((x0.Sizes.length : Int) ≤ 20))) rfl rfl) rfl <| RW.st (Ex.assign (.bool (decide ((x0.Sizes.length : Int) ≤ 20))) rfl) rfl <| RW.nil ?_
     exact And.intro rfl (And.intro (slc ⟨(congrArg Value.bool (decide_eq_decide.2 (imAnd hc32 Iff.rfl))), trivial⟩) hM)
    ·
     skip
     refine RW.pp <| RW.pp <| RW.st (Ex.pickF (.bool false) rfl rfl) rfl <| RW.st (Ex.assign (.bool false) rfl) rfl <| RW.nil ?_
     exact And.intro rfl (And.intro (slc ⟨(congrArg Value.bool (decide_eq_false (fun q => hc32 q.1)).symm), trivial⟩) hM)
   rintro _ _ w ⟨rfl, ⟨τ, rfl⟩, hM⟩
   refine CW.ret ?_
   refine end_tmp (.inl rfl) rfl (.bool (decide (((x0.Peers.length : Int) ≤ 20) ∧ ((x0.Sizes.length : Int) ≤ 20)))) rfl ?_
   exact ⟨_, _, (hM.pick [] rfl rfl), decide (((x0.Peers.length : Int) ≤ 20) ∧ ((x0.Sizes.length : Int) ≤ 20)), hm, rfl, rfl⟩
theorem tracker_site_lift {H : Hp} (x0 : Int) {Φ : Bool → Prop} (hm : tracker_site_W x0 Φ) : RetP Tryd.prog 120 #[.int .i64 x0] H (fun _ v L => ∃ y, Φ y ∧ v = .bool y ∧ L = []) := by
 refine RetP.of_code Tryd.func120 rfl (nb rfl) fun w0 hM => ?_
 refine CW.sr <| RW.st (Ex.assign (.bool false) rfl) rfl <| RW.nil <| CW.sr <| RW.st (Ex.move (.int .i64 x0) rfl) rfl ?_
 refine RW.callP hM (tracker_between_lift x0 0 3 hm) en121 rfl rfl rfl rfl ?_; rintro _ w H2 _ hle3 ⟨v1, hm, rfl, rfl⟩ hM
 refine RW.st (Ex.assign (.bool v1) rfl) rfl <| RW.nil <| CW.ret ?_
 refine end_tmp (.inl rfl) rfl (.bool v1) rfl ?_
 exact ⟨_, _, hM, v1, hm, rfl, rfl⟩
theorem slices_IndexFunc_api_Peer_api_Peer__reverse_Turn_1_lift {H : Hp} (x0 : List api_Peer) (y910 : Int) {A1 : Option Addr} {n1 c1 : Nat} {s1 : List Value} (hF1 : Fz (α := api_Peer) H A1 n1 c1 x0 s1) {b910 : Nat} (hb910 : H b910 = some (.cells [.int .i64 (y910)].toArray 3 (0, 0))) {Φ : Int → Prop} (hm : slices_IndexFunc_api_Peer_api_Peer__reverse_Turn_1_W x0 y910 Φ) : RetP Tryd.prog 79 #[.slice A1 n1 c1, .func (.func 80) #[] #[.pointer (some ⟨b910, 0, none⟩)]] H (fun _ v L => ∃ y, Φ y ∧ v = .int .i64 (y) ∧ L = []) := by
 refine RetP.of_code Tryd.func79 rfl (nb rfl) fun w0 hM => ?_
 refine CW.sr <| RW.st (Ex.assign (.int .i64 0) rfl) rfl <| RW.nil <| CW.seq <| CW.sr <| RW.st (Ex.move (.slice A1 n1 c1) rfl) rfl <| RW.st (Ex.lenN st83.1 rfl hF1.hn) rfl <| RW.st (Ex.move (.int .i64 0) rfl) rfl <| RW.nil <| CW.block ?_
 obtain ⟨m16, hm⟩ := hm
 skip
 refine CW.loop (β := Nat) (fun n σ w => ∃ (v4 : Int), ∃ Hk2, H.le Hk2 ∧ (∃ τ, σ = sl [(0, .slice A1 n1 c1), (1, .func (.func 80) #[] #[.pointer (some ⟨b910, 0, none⟩)]), (7, .int .i64 ((x0.length : Int))), (8, .int .i64 v4)] τ) ∧ Mem w0 H w Hk2 [] ∧ LoopN (slices_IndexFunc_api_Peer_api_Peer__reverse_Turn_1_L1 x0 y910 Φ) n (v4)) (fun n => n) m16 ⟨0, H, (Hp.le.refl _), slc ⟨rfl, rfl, rfl, rfl, trivial⟩, hM, hm⟩ ?_
 rintro k5 _ w ⟨v4, Hk2, hle3, ⟨τ, rfl⟩, hM, hm⟩
 obtain _ | k5 := k5
 · exact hm.elim
 replace hm : (slices_IndexFunc_api_Peer_api_Peer__reverse_Turn_1_L1 x0 y910 Φ) (v4) (LoopN (slices_IndexFunc_api_Peer_api_Peer__reverse_Turn_1_L1 x0 y910 Φ) k5) := hm
 generalize hrec6 : LoopN (slices_IndexFunc_api_Peer_api_Peer__reverse_Turn_1_L1 x0 y910 Φ) k5 = rec1 at hm
 refine CW.sr <| RW.st (Ex.lss rfl rfl) rfl <| RW.nil <| CW.seq ?_
 refine CW.cond_dec (p := v4 < (x0.length : Int)) rfl (fun hc7 => ?_) (fun hc7 => ?_)
 ·
  replace hm := And.left hm hc7
  refine CW.skip <| CW.seq <| CW.block <| CW.sr <| RW.st (Ex.move (.int .i64 v4) rfl) rfl <| RW.st (Ex.assign (.int .i64 v4) rfl) rfl <| RW.nil <| CW.sr <| RW.st (Ex.move (.func (.func 80) #[] #[.pointer (some ⟨b910, 0, none⟩)]) rfl) rfl <| RW.st (Ex.move (.slice A1 n1 c1) rfl) rfl <| RW.st (Ex.move (.int .i64 v4) rfl) rfl ?_
  obtain ⟨hg8, hm⟩ := hm
  refine RW.st (Ex.index st83 rfl rfl v4.toNat (hF1.ne hg8) hg8.nat (hF1.lt hg8)) rfl ?_
  obtain ⟨_, ⟨A9, n9, c9, s9, rfl, hF9⟩, hx10⟩ := DtL.getI (α := api_Peer) (hF1.mono hle3).dat hg8
  refine RW.st (Ex.loadEA hM hle3 hF1.rdc [.int .i64 ((ix x0 v4).Site), .int .i64 ((ix x0 v4).Common), .slice A9 n9 c9] ta142 rfl (hF1.ne hg8) rfl (chunk_sub (off := 0) (n := 3) hx10 rfl)) rfl ?_
  refine RW.callP hM (reverse_Turn_1_lift (ix x0 v4) y910 hF9 (hle3 _ _ hb910) hm) en80 rfl rfl rfl rfl ?_; rintro _ w H12 _ hle13 ⟨v11, hm, rfl, rfl⟩ hM
  refine RW.nil ?_
  refine CW.cond_b rfl (fun hc14 => ?_) (fun hc14 => ?_)
  ·
   replace hm := And.left hm hc14
   refine CW.sr <| RW.st (Ex.move (.int .i64 v4) rfl) rfl <| RW.st (Ex.assign (.int .i64 v4) rfl) rfl <| RW.nil <| CW.ret ?_
   refine bqr (tqr (tqr (bqr (tqr ?_))))
   refine end_tmp (.inl rfl) rfl (.int .i64 v4) rfl ?_
   exact ⟨_, _, hM, v4, hm, rfl, rfl⟩
  ·
   replace hm := And.right hm hc14
   refine CW.skip <| CW.region ?_
   obtain ⟨hg15, hm⟩ := hm
   refine RW.st (Ex.add rfl rfl hg15.1 hg15.2) rfl <| RW.st (Ex.move (.int .i64 (v4 + 1)) rfl) rfl <| RW.nil ?_
   exact And.intro rfl ⟨k5, ⟨v4 + 1, H12, hle3.trans hle13, slc ⟨rfl, rfl, rfl, rfl, trivial⟩, hM, (by rw [hrec6]; exact hm)⟩, Nat.lt_succ_self _⟩
 ·
  replace hm := And.right hm hc7
  refine CW.exit ?_
  refine CW.sr <| RW.st (Ex.assign (.int .i64 ((-1))) rfl) rfl <| RW.nil <| CW.ret ?_
  refine end_tmp (.inl rfl) rfl (.int .i64 ((-1))) rfl ?_
  exact ⟨_, _, hM, (-1), hm, rfl, rfl⟩
theorem reverse_Turn_2_lift {H : Hp} (x0 : Int) (x1 : api_Bitmap) {A1 : Option Addr} {n1 c1 : Nat} {s1 : List Value} (hF1 : Fz (α := BitVec 64) H A1 n1 c1 x1.Words s1) {Φ : api_Bitmap → Prop} (hm : reverse_Turn_2_W x0 x1 Φ) : RetP Tryd.prog 84 #[.int .i64 x0, .agg #[.int .i64 x1.Size, .slice A1 n1 c1]] H (fun H' v L => ∃ y, Φ y ∧ ∃ A36, ∃ n36, ∃ c36, ∃ s36, v = .agg #[.int .i64 (y.Size), .slice A36 n36 c36] ∧ Fz (α := BitVec 64) H' A36 n36 c36 y.Words s36 ∧ L = []) := by
 refine RetP.of_code Tryd.func84 rfl (nb rfl) fun w0 hM => ?_
 refine CW.sr ?_
 refine RW.box hM (.agg #[.int .i64 x1.Size, .slice A1 n1 c1]) [.int .i64 x1.Size, .slice A1 n1 c1] rfl rfl rfl rfl ?_; intro b2 w hM
 refine RW.alloc hM tz65 [.int .i64 0, .slice none 0 0] rfl rfl rfl ?_; intro b3 w hM
 refine RW.nil <| CW.seq ?_
 obtain ⟨v10, hW11, hm⟩ := hm
 refine CW.drawL 6 [] [(fun Hq us E => us = [.pointer (some ⟨b2, 0, none⟩)] ∧ E = [] ∧ True), (fun Hq us E => us = [.int .i64 x1.Size] ∧ E = [] ∧ True), (fun Hq us E => us = [.pointer (some ⟨b2, 1, none⟩)] ∧ E = [] ∧ True), (fun Hq us E => us = [.slice A1 n1 c1] ∧ E = [] ∧ True), (fun Hq us E => ∃ (A12 : Option Addr), ∃ (n12 : Nat), ∃ (c12 : Nat), ∃ (s12 : List Value), us = [.slice A12 n12 c12] ∧ E = [] ∧ Fz (α := BitVec 64) Hq A12 n12 c12 v10 s12 ∧ True), (fun Hq us E => ∃ (A12 : Option Addr), ∃ (n12 : Nat), ∃ (c12 : Nat), ∃ (s12 : List Value), us = [.slice A12 n12 c12, .agg #[.int .i64 x1.Size, .slice A12 n12 c12]] ∧ E = [] ∧ Fz (α := BitVec 64) Hq A12 n12 c12 v10 s12 ∧ True)]
  (fun k => [[0], [1], [2], [3], [4], [4, 5]].getD k []) (fun _ => none) (by kernel_rfl) hM (by kernel_rfl) (by kernel_rfl) (by kernel_rfl) rfl (by simp only [List.forall_mem_cons]; exact ⟨fun _ _ _ _ hle ⟨e1, e2, _⟩ => ⟨e1, e2, trivial⟩, fun _ _ _ _ hle ⟨e1, e2, _⟩ => ⟨e1, e2, trivial⟩, fun _ _ _ _ hle ⟨e1, e2, _⟩ => ⟨e1, e2, trivial⟩, fun _ _ _ _ hle ⟨e1, e2, _⟩ => ⟨e1, e2, trivial⟩, fun _ _ _ _ hle ⟨A12, n12, c12, s12, e1, e2, hF15, _⟩ => ⟨A12, n12, c12, s12, e1, e2, hF15.mono hle, trivial⟩, fun _ _ _ _ hle ⟨A12, n12, c12, s12, e1, e2, hF15, _⟩ => ⟨A12, n12, c12, s12, e1, e2, hF15.mono hle, trivial⟩, by simp⟩) ⟨?_, ?_, ?_, ?_, ?_, ?_, trivial⟩ ?_
 ·
  intro H' σ' w R E hle hMR hE0 hE hp hf
  obtain rfl := hE0 rfl
  obtain ⟨τ, rfl⟩ := slc (σ := σ') (l := [(3, .pointer (some ⟨b2, 0, none⟩))]) ⟨(hf 3 (by kernel_rfl)).trans rfl, trivial⟩
  have hM := Mem.subR (R := R) hMR
  exact RW.step (Ex.fieldAddr fa65_0 rfl) rfl rfl rfl (RW.nil ⟨rfl, rfl, _, rfl, H', [], Hp.le.refl _, hMR, rfl, rfl, trivial⟩)
 ·
  intro H' σ' w R E hle hMR hE0 hE hp hf
  obtain rfl := hE0 rfl
  obtain ⟨_, hg⟩ := hp 0 (by decide) (by kernel_rfl)
  obtain ⟨e16, _, _⟩ := hg.get rfl
  have e17 : σ' 5 = .pointer (some ⟨b2, 0, none⟩) := (List.cons.inj e16).1
  obtain ⟨τ, rfl⟩ := slc (σ := σ') (l := [(5, .pointer (some ⟨b2, 0, none⟩))]) ⟨e17, trivial⟩
  have hM := Mem.subR (R := R) hMR
  exact RW.step (Ex.load1 hM 1 to3 rfl rfl rfl) rfl rfl rfl (RW.nil ⟨rfl, rfl, _, rfl, H', [], Hp.le.refl _, hMR, rfl, rfl, trivial⟩)
 ·
  intro H' σ' w R E hle hMR hE0 hE hp hf
  obtain rfl := hE0 rfl
  obtain ⟨τ, rfl⟩ := slc (σ := σ') (l := [(3, .pointer (some ⟨b2, 0, none⟩))]) ⟨(hf 3 (by kernel_rfl)).trans rfl, trivial⟩
  have hM := Mem.subR (R := R) hMR
  exact RW.step (Ex.fieldAddr fa65_1 rfl) rfl rfl rfl (RW.nil ⟨rfl, rfl, _, rfl, H', [], Hp.le.refl _, hMR, rfl, rfl, trivial⟩)
 ·
  intro H' σ' w R E hle hMR hE0 hE hp hf
  obtain rfl := hE0 rfl
  obtain ⟨_, hg⟩ := hp 2 (by decide) (by kernel_rfl)
  obtain ⟨e18, _, _⟩ := hg.get rfl
  have e19 : σ' 7 = .pointer (some ⟨b2, 1, none⟩) := (List.cons.inj e18).1
  obtain ⟨τ, rfl⟩ := slc (σ := σ') (l := [(7, .pointer (some ⟨b2, 1, none⟩))]) ⟨e19, trivial⟩
  have hM := Mem.subR (R := R) hMR
  exact RW.step (Ex.load1 hM 1 to63 rfl rfl rfl) rfl rfl rfl (RW.nil ⟨rfl, rfl, _, rfl, H', [], Hp.le.refl _, hMR, rfl, rfl, trivial⟩)
 ·
  intro H' σ' w R E hle hMR hE0 hE hp hf
  obtain rfl := hE0 rfl
  obtain ⟨_, hg⟩ := hp 3 (by decide) (by kernel_rfl)
  obtain ⟨e20, _, _⟩ := hg.get rfl
  have e21 : σ' 8 = .slice A1 n1 c1 := (List.cons.inj e20).1
  obtain ⟨τ, rfl⟩ := slc (σ := σ') (l := [(8, .slice A1 n1 c1)]) ⟨e21, trivial⟩
  have hM := Mem.subR (R := R) hMR
  refine RW.callP hMR (slices_Clone_uint64_uint64_lift x1.Words (hF1.mono hle) hW11) en85 rfl rfl rfl rfl ?_; rintro _ w HS9 _ hleS ⟨_, rfl, A12, n12, c12, s12, rfl, hd13, hn14, rfl⟩ hMR
  obtain ⟨HS90, hMR, hleS0, hF15⟩ := hMR.giveF (α := BitVec 64) 0 rfl hd13 hn14
  exact RW.nil ⟨rfl, rfl, _, rfl, HS90, [], (hleS.trans hleS0), hMR, A12, n12, c12, s12, rfl, rfl, hF15, trivial⟩
 ·
  intro H' σ' w R E hle hMR hE0 hE hp hf
  obtain rfl := hE0 rfl
  obtain ⟨_, hg⟩ := hp 1 (by decide) (by kernel_rfl)
  obtain ⟨e22, _, _⟩ := hg.get rfl
  have e23 : σ' 6 = .int .i64 x1.Size := (List.cons.inj e22).1
  obtain ⟨_, hg⟩ := hp 4 (by decide) (by kernel_rfl)
  obtain ⟨A12, n12, c12, s12, e24, _, hF15, _⟩ := hg.get rfl
  have e25 : σ' 9 = .slice A12 n12 c12 := (List.cons.inj e24).1
  obtain ⟨τ, rfl⟩ := slc (σ := σ') (l := [(6, .int .i64 x1.Size), (9, .slice A12 n12 c12)]) ⟨e23, e25, trivial⟩
  have hM := Mem.subR (R := R) hMR
  exact RW.step (Ex.build bs65 [(0, .int .i64 x1.Size), (1, .slice A12 n12 c12)] [.int .i64 x1.Size, .slice A12 n12 c12] rfl rfl) rfl rfl rfl (RW.nil ⟨rfl, rfl, _, rfl, H', [], Hp.le.refl _, hMR, A12, n12, c12, s12, rfl, rfl, hF15, trivial⟩)
 ·
  intro HR8 σ' w X miss hms hleR hM hX hX0 hf
  simp [subs] at hms
  rcases hms with rfl
  ·
   obtain ⟨H26, hH8⟩ : ∃ x, x = HR8 := ⟨_, rfl⟩
   subst hH8
   have hle27 := hleR
   obtain ⟨_, g0, y0⟩ := hX 0 (by decide) (by kernel_rfl)
   obtain ⟨_, rfl, _⟩ := g0.get rfl
   replace y0 : X 0 = [] := y0
   obtain ⟨_, g0, y1⟩ := hX 1 (by decide) (by kernel_rfl)
   obtain ⟨_, rfl, _⟩ := g0.get rfl
   replace y1 : X 1 = [] := y1
   obtain ⟨_, g0, y2⟩ := hX 2 (by decide) (by kernel_rfl)
   obtain ⟨_, rfl, _⟩ := g0.get rfl
   replace y2 : X 2 = [] := y2
   obtain ⟨_, g0, y3⟩ := hX 3 (by decide) (by kernel_rfl)
   obtain ⟨_, rfl, _⟩ := g0.get rfl
   replace y3 : X 3 = [] := y3
   obtain ⟨_, g0, y4⟩ := hX 4 (by decide) (by kernel_rfl)
   obtain ⟨A12, n12, c12, s12, e28, rfl, hF15, _⟩ := g0.get rfl
   have e29 : σ' 9 = .slice A12 n12 c12 := (List.cons.inj e28).1
   replace y4 : X 4 = [] := y4
   obtain ⟨_, g0, y5⟩ := hX 5 (by decide) (by kernel_rfl)
   obtain ⟨A12q, n12q, c12q, s12q, e30, rfl, _, _⟩ := g0.get rfl
   have e31 : σ' 9 = .slice A12q n12q c12q := (List.cons.inj e30).1
   have he_ := e29.symm.trans e31
   have ⟨e32, e33, e34⟩ : A12 = A12q ∧ n12 = n12q ∧ c12 = c12q := by simp at he_; simp [he_]
   subst e32
   subst e33
   subst e34
   have e35 : σ' 10 = .agg #[.int .i64 x1.Size, .slice A12 n12 c12] := (List.cons.inj (List.cons.inj e30).2).1
   replace y5 : X 5 = [] := y5
   have hfl : flatX X 6 = [] := by
    show X 0 ++ (X 1 ++ (X 2 ++ (X 3 ++ (X 4 ++ (X 5 ++ []))))) = _
    rw [y0, y1, y2, y3, y4, y5]; rfl
   rw [hfl] at hM
   obtain ⟨τ, rfl⟩ := slc (σ := σ') (l := [(4, .pointer (some ⟨b3, 0, none⟩)), (10, .agg #[.int .i64 x1.Size, .slice A12 n12 c12])]) ⟨(hf 4 (by kernel_rfl)).trans rfl, e35, trivial⟩
   change RA _ _ _ _ _ _ _ (sl [(4, .pointer (some ⟨b3, 0, none⟩)), (10, .agg #[.int .i64 x1.Size, .slice A12 n12 c12])] τ) _ 7 _
   refine RA.step [6] (by kernel_rfl) rfl ⟨⟨_, rfl, ?_⟩, trivial⟩
   refine RW.store hM 0 (.agg #[.int .i64 x1.Size, .slice A12 n12 c12]) [.int .i64 x1.Size, .slice A12 n12 c12] [.int .i64 x1.Size, .slice A12 n12 c12] sz65 rfl rfl rfl (oneAll ⟨rfl, rfl, trivial⟩) rfl (nb rfl) rfl [.box b3 65 [.int .i64 x1.Size, .slice A12 n12 c12], .box b2 65 [.int .i64 x1.Size, .slice A1 n1 c1]] rfl rfl rfl ?_; intro w hM
   refine RW.nil ?_
   refine And.intro rfl ?_
   refine RA.done (by kernel_rfl) ?_
   refine CW.ret ?_
   refine end_cell (k := 0) (.inl rfl) rfl hM rfl ta65 [.int .i64 x1.Size, .slice A12 n12 c12] rfl rfl ?_
   exact ⟨_, _, (hM.pick [] rfl rfl), (api_Bitmap.mk x1.Size v10), hm, A12, n12, c12, s12, rfl, hF15, rfl⟩
theorem ref02_SameAll_lift {H : Hp} (x0 : List api_Bitmap) (x1 : List api_Bitmap) {A1 : Option Addr} {n1 c1 : Nat} {s1 : List Value} (hF1 : Fz (α := api_Bitmap) H A1 n1 c1 x0 s1) {A2 : Option Addr} {n2 c2 : Nat} {s2 : List Value} (hF2 : Fz (α := api_Bitmap) H A2 n2 c2 x1 s2) {Φ : Bool → Prop} (hm : ref02_SameAll_W x0 x1 Φ) : RetP Tryd.prog 88 #[.slice A1 n1 c1, .slice A2 n2 c2] H (fun _ v L => ∃ y, Φ y ∧ v = .bool y ∧ L = []) := by
 refine RetP.of_code Tryd.func88 rfl (nb rfl) fun w0 hM => ?_
 refine CW.sr <| RW.st (Ex.assign (.bool false) rfl) rfl <| RW.nil <| CW.seq <| CW.sr <| RW.st (Ex.move (.slice A1 n1 c1) rfl) rfl <| RW.st (Ex.lenN st23.1 rfl hF1.hn) rfl <| RW.st (Ex.move (.slice A2 n2 c2) rfl) rfl <| RW.st (Ex.lenN st23.1 rfl hF2.hn) rfl <| RW.st (Ex.neq rfl rfl) rfl <| RW.nil ?_
 refine CW.cond_dec (p := (x0.length : Int) ≠ (x1.length : Int)) rfl (fun hc3 => ?_) (fun hc3 => ?_)
 ·
  replace hm := And.left hm hc3
  refine CW.sr <| RW.st (Ex.assign (.bool false) rfl) rfl <| RW.nil <| CW.ret ?_
  refine tqr ?_
  refine end_tmp (.inl rfl) rfl (.bool false) rfl ?_
  exact ⟨_, _, hM, false, hm, rfl, rfl⟩
 ·
  replace hm := And.right hm hc3
  refine CW.skip <| CW.seq <| CW.sr <| RW.st (Ex.assign (.int .i64 0) rfl) rfl <| RW.nil <| CW.block ?_
  obtain ⟨m20, hm⟩ := hm
  skip
  refine CW.loop (β := Nat) (fun n σ w => ∃ (v6 : Int), ∃ Hk4, H.le Hk4 ∧ (∃ τ, σ = sl [(0, .slice A1 n1 c1), (1, .slice A2 n2 c2), (5, .int .i64 v6)] τ) ∧ Mem w0 H w Hk4 [] ∧ LoopN (ref02_SameAll_L1 x0 x1 Φ) n (v6)) (fun n => n) m20 ⟨0, H, (Hp.le.refl _), slc ⟨rfl, rfl, rfl, trivial⟩, hM, hm⟩ ?_
  rintro k7 _ w ⟨v6, Hk4, hle5, ⟨τ, rfl⟩, hM, hm⟩
  obtain _ | k7 := k7
  · exact hm.elim
  replace hm : (ref02_SameAll_L1 x0 x1 Φ) (v6) (LoopN (ref02_SameAll_L1 x0 x1 Φ) k7) := hm
  generalize hrec8 : LoopN (ref02_SameAll_L1 x0 x1 Φ) k7 = rec1 at hm
  refine CW.seq <| CW.sr <| RW.st (Ex.move (.int .i64 v6) rfl) rfl <| RW.st (Ex.move (.slice A1 n1 c1) rfl) rfl <| RW.st (Ex.lenN st23.1 rfl hF1.hn) rfl <| RW.st (Ex.lss rfl rfl) rfl <| RW.nil ?_
  refine CW.cond_dec (p := v6 < (x0.length : Int)) rfl (fun hc9 => ?_) (fun hc9 => ?_)
  ·
   replace hm := And.left hm hc9
   refine CW.skip <| CW.seq <| CW.block <| CW.seq ?_
   obtain ⟨hg10, hm⟩ := hm
   obtain ⟨_, ⟨A11, n11, c11, s11, rfl, hF11⟩, hx12⟩ := DtL.getI (α := api_Bitmap) (hF1.mono hle5).dat hg10
   obtain ⟨hg13, hm⟩ := hm
   obtain ⟨_, ⟨A14, n14, c14, s14, rfl, hF14⟩, hx15⟩ := DtL.getI (α := api_Bitmap) (hF2.mono hle5).dat hg13
   obtain ⟨v16, hW17, hm⟩ := hm
   refine CW.drawE 10 [.slice A1 n1 c1, .int .i64 v6, elp A1 (v6.toNat * 2 + 0), .agg #[.int .i64 ((ix x0 v6).Size), .slice A11 n11 c11], .slice A2 n2 c2, .int .i64 v6, elp A2 (v6.toNat * 2 + 0), .agg #[.int .i64 ((ix x1 v6).Size), .slice A14 n14 c14], .bool v16, .bool (decide (¬ (v16 = true)))]
    [[(0, none)], [(5, none)], [(17, some 0), (18, some 1)], [(19, some 2)], [(1, none)], [(5, none)], [(21, some 4), (22, some 5)], [(23, some 6)], [(20, some 3), (24, some 7)], [(25, some 8)]] [(0, none), (1, none), (5, none), (26, some 9)] (by kernel_rfl) hM (by kernel_rfl) ⟨?_, ?_, ?_, ?_, ?_, ?_, ?_, ?_, ?_, ?_, trivial⟩ ?_
   · exact One.ex (fun H' τ w hled hM => Ex.move (.slice A1 n1 c1) rfl) rfl (fun _ => rfl) rfl
   · exact One.ex (fun H' τ w hled hM => Ex.move (.int .i64 v6) rfl) rfl (fun _ => rfl) rfl
   · exact One.ex (fun H' τ w hled hM => Ex.index st23 rfl rfl v6.toNat (hF1.ne hg10) hg10.nat (hF1.lt hg10)) rfl (fun _ => rfl) rfl
   · exact One.ex (fun H' τ w hled hM => Ex.loadEA hM (hle5.trans hled) hF1.rdc [.int .i64 ((ix x0 v6).Size), .slice A11 n11 c11] ta65 rfl (hF1.ne hg10) rfl (chunk_sub (off := 0) (n := 2) hx12 rfl)) rfl (fun _ => rfl) rfl
   · exact One.ex (fun H' τ w hled hM => Ex.move (.slice A2 n2 c2) rfl) rfl (fun _ => rfl) rfl
   · exact One.ex (fun H' τ w hled hM => Ex.move (.int .i64 v6) rfl) rfl (fun _ => rfl) rfl
   · exact One.ex (fun H' τ w hled hM => Ex.index st23 rfl rfl v6.toNat (hF2.ne hg13) hg13.nat (hF2.lt hg13)) rfl (fun _ => rfl) rfl
   · exact One.ex (fun H' τ w hled hM => Ex.loadEA hM (hle5.trans hled) hF2.rdc [.int .i64 ((ix x1 v6).Size), .slice A14 n14 c14] ta65 rfl (hF2.ne hg13) rfl (chunk_sub (off := 0) (n := 2) hx15 rfl)) rfl (fun _ => rfl) rfl
   · exact One.call (ref02_Same_lift (ix x0 v6) (ix x1 v6) hF11 hF14 hW17).toV en130 (fun _ => rfl) (fun _ => rfl) (fun _ => rfl) rfl
   · exact One.ex (fun H' τ w hled hM => Ex.not (p := v16 = true) (bvar _)) rfl (fun _ => rfl) rfl
   intro τ w hM
   change RW _ _ _ _ _ _ _ _ (sl [(0, .slice A1 n1 c1), (1, .slice A2 n2 c2), (5, .int .i64 v6), (26, .bool (decide (¬ (v16 = true))))] τ) _
   refine RW.nil ?_
   refine CW.cond_dec (p := ¬ (v16 = true)) rfl (fun hc18 => ?_) (fun hc18 => ?_)
   ·
    replace hm := And.left hm hc18
    refine CW.sr <| RW.st (Ex.assign (.bool false) rfl) rfl <| RW.nil <| CW.ret ?_
    refine bqr (tqr (tqr (bqr (tqr ?_))))
    refine end_tmp (.inl rfl) rfl (.bool false) rfl ?_
    exact ⟨_, _, hM, false, hm, rfl, rfl⟩
   ·
    replace hm := And.right hm hc18
    refine CW.skip <| CW.region <| RW.st (Ex.move (.int .i64 v6) rfl) rfl ?_
    obtain ⟨hg19, hm⟩ := hm
    refine RW.st (Ex.add rfl rfl hg19.1 hg19.2) rfl <| RW.st (Ex.assign (.int .i64 (v6 + 1)) rfl) rfl <| RW.nil ?_
    exact And.intro rfl ⟨k7, ⟨v6 + 1, Hk4, hle5.trans (Hp.le.refl _), slc ⟨rfl, rfl, rfl, trivial⟩, hM, (by rw [hrec8]; exact hm)⟩, Nat.lt_succ_self _⟩
  ·
   replace hm := And.right hm hc9
   refine CW.exit ?_
   refine CW.sr <| RW.st (Ex.assign (.bool true) rfl) rfl <| RW.nil <| CW.ret ?_
   refine end_tmp (.inl rfl) rfl (.bool true) rfl ?_
   exact ⟨_, _, hM, true, hm, rfl, rfl⟩
theorem cycle_in_lift {H : Hp} (x0 : Int) (x1 : Int) (x2 : Int) {Φ : Bool → Prop} (hm : cycle_in_W x0 x1 x2 Φ) : RetP Tryd.prog 103 #[.int .i64 x0, .int .i64 x1, .int .i64 x2] H (fun _ v L => ∃ y, Φ y ∧ v = .bool y ∧ L = []) := by
 refine RetP.of_code Tryd.func103 rfl (nb rfl) fun w0 hM => ?_
 refine CW.sr <| RW.st (Ex.assign (.bool false) rfl) rfl <| RW.nil ?_
 skip
 refine CW.cut (fun D σ w => D = [] ∧ (∃ τ, σ = sl [(6, .bool (decide ((x1 ≤ x0) ∧ (x0 ≤ x2))))] τ) ∧ Mem w0 H w H []) ?_ ?_
 ·
  skip
  refine CW.region <| RW.st (Ex.move (.int .i64 x0) rfl) rfl <| RW.st (Ex.move (.int .i64 x1) rfl) rfl <| RW.st (Ex.geq rfl rfl) rfl <| RW.st (Ex.move (.bool (decide (x1 ≤ x0))) rfl) rfl ?_
  refine RW.split 10 (p := x1 ≤ x0) rfl (fun hc1 => ?_) (fun hc1 => ?_)
  ·
   skip
   refine RW.st (Ex.move (.int .i64 x0) rfl) rfl <| RW.st (Ex.move (.int .i64 x2) rfl) rfl <| RW.st (Ex.leq rfl rfl) rfl <| RW.st (Ex.pickT (.bool (decide (x0 ≤ x2))) rfl rfl) rfl <| RW.st (Ex.assign (.bool (decide (x0 ≤ x2))) rfl) rfl <| RW.nil ?_
   exact And.intro rfl (And.intro (slc ⟨(congrArg Value.bool (decide_eq_decide.2 (imAnd hc1 Iff.rfl))), trivial⟩) hM)
  ·
   skip
   refine RW.pp <| RW.pass rfl rfl <| RW.st (Ex.pickF (.bool false) rfl rfl) rfl <| RW.st (Ex.assign (.bool false) rfl) rfl <| RW.nil ?_
   exact And.intro rfl (And.intro (slc ⟨(congrArg Value.bool (decide_eq_false (fun q => hc1 q.1)).symm), trivial⟩) hM)
 rintro _ _ w ⟨rfl, ⟨τ, rfl⟩, hM⟩
 refine CW.ret ?_
 refine end_tmp (.inl rfl) rfl (.bool (decide ((x1 ≤ x0) ∧ (x0 ≤ x2)))) rfl ?_
 exact ⟨_, _, hM, decide ((x1 ≤ x0) ∧ (x0 ≤ x2)), hm, rfl, rfl⟩
theorem image_fits_lift {H : Hp} (x0 : List (List Sec)) (x1 : api_Write) {A1 : Option Addr} {n1 c1 : Nat} {s1 : List Value} (hF1 : Fz (α := List Sec) H A1 n1 c1 x0 s1) {A2 : Option Addr} {n2 c2 : Nat} {s2 : List Value} (hF2 : Fz (α := Sec) H A2 n2 c2 x1.Data s2) {Φ : Int → Prop} (hm : image_fits_W x0 x1 Φ) : RetP Tryd.prog 113 #[.slice A1 n1 c1, .agg #[.int .i64 x1.Volume, .int .i64 x1.Start, .slice A2 n2 c2]] H (fun _ v L => ∃ y, Φ y ∧ v = .int .i64 (y) ∧ L = []) := by
 refine RetP.of_code Tryd.func113 rfl (nb rfl) fun w0 hM => ?_
 refine CW.sr ?_
 refine RW.box hM (.agg #[.int .i64 x1.Volume, .int .i64 x1.Start, .slice A2 n2 c2]) [.int .i64 x1.Volume, .int .i64 x1.Start, .slice A2 n2 c2] rfl rfl rfl rfl ?_; intro b3 w hM
 refine RW.st (Ex.assign (.int .i64 0) rfl) rfl <| RW.nil <| CW.seq <| CW.block ?_
 skip
 refine CW.cut (fun D σ w => D = [] ∧ (∃ τ, σ = sl [(0, .slice A1 n1 c1), (3, .pointer (some ⟨b3, 0, none⟩)), (5, .bool (decide ((x1.Volume < 0) ∨ ((x0.length : Int) ≤ x1.Volume))))] τ) ∧ Mem w0 H w H [.box b3 100 [.int .i64 x1.Volume, .int .i64 x1.Start, .slice A2 n2 c2]]) ?_ ?_
 ·
  skip
  refine CW.region <| RW.st (Ex.fieldAddr fa100_0 rfl) rfl <| RW.st (Ex.load1 hM 0 to3 rfl rfl rfl) rfl <| RW.st (Ex.lss rfl rfl) rfl <| RW.st (Ex.move (.bool (decide (x1.Volume < 0))) rfl) rfl ?_
  refine RW.split 9 (p := x1.Volume < 0) rfl (fun hc4 => ?_) (fun hc4 => ?_)
  ·
   skip
   refine RW.pp <| RW.pp <| RW.pass rfl rfl <| RW.st (Ex.pickT (.bool true) rfl rfl) rfl <| RW.st (Ex.assign (.bool true) rfl) rfl <| RW.nil ?_
   exact And.intro rfl (And.intro (slc ⟨rfl, rfl, (congrArg Value.bool (decide_eq_true (.inl hc4)).symm), trivial⟩) hM)
  ·
   skip
   refine RW.st (Ex.fieldAddr fa100_0 rfl) rfl <| RW.st (Ex.load1 hM 0 to3 rfl rfl rfl) rfl <| RW.st (Ex.move (.slice A1 n1 c1) rfl) rfl <| RW.st (Ex.lenN st25.1 rfl hF1.hn) rfl <| RW.st (Ex.geq rfl rfl) rfl <| RW.st (Ex.pickF (.bool (decide ((x0.length : Int) ≤ x1.Volume))) rfl rfl) rfl <| RW.st (Ex.assign (.bool (decide ((x0.length : Int) ≤ x1.Volume))) rfl) rfl <| RW.nil ?_
   exact And.intro rfl (And.intro (slc ⟨rfl, rfl, (congrArg Value.bool (decide_eq_decide.2 (imOr hc4 Iff.rfl))), trivial⟩) hM)
 rintro _ _ w ⟨rfl, ⟨τ, rfl⟩, hM⟩
 refine CW.cond_dec (p := (x1.Volume < 0) ∨ ((x0.length : Int) ≤ x1.Volume)) rfl (fun hc5 => ?_) (fun hc5 => ?_)
 ·
  replace hm := And.left hm hc5
  refine CW.sr <| RW.st (Ex.assign (.int .i64 7) rfl) rfl <| RW.nil <| CW.ret ?_
  refine bqr (tqr ?_)
  refine end_tmp (.inl rfl) rfl (.int .i64 7) rfl ?_
  exact ⟨_, _, (hM.pick [] rfl rfl), 7, hm, rfl, rfl⟩
 ·
  replace hm := And.right hm hc5
  refine CW.sr <| RW.st (Ex.fieldAddr fa100_2 rfl) rfl <| RW.st (Ex.load1 hM 0 to61 rfl rfl rfl) rfl <| RW.st (Ex.lenN st61.1 rfl hF2.hn) rfl <| RW.st (Ex.eql rfl rfl) rfl <| RW.st (Ex.assign (.bool (decide ((x1.Data.length : Int) = 0))) rfl) rfl <| RW.nil ?_
  refine CW.cond_dec (p := (x1.Data.length : Int) = 0) rfl (fun hc6 => ?_) (fun hc6 => ?_)
  ·
   replace hm := And.left hm hc6
   refine CW.sr <| RW.st (Ex.assign (.int .i64 1) rfl) rfl <| RW.nil <| CW.ret ?_
   refine bqr (tqr ?_)
   refine end_tmp (.inl rfl) rfl (.int .i64 1) rfl ?_
   exact ⟨_, _, (hM.pick [] rfl rfl), 1, hm, rfl, rfl⟩
  ·
   replace hm := And.right hm hc6
   obtain ⟨hG13, hm⟩ := hm
   refine CW.cut (fun D σ w => D = [] ∧ (∃ τ, σ = sl [(21, .bool (decide ((x1.Start < 0) ∨ ((((ix x0 x1.Volume).length : Int) - (x1.Data.length : Int)) < x1.Start))))] τ) ∧ Mem w0 H w H [.box b3 100 [.int .i64 x1.Volume, .int .i64 x1.Start, .slice A2 n2 c2]]) ?_ ?_
   ·
    replace hm := hG13
    by_cases hc7 : x1.Start < 0
    ·
     skip
     refine CW.drawE 19 [.pointer (some ⟨b3, 1, none⟩), .int .i64 x1.Start, .bool true, .bool true, undef, undef, undef, undef, undef, undef, undef, undef, undef, undef, undef, undef, undef, .bool true, .bool true]
      [[(3, none)], [(22, some 0)], [(23, some 1)], [(24, some 2)], [(25, some 3)], [(25, some 3)], [(25, some 3)], [(25, some 3)], [(25, some 3)], [(25, some 3)], [(25, some 3)], [(25, some 3)], [(25, some 3)], [(25, some 3)], [(25, some 3)], [(25, some 3)], [(25, some 3)], [(25, some 3), (38, some 16)], [(39, some 17)]] [(21, some 18)] (by kernel_rfl) hM (by kernel_rfl) ⟨?_, ?_, ?_, ?_, ?_, ?_, ?_, ?_, ?_, ?_, ?_, ?_, ?_, ?_, ?_, ?_, ?_, ?_, ?_, trivial⟩ ?_
     · exact One.ex (fun H' τ w hled hM => Ex.fieldAddr fa100_1 rfl) rfl (fun _ => rfl) rfl
     · exact One.ex (fun H' τ w hled hM => Ex.load1 hM 0 to3 rfl rfl rfl) rfl (fun _ => rfl) rfl
     · exact One.ex (fun H' τ w hled hM => Ex.yes (Ex.lss rfl rfl) hc7) rfl (fun _ => rfl) rfl
     · exact One.ex (fun H' τ w hled hM => Ex.move (.bool true) rfl) rfl (fun _ => rfl) rfl
     · exact One.pass (fun _ => rfl) rfl
     · exact One.pass (fun _ => rfl) rfl
     · exact One.pass (fun _ => rfl) rfl
     · exact One.pass (fun _ => rfl) rfl
     · exact One.pass (fun _ => rfl) rfl
     · exact One.pass (fun _ => rfl) rfl
     · exact One.pass (fun _ => rfl) rfl
     · exact One.pass (fun _ => rfl) rfl
     · exact One.pass (fun _ => rfl) rfl
     · exact One.pass (fun _ => rfl) rfl
     · exact One.pass (fun _ => rfl) rfl
     · exact One.pass (fun _ => rfl) rfl
     · exact One.pass (fun _ => rfl) rfl
     · exact One.ex (fun H' τ w hled hM => Ex.pickT (.bool true) rfl rfl) rfl (fun _ => rfl) rfl
     · exact One.ex (fun H' τ w hled hM => Ex.assign (.bool true) rfl) rfl (fun _ => rfl) rfl
     intro τ w hM
     change RW _ _ _ _ _ _ _ _ (sl [(21, .bool true)] τ) _
     refine RW.nil ?_
     exact And.intro rfl (And.intro (slc ⟨(congrArg Value.bool (decide_eq_true (.inl hc7)).symm), trivial⟩) hM)
    ·
     replace hm := hm hc7
     obtain ⟨hg8, hm⟩ := hm
     obtain ⟨_, ⟨A9, n9, c9, s9, rfl, hF9⟩, hx10⟩ := DtL.getI (α := List Sec) hF1.dat hg8
     have hg11 := hm
     refine CW.drawE 19 [.pointer (some ⟨b3, 1, none⟩), .int .i64 x1.Start, .bool false, .bool false, .pointer (some ⟨b3, 1, none⟩), .int .i64 x1.Start, .slice A1 n1 c1, .pointer (some ⟨b3, 0, none⟩), .int .i64 x1.Volume, elp A1 (x1.Volume.toNat * 1 + 0), .slice A9 n9 c9, .int .i64 (((ix x0 x1.Volume).length : Int)), .pointer (some ⟨b3, 2, none⟩), .slice A2 n2 c2, .int .i64 ((x1.Data.length : Int)), .int .i64 (((ix x0 x1.Volume).length : Int) - (x1.Data.length : Int)), .bool (decide ((((ix x0 x1.Volume).length : Int) - (x1.Data.length : Int)) < x1.Start)), .bool (decide ((((ix x0 x1.Volume).length : Int) - (x1.Data.length : Int)) < x1.Start)), .bool (decide ((((ix x0 x1.Volume).length : Int) - (x1.Data.length : Int)) < x1.Start))]
      [[(3, none)], [(22, some 0)], [(23, some 1)], [(24, some 2)], [(3, none), (25, some 3)], [(25, some 3), (26, some 4)], [(0, none), (25, some 3)], [(3, none), (25, some 3)], [(25, some 3), (29, some 7)], [(25, some 3), (28, some 6), (30, some 8)], [(25, some 3), (31, some 9)], [(25, some 3), (32, some 10)], [(3, none), (25, some 3)], [(25, some 3), (34, some 12)], [(25, some 3), (35, some 13)], [(25, some 3), (33, some 11), (36, some 14)], [(25, some 3), (27, some 5), (37, some 15)], [(25, some 3), (38, some 16)], [(39, some 17)]] [(21, some 18)] (by kernel_rfl) hM (by kernel_rfl) ⟨?_, ?_, ?_, ?_, ?_, ?_, ?_, ?_, ?_, ?_, ?_, ?_, ?_, ?_, ?_, ?_, ?_, ?_, ?_, trivial⟩ ?_
     · exact One.ex (fun H' τ w hled hM => Ex.fieldAddr fa100_1 rfl) rfl (fun _ => rfl) rfl
     · exact One.ex (fun H' τ w hled hM => Ex.load1 hM 0 to3 rfl rfl rfl) rfl (fun _ => rfl) rfl
     · exact One.ex (fun H' τ w hled hM => Ex.no (Ex.lss rfl rfl) hc7) rfl (fun _ => rfl) rfl
     · exact One.ex (fun H' τ w hled hM => Ex.move (.bool false) rfl) rfl (fun _ => rfl) rfl
     · exact One.ex (fun H' τ w hled hM => Ex.fieldAddr fa100_1 rfl) rfl (fun _ => rfl) rfl
     · exact One.ex (fun H' τ w hled hM => Ex.load1 hM 0 to3 rfl rfl rfl) rfl (fun _ => rfl) rfl
     · exact One.ex (fun H' τ w hled hM => Ex.move (.slice A1 n1 c1) rfl) rfl (fun _ => rfl) rfl
     · exact One.ex (fun H' τ w hled hM => Ex.fieldAddr fa100_0 rfl) rfl (fun _ => rfl) rfl
     · exact One.ex (fun H' τ w hled hM => Ex.load1 hM 0 to3 rfl rfl rfl) rfl (fun _ => rfl) rfl
     · exact One.ex (fun H' τ w hled hM => Ex.index st25 rfl rfl x1.Volume.toNat (hF1.ne hg8) hg8.nat (hF1.lt hg8)) rfl (fun _ => rfl) rfl
     · exact One.ex (fun H' τ w hled hM => Ex.loadE hM hled hF1.rdc to61 rfl (hx10 0 _ rfl)) rfl (fun _ => rfl) rfl
     · exact One.ex (fun H' τ w hled hM => Ex.lenN st61.1 rfl hF9.hn) rfl (fun _ => rfl) rfl
     · exact One.ex (fun H' τ w hled hM => Ex.fieldAddr fa100_2 rfl) rfl (fun _ => rfl) rfl
     · exact One.ex (fun H' τ w hled hM => Ex.load1 hM 0 to61 rfl rfl rfl) rfl (fun _ => rfl) rfl
     · exact One.ex (fun H' τ w hled hM => Ex.lenN st61.1 rfl hF2.hn) rfl (fun _ => rfl) rfl
     · exact One.ex (fun H' τ w hled hM => Ex.sub rfl rfl hg11.1 hg11.2) rfl (fun _ => rfl) rfl
     · exact One.ex (fun H' τ w hled hM => Ex.gtr rfl rfl) rfl (fun _ => rfl) rfl
     · exact One.ex (fun H' τ w hled hM => Ex.pickF (.bool (decide ((((ix x0 x1.Volume).length : Int) - (x1.Data.length : Int)) < x1.Start))) rfl rfl) rfl (fun _ => rfl) rfl
     · exact One.ex (fun H' τ w hled hM => Ex.assign (.bool (decide ((((ix x0 x1.Volume).length : Int) - (x1.Data.length : Int)) < x1.Start))) rfl) rfl (fun _ => rfl) rfl
     intro τ w hM
     change RW _ _ _ _ _ _ _ _ (sl [(21, .bool (decide ((((ix x0 x1.Volume).length : Int) - (x1.Data.length : Int)) < x1.Start)))] τ) _
     refine RW.nil ?_
     exact And.intro rfl (And.intro (slc ⟨(congrArg Value.bool (decide_eq_decide.2 (imOr hc7 Iff.rfl))), trivial⟩) hM)
   rintro _ _ w ⟨rfl, ⟨τ, rfl⟩, hM⟩
   refine CW.cond_dec (p := (x1.Start < 0) ∨ ((((ix x0 x1.Volume).length : Int) - (x1.Data.length : Int)) < x1.Start)) rfl (fun hc12 => ?_) (fun hc12 => ?_)
   ·
    replace hm := And.left hm hc12
    refine CW.sr <| RW.st (Ex.assign (.int .i64 2) rfl) rfl <| RW.nil <| CW.ret ?_
    refine bqr (tqr ?_)
    refine end_tmp (.inl rfl) rfl (.int .i64 2) rfl ?_
    exact ⟨_, _, (hM.pick [] rfl rfl), 2, hm, rfl, rfl⟩
   ·
    replace hm := And.right hm hc12
    refine CW.skip <| CW.sr <| RW.st (Ex.assign (.int .i64 0) rfl) rfl <| RW.nil <| CW.ret ?_
    refine end_tmp (.inl rfl) rfl (.int .i64 0) rfl ?_
    exact ⟨_, _, (hM.pick [] rfl rfl), 0, hm, rfl, rfl⟩
theorem ref02_SameExtents_lift {H : Hp} (x0 : List api_Extent) (x1 : List api_Extent) {A1 : Option Addr} {n1 c1 : Nat} {s1 : List Value} (hF1 : Fz (α := api_Extent) H A1 n1 c1 x0 s1) {A2 : Option Addr} {n2 c2 : Nat} {s2 : List Value} (hF2 : Fz (α := api_Extent) H A2 n2 c2 x1 s2) {Φ : Bool → Prop} (hm : ref02_SameExtents_W x0 x1 Φ) : RetP Tryd.prog 49 #[.slice A1 n1 c1, .slice A2 n2 c2] H (fun _ v L => ∃ y, Φ y ∧ v = .bool y ∧ L = []) := by
 refine RetP.of_code Tryd.func49 rfl (nb rfl) fun w0 hM => ?_
 refine CW.sr <| RW.st (Ex.assign (.bool false) rfl) rfl <| RW.nil <| CW.seq <| CW.sr <| RW.st (Ex.move (.slice A1 n1 c1) rfl) rfl <| RW.st (Ex.lenN st68.1 rfl hF1.hn) rfl <| RW.st (Ex.move (.slice A2 n2 c2) rfl) rfl <| RW.st (Ex.lenN st68.1 rfl hF2.hn) rfl <| RW.st (Ex.neq rfl rfl) rfl <| RW.nil ?_
 refine CW.cond_dec (p := (x0.length : Int) ≠ (x1.length : Int)) rfl (fun hc3 => ?_) (fun hc3 => ?_)
 ·
  replace hm := And.left hm hc3
  refine CW.sr <| RW.st (Ex.assign (.bool false) rfl) rfl <| RW.nil <| CW.ret ?_
  refine tqr ?_
  refine end_tmp (.inl rfl) rfl (.bool false) rfl ?_
  exact ⟨_, _, hM, false, hm, rfl, rfl⟩
 ·
  replace hm := And.right hm hc3
  refine CW.skip <| CW.seq <| CW.sr <| RW.st (Ex.assign (.int .i64 0) rfl) rfl <| RW.nil <| CW.block ?_
  obtain ⟨m16, hm⟩ := hm
  skip
  refine CW.loop (β := Nat) (fun n σ w => ∃ (v6 : Int), ∃ Hk4, H.le Hk4 ∧ (∃ τ, σ = sl [(0, .slice A1 n1 c1), (1, .slice A2 n2 c2), (5, .int .i64 v6)] τ) ∧ Mem w0 H w Hk4 [] ∧ LoopN (ref02_SameExtents_L1 x0 x1 Φ) n (v6)) (fun n => n) m16 ⟨0, H, (Hp.le.refl _), slc ⟨rfl, rfl, rfl, trivial⟩, hM, hm⟩ ?_
  rintro k7 _ w ⟨v6, Hk4, hle5, ⟨τ, rfl⟩, hM, hm⟩
  obtain _ | k7 := k7
  · exact hm.elim
  replace hm : (ref02_SameExtents_L1 x0 x1 Φ) (v6) (LoopN (ref02_SameExtents_L1 x0 x1 Φ) k7) := hm
  generalize hrec8 : LoopN (ref02_SameExtents_L1 x0 x1 Φ) k7 = rec1 at hm
  refine CW.seq <| CW.sr <| RW.st (Ex.move (.int .i64 v6) rfl) rfl <| RW.st (Ex.move (.slice A1 n1 c1) rfl) rfl <| RW.st (Ex.lenN st68.1 rfl hF1.hn) rfl <| RW.st (Ex.lss rfl rfl) rfl <| RW.nil ?_
  refine CW.cond_dec (p := v6 < (x0.length : Int)) rfl (fun hc9 => ?_) (fun hc9 => ?_)
  ·
   replace hm := And.left hm hc9
   refine CW.skip <| CW.seq <| CW.block <| CW.seq ?_
   obtain ⟨hg10, hm⟩ := hm
   obtain ⟨_, rfl, hx11⟩ := DtL.getI (α := api_Extent) (hF1.mono hle5).dat hg10
   obtain ⟨hg12, hm⟩ := hm
   obtain ⟨_, rfl, hx13⟩ := DtL.getI (α := api_Extent) (hF2.mono hle5).dat hg12
   refine CW.drawE 9 [.slice A1 n1 c1, .int .i64 v6, elp A1 (v6.toNat * 2 + 0), .agg #[.int .i64 ((ix x0 v6).Start), .int .i64 ((ix x0 v6).Count)], .slice A2 n2 c2, .int .i64 v6, elp A2 (v6.toNat * 2 + 0), .agg #[.int .i64 ((ix x1 v6).Start), .int .i64 ((ix x1 v6).Count)], .bool (decide ((ix x0 v6) ≠ (ix x1 v6)))]
    [[(0, none)], [(5, none)], [(17, some 0), (18, some 1)], [(19, some 2)], [(1, none)], [(5, none)], [(21, some 4), (22, some 5)], [(23, some 6)], [(20, some 3), (24, some 7)]] [(0, none), (1, none), (5, none), (25, some 8)] (by kernel_rfl) hM (by kernel_rfl) ⟨?_, ?_, ?_, ?_, ?_, ?_, ?_, ?_, ?_, trivial⟩ ?_
   · exact One.ex (fun H' τ w hled hM => Ex.move (.slice A1 n1 c1) rfl) rfl (fun _ => rfl) rfl
   · exact One.ex (fun H' τ w hled hM => Ex.move (.int .i64 v6) rfl) rfl (fun _ => rfl) rfl
   · exact One.ex (fun H' τ w hled hM => Ex.index st68 rfl rfl v6.toNat (hF1.ne hg10) hg10.nat (hF1.lt hg10)) rfl (fun _ => rfl) rfl
   · exact One.ex (fun H' τ w hled hM => Ex.loadEA hM (hle5.trans hled) hF1.rdc [.int .i64 ((ix x0 v6).Start), .int .i64 ((ix x0 v6).Count)] ta103 rfl (hF1.ne hg10) rfl (chunk_sub (off := 0) (n := 2) hx11 rfl)) rfl (fun _ => rfl) rfl
   · exact One.ex (fun H' τ w hled hM => Ex.move (.slice A2 n2 c2) rfl) rfl (fun _ => rfl) rfl
   · exact One.ex (fun H' τ w hled hM => Ex.move (.int .i64 v6) rfl) rfl (fun _ => rfl) rfl
   · exact One.ex (fun H' τ w hled hM => Ex.index st68 rfl rfl v6.toNat (hF2.ne hg12) hg12.nat (hF2.lt hg12)) rfl (fun _ => rfl) rfl
   · exact One.ex (fun H' τ w hled hM => Ex.loadEA hM (hle5.trans hled) hF2.rdc [.int .i64 ((ix x1 v6).Start), .int .i64 ((ix x1 v6).Count)] ta103 rfl (hF2.ne hg12) rfl (chunk_sub (off := 0) (n := 2) hx13 rfl)) rfl (fun _ => rfl) rfl
   · exact One.ex (fun H' τ w hled hM => Ex.neqS (p := (ix x0 v6) ≠ (ix x1 v6)) [.i .i64 ((ix x0 v6).Start), .i .i64 ((ix x0 v6).Count)] [.i .i64 ((ix x1 v6).Start), .i .i64 ((ix x1 v6).Count)] (by kernel_rfl) rfl rfl rfl rfl rfl (not_congr (sc_api_Extent (ix x0 v6) (ix x1 v6)))) rfl (fun _ => rfl) rfl
   intro τ w hM
   change RW _ _ _ _ _ _ _ _ (sl [(0, .slice A1 n1 c1), (1, .slice A2 n2 c2), (5, .int .i64 v6), (25, .bool (decide ((ix x0 v6) ≠ (ix x1 v6))))] τ) _
   refine RW.nil ?_
   refine CW.cond_dec (p := (ix x0 v6) ≠ (ix x1 v6)) rfl (fun hc14 => ?_) (fun hc14 => ?_)
   ·
    replace hm := And.left hm hc14
    refine CW.sr <| RW.st (Ex.assign (.bool false) rfl) rfl <| RW.nil <| CW.ret ?_
    refine bqr (tqr (tqr (bqr (tqr ?_))))
    refine end_tmp (.inl rfl) rfl (.bool false) rfl ?_
    exact ⟨_, _, hM, false, hm, rfl, rfl⟩
   ·
    replace hm := And.right hm hc14
    refine CW.skip <| CW.region <| RW.st (Ex.move (.int .i64 v6) rfl) rfl ?_
    obtain ⟨hg15, hm⟩ := hm
    refine RW.st (Ex.add rfl rfl hg15.1 hg15.2) rfl <| RW.st (Ex.assign (.int .i64 (v6 + 1)) rfl) rfl <| RW.nil ?_
    exact And.intro rfl ⟨k7, ⟨v6 + 1, Hk4, hle5.trans (Hp.le.refl _), slc ⟨rfl, rfl, rfl, trivial⟩, hM, (by rw [hrec8]; exact hm)⟩, Nat.lt_succ_self _⟩
  ·
   replace hm := And.right hm hc9
   refine CW.exit ?_
   refine CW.sr <| RW.st (Ex.assign (.bool true) rfl) rfl <| RW.nil <| CW.ret ?_
   refine end_tmp (.inl rfl) rfl (.bool true) rfl ?_
   exact ⟨_, _, hM, true, hm, rfl, rfl⟩
end Go.Proofs.YtahlanamngfkcaaDoor
