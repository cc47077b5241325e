/- package bitmap: the elements, Next, Extents -/
import Derived.Test.YtackllehpecfgaaDoorBm7
import Derived.Test.YtackllehpecfgaaDoorTz
namespace Go.Proofs.YtackllehpecfgaaDoor
open Go.RowKit

theorem tz_ret (H : Hp) (x : BitVec 64) (hx : x ≠ 0#64) (hT : TabH H 0) : RetV Tryd.prog 58 #[u64 x] H (.int .i64 (Lib.ctz 64 x.toNat : Int)) := by
  obtain ⟨cs, T, fr, hb, hc⟩ := hT
  obtain ⟨hi, htab, hk⟩ := tz_idx hx
  refine Ret.of_code Tryd.func58 rfl (Nat.le_of_ble_eq_true rfl) fun w0 hM => ?_
  refine CW.seq (CW.region (RW.step (Ex.assign (.int .i64 0) rfl) rfl rfl rfl (RW.nil ?_)))
  refine CW.seq (CW.seq (CW.region (RW.step (Ex.move (u64 x) rfl) rfl rfl rfl (RW.step (Ex.eql64 (a := x) (b := 0#64) rfl rfl) rfl rfl rfl (RW.nil ?_)))))
  refine CW.cond_dec rfl (fun h => absurd h hx) fun _ => CW.skip ?_
  refine CW.seq (CW.region ?_)
  refine RW.step (Ex.move (u64 x) rfl) rfl rfl rfl ?_
  refine RW.step (Ex.move (u64 x) rfl) rfl rfl rfl ?_
  refine RW.step (Ex.neg64 (a := x) rfl) rfl rfl rfl ?_
  refine RW.step (Ex.and64 (a := x) (b := -x) rfl rfl) rfl rfl rfl ?_
  refine RW.step (Ex.mul64 (a := x &&& -x) (b := 285870213051353865#64) rfl rfl) rfl rfl rfl ?_
  refine RW.step (Ex.shr64 (a := (x &&& -x) * 285870213051353865#64) (n := 58) rfl rfl (by omega)) rfl rfl rfl ?_
  refine RW.step (Ex.indexArr (arrT_of (n := 64) (e := 5) (sz := 1) (by kernel_rfl)) rfl rfl (((x &&& -x) * 285870213051353865#64) >>> (58 : Int).toNat).toNat rfl hi) rfl rfl rfl ?_
  refine RW.step (Ex.loadH hM (Hp.le.refl _) hb to5 rfl (by rw [Nat.zero_add, Nat.mul_one, hc _ hi, htab])) rfl rfl rfl ?_
  refine RW.step (Ex.conv Tryd.underlying5 Tryd.underlying3 rfl (wrap_i64 (by omega) (by omega))) rfl rfl rfl ?_
  refine RW.step (Ex.assign (.int .i64 (Lib.ctz 64 x.toNat : Int)) rfl) rfl rfl rfl (RW.nil ?_)
  refine CW.ret ?_
  refine end_tmp (.inl rfl) rfl (.int .i64 (Lib.ctz 64 x.toNat : Int)) rfl ?_
  exact ⟨_, _, hM, rfl⟩


theorem elements_ret (H : Hp) (A1 : Option Addr) (n : Int) (c1 : Nat) (ws : List (BitVec 64)) (hr1 : RdC H A1 ws.length c1 1 (ws.map u64)) (a : Int) : Ret Tryd.prog 46 #[.agg #[.int .i64 n, .slice A1 ws.length c1], .int .i64 a] H (ELv 57 [.int .i64 n, .slice A1 ws.length c1] a) := by
  have hL := hr1.2.2.1
  have hL1 := hr1.2.1
  unfold maxLen at hL
  refine Ret.of_code Tryd.func46 rfl (Nat.le_of_ble_eq_true rfl) fun w0 hM => ?_
  refine CW.seq ?_
  refine CW.region ?_
  refine RW.box hM (.agg #[.int .i64 (n), .slice A1 ws.length c1]) [.int .i64 (n), .slice A1 ws.length c1] rfl rfl rfl rfl ?_; intro b1 w hM
  refine RW.box hM (.int .i64 (a)) [.int .i64 (a)] rfl rfl rfl rfl ?_; intro b2 w hM
  refine RW.step (Ex.assign (.nilFunc) rfl) rfl rfl rfl ?_
  refine RW.nil ?_
  refine CW.seq ?_
  refine CW.region ?_
  refine RW.step (Ex.makeFunc (fs := []) (cs := [.pointer (some ⟨b1, 0, none⟩), .pointer (some ⟨b2, 0, none⟩)]) rfl rfl) rfl rfl rfl ?_
  refine RW.step (Ex.assign (.func (.func 57) #[] #[.pointer (some ⟨b1, 0, none⟩), .pointer (some ⟨b2, 0, none⟩)]) rfl) rfl rfl rfl ?_
  refine RW.nil ?_
  refine CW.ret ?_
  refine end_tmp (.inl rfl) rfl (.func (.func 57) #[] #[.pointer (some ⟨b1, 0, none⟩), .pointer (some ⟨b2, 0, none⟩)]) rfl ?_
  obtain ⟨H8, hM, hle8, hb8⟩ := hM.giveBox (k := 1) rfl
  obtain ⟨H9, hM, hle9, hb9⟩ := hM.giveBox (k := 0) rfl
  exact ⟨_, _, hM, _, _, _, _, rfl, hle9 _ _ hb8, hb9⟩

theorem elements1_iter (H : Hp) (A1 : Option Addr) (n : Int) (c1 : Nat) (ws : List (BitVec 64)) (hr1 : RdC H A1 ws.length c1 1 (ws.map u64)) (a : Int) (b1 b2 : Nat) (T1 T2 : TypeId) (hb1 : H b1 = some (.cells [Value.int .i64 n, .slice A1 ws.length c1].toArray T1 (0, 0))) (hb2 : H b2 = some (.cells [Value.int .i64 a].toArray T2 (0, 0))) (hT : TabH H 0) (ha0 : 0 ≤ a) (ha1 : a ≤ 9223372036854775807) : Iter Tryd.prog 57 [.pointer (some ⟨b1, 0, none⟩), .pointer (some ⟨b2, 0, none⟩)] H (elL n ws a).length (fun k => [.int .i64 (((elL n ws a).getD k 0 : Nat) : Int)]) := by
  have hL := hr1.2.2.1
  have hL1 := hr1.2.1
  unfold maxLen at hL
  intro l J Jx W hW hJa hJxa hY hJ
  refine (calls_of_code Tryd.func57 rfl (Nat.le_of_ble_eq_true rfl) (R := fun _ w => J ((elL n ws a).length) w ∨ ∃ k, k < ((elL n ws a).length) ∧ Jx k w) ?_).mono fun e w ⟨v, h1, h2⟩ => ⟨v, h1, h2⟩
  have hM : Mem W H W H [] := Mem.start hW
  obtain ⟨w0, hw0⟩ : ∃ w0, W = w0 := ⟨_, rfl⟩
  rw [hw0] at hJ hM
  rw [hw0]
  refine CW.seq ?_
  refine CW.seq ?_
  refine CW.region ?_
  refine RW.step (Ex.loadHA hM (Hp.le.refl _) hb1 [.int .i64 (n), .slice A1 ws.length c1] ta24 rfl rfl rfl) rfl rfl rfl ?_
  refine RW.callV hM (check_ret _ _ n _ ws hr1) en20 rfl rfl rfl rfl ?_; intro w hM
  refine RW.step (Ex.neq rfl rfl) rfl rfl rfl ?_
  refine RW.nil ?_
  refine CW.cond_dec rfl (fun hc1 => ?_) (fun hc1 => ?_)
  · -- yes: (chk n ws) ≠ 0
    refine CW.ret ?_
    refine thenQ_ret ?_
    refine end_none (.inl rfl) rfl ?_
    exact Or.inl (by rw [elL_form hc1]; exact hJa 0 _ _ hJ hM.below)
  · -- no: (chk n ws) ≠ 0
    have hck := hc1
    have hwl := wf_len (Classical.not_not.1 hck)
    refine CW.skip ?_
    refine CW.seq ?_
    refine CW.region ?_
    refine RW.step (Ex.fieldAddr fa24_1 rfl) rfl rfl rfl ?_
    refine RW.step (Ex.loadH hM (Hp.le.refl _) hb1 to22 rfl rfl) rfl rfl rfl ?_
    refine RW.step (Ex.len st22.1 rfl) rfl rfl rfl ?_
    refine RW.step (Ex.move (.int .i64 (0)) rfl) rfl rfl rfl ?_
    refine RW.nil ?_
    refine CW.block ?_
    refine CW.loop (β := Nat) (fun (i : Nat) σ w => (∃ τ, σ = sl [(0, .func (.yield l) #[] #[]), (1, .pointer (some ⟨b1, 0, none⟩)), (2, .pointer (some ⟨b2, 0, none⟩)), (10, .slice A1 ws.length c1), (11, .int .i64 ((ws.length : Int))), (12, .int .i64 ((i : Int)))] τ) ∧ (∃ w0, J ((elK ws a (64 * i)).length) w0 ∧ Mem w0 H w H []) ∧ (i ≤ ws.length) ∧ True) (fun i => ws.length - i) (0) ⟨sl_canon ⟨rfl, rfl, rfl, rfl, rfl, (show Value.int _ _ = Value.int _ _ from congrArg (Value.int _) (by omega)), trivial⟩, ⟨_, (show J ((elK ws a (64 * 0)).length) _ from hJ), hM⟩, (by omega), trivial⟩ ?_
    rintro i _ w ⟨⟨τ, rfl⟩, ⟨w0, hJ, hM⟩, hi, -⟩
    refine CW.seq ?_
    refine CW.region ?_
    refine RW.step (Ex.lss rfl rfl) rfl rfl rfl ?_
    refine RW.nil ?_
    refine CW.seq ?_
    refine CW.cond_dec rfl (fun hc2 => ?_) (fun hc2 => ?_)
    · -- yes: (i : Int) < (ws.length : Int)
      refine CW.skip ?_
      refine CW.seq ?_
      refine CW.block ?_
      refine CW.seq ?_
      refine CW.region ?_
      refine RW.step (Ex.move (.int .i64 ((i : Int))) rfl) rfl rfl rfl ?_
      refine RW.step (Ex.index st22 rfl rfl i (hr1.ne (by omega)) (by omega) (by omega)) rfl rfl rfl ?_
      refine RW.step (Ex.loadE hM (Hp.le.refl _) hr1 to55 rfl (getW (by omega))) rfl rfl rfl ?_
      refine RW.step (Ex.assign (.int .i64 ((i : Int))) rfl) rfl rfl rfl ?_
      refine RW.step (Ex.assign (u64 (ws.getD i 0#64)) rfl) rfl rfl rfl ?_
      refine RW.nil ?_
      refine CW.seq ?_
      refine CW.region ?_
      refine RW.step (Ex.move (u64 (ws.getD i 0#64)) rfl) rfl rfl rfl ?_
      refine RW.step (Ex.move (.int .i64 ((i : Int))) rfl) rfl rfl rfl ?_
      refine RW.step (Ex.loadH hM (Hp.le.refl _) hb2 to3 rfl rfl) rfl rfl rfl ?_
      refine RW.step (Ex.fieldAddr fa24_0 rfl) rfl rfl rfl ?_
      refine RW.step (Ex.loadH hM (Hp.le.refl _) hb1 to3 rfl rfl) rfl rfl rfl ?_
      refine RW.callV hM (mask_ret _ (i : Int) a n (by omega) (by omega) (by omega) (by omega) (by omega) (by omega)) en55 rfl rfl rfl rfl ?_; intro w hM
      refine RW.step (Ex.and64 (a := ws.getD i 0#64) (b := maskW (i : Int) a n) rfl rfl) rfl rfl rfl ?_
      refine RW.step (Ex.assign (u64 ((ws.getD i 0#64) &&& (maskW (i : Int) a n))) rfl) rfl rfl rfl ?_
      refine RW.nil ?_
      refine CW.block ?_
      refine CW.loop (β := Nat) (fun (p : Nat) σ w => ∃ (x : BitVec 64), (∃ τ, σ = sl [(0, .func (.yield l) #[] #[]), (1, .pointer (some ⟨b1, 0, none⟩)), (2, .pointer (some ⟨b2, 0, none⟩)), (4, .int .i64 ((i : Int))), (5, u64 (x)), (10, .slice A1 ws.length c1), (11, .int .i64 ((ws.length : Int))), (12, .int .i64 ((i : Int))), (13, .bool (decide ((i : Int) < (ws.length : Int)))), (14, .int .i64 ((i : Int))), (15, elp A1 (i * 1 + 0)), (16, u64 (ws.getD i 0#64)), (17, u64 (ws.getD i 0#64)), (18, .int .i64 ((i : Int))), (19, .int .i64 (a)), (20, .pointer (some ⟨b1, 0, none⟩)), (21, .int .i64 (n)), (22, u64 (maskW (i : Int) a n)), (23, u64 ((ws.getD i 0#64) &&& (maskW (i : Int) a n)))] τ) ∧ (∃ w0, J ((elK ws a p).length) w0 ∧ Mem w0 H w H []) ∧ (64 * i ≤ p) ∧ (p ≤ 64 * (i + 1)) ∧ (elX n ws a i p x) ∧ True) (fun p => 64 * (i + 1) - p) (64 * i) ⟨(ws.getD i 0#64) &&& (maskW (i : Int) a n), sl_canon ⟨rfl, rfl, rfl, rfl, rfl, rfl, rfl, rfl, rfl, rfl, rfl, rfl, rfl, rfl, rfl, rfl, rfl, rfl, rfl, trivial⟩, ⟨_, hJ, hM⟩, (by omega), (by omega), (elX_start n ws a i), trivial⟩ ?_
      rintro p _ w ⟨x, ⟨τ, rfl⟩, ⟨w0, hJ, hM⟩, hp1, hp2, hx, -⟩
      refine CW.seq ?_
      refine CW.seq ?_
      refine CW.region ?_
      refine RW.step (Ex.move (u64 (x)) rfl) rfl rfl rfl ?_
      refine RW.step (Ex.neq64 (a := x) (b := 0#64) rfl rfl) rfl rfl rfl ?_
      refine RW.nil ?_
      refine CW.cond_dec rfl (fun hc3 => ?_) (fun hc3 => ?_)
      · -- yes: x ≠ (0#64)
        obtain ⟨hs1, hs2, hs3, _, _, hs6⟩ := elX_step hx hc3
        obtain ⟨hn1, hn2, hn3⟩ := elX_next hck hp1 hx hc3
        refine CW.skip ?_
        refine CW.block ?_
        refine CW.seq ?_
        refine CW.seq ?_
        refine CW.region ?_
        refine RW.step (Ex.move (.func (.yield l) #[] #[]) rfl) rfl rfl rfl ?_
        refine RW.step (Ex.move (.int .i64 ((i : Int))) rfl) rfl rfl rfl ?_
        refine RW.step (Ex.mul rfl rfl (by omega) (by omega)) rfl rfl rfl ?_
        refine RW.step (Ex.move (u64 (x)) rfl) rfl rfl rfl ?_
        refine RW.callV hM (tz_ret _ x hc3 hT) en58 rfl rfl rfl rfl ?_; intro w hM
        refine RW.step (Ex.add rfl rfl (by omega) (by omega)) rfl rfl rfl ?_
        refine RW.yield rfl (congrArg (fun z => [Value.int .i64 z]) (show ((i : Int) * 64) + (Lib.ctz 64 (x).toNat : Int) = _ by rw [hn2]; omega)) (hY ((elK ws a p).length) _ (hn1) (hJa _ _ _ hJ hM.below) hM.agree) rfl rfl ?_
        rintro _ w0 ⟨hag, ⟨rfl, hJ⟩ | ⟨rfl, hJx⟩⟩
        · -- it goes on
          replace hM : Mem w0 H w0 H [] := Mem.start hag
          refine RW.step (Ex.notB (b := true) rfl) rfl rfl rfl ?_
          refine RW.nil ?_
          refine CW.cond_false rfl ?_
          refine CW.skip ?_
          refine CW.region ?_
          refine RW.step (Ex.move (u64 (x)) rfl) rfl rfl rfl ?_
          refine RW.step (Ex.move (u64 (x)) rfl) rfl rfl rfl ?_
          refine RW.step (Ex.sub64 (a := x) (b := 1#64) rfl rfl) rfl rfl rfl ?_
          refine RW.step (Ex.and64 (a := x) (b := x - (1#64)) rfl rfl) rfl rfl rfl ?_
          refine RW.step (Ex.assign (u64 (x &&& (x - (1#64)))) rfl) rfl rfl rfl ?_
          refine RW.nil ?_
          refine And.intro rfl (Exists.intro (64 * i + Lib.ctz 64 x.toNat + 1) (And.intro ⟨x &&& (x - (1#64)), sl_canon ⟨rfl, rfl, rfl, rfl, rfl, rfl, rfl, rfl, rfl, rfl, rfl, rfl, rfl, rfl, rfl, rfl, rfl, rfl, rfl, trivial⟩, ⟨_, (by rw [hn3]; exact hJ), hM⟩, (by omega), (by omega), hs6, trivial⟩ (by omega)))
        · -- it is left
          replace hM : Mem w0 H w0 H [] := Mem.start hag
          refine RW.step (Ex.notB (b := false) rfl) rfl rfl rfl ?_
          refine RW.nil ?_
          refine CW.cond_true rfl ?_
          refine CW.ret ?_
          refine thenQ_ret (blockQ_ret (thenQ_ret (blockQ_ret (blockQ_ret (thenQ_ret (thenQ_ret (blockQ_ret ?_)))))))
          refine end_none (.inl rfl) rfl ?_
          exact Or.inr ⟨_, hn1, hJxa _ _ _ hJx hM.below⟩
      · -- no: x ≠ (0#64)
        refine CW.exit ?_
        refine CW.region ?_
        refine RW.step (Ex.add rfl rfl (by omega) (by omega)) rfl rfl rfl ?_
        refine RW.step (Ex.move (.int .i64 ((i : Int) + 1)) rfl) rfl rfl rfl ?_
        refine RW.nil ?_
        refine And.intro rfl (Exists.intro (i + 1) (And.intro ⟨sl_canon ⟨rfl, rfl, rfl, rfl, rfl, (show Value.int _ _ = Value.int _ _ from congrArg (Value.int _) (by omega)), trivial⟩, ⟨_, (by rw [elK_skip' (e := 64 * (i + 1)) hp2 (elX_end hck (by omega) hp1 (by have hxz := Classical.not_not.1 hc3; rw [hxz] at hx; exact hx))]; exact hJ), hM⟩, (by omega), trivial⟩ (by omega)))
    · -- no: (i : Int) < (ws.length : Int)
      refine CW.exit ?_
      change endQ Tryd.prog Tryd.f57 (fun _ w => J ((elL n ws a).length) w ∨ ∃ k, k < ((elL n ws a).length) ∧ Jx k w) .normal [] _ _
      refine end_none (.inr rfl) rfl ?_
      exact Or.inl (by rw [← elK_top (p := 64 * i) hc1 (by omega) (by omega)]; exact hJa _ _ _ hJ hM.below)

theorem next_ret (H : Hp) (A1 : Option Addr) (n : Int) (c1 : Nat) (ws : List (BitVec 64)) (hr1 : RdC H A1 ws.length c1 1 (ws.map u64)) (a : Int) (ha1 : a ≤ 9223372036854775807) (hT : TabH H 0) : RetV Tryd.prog 26 #[.agg #[.int .i64 n, .slice A1 ws.length c1], .int .i64 a] H (.int .i64 (nextR n ws a)) := by
  have hL := hr1.2.2.1
  have hL1 := hr1.2.1
  unfold maxLen at hL
  refine Ret.of_codeM Tryd.func26 rfl (Nat.le_of_ble_eq_true rfl) fun w0 hM => ?_
  refine CW.seq ?_
  refine CW.region ?_
  refine RW.box hM (.agg #[.int .i64 (n), .slice A1 ws.length c1]) [.int .i64 (n), .slice A1 ws.length c1] rfl rfl rfl rfl ?_; intro b1 w hM
  refine RW.alloc hM tz3 [.int .i64 (0)] rfl rfl rfl ?_; intro b2 w hM
  refine RW.nil ?_
  refine CW.seq ?_
  refine CW.seq ?_
  refine CW.region ?_
  refine RW.step (Ex.loadA hM 1 [.int .i64 (n), .slice A1 ws.length c1] ta24 rfl rfl rfl rfl) rfl rfl rfl ?_
  refine RW.step (Ex.move (.int .i64 (a)) rfl) rfl rfl rfl ?_
  refine RW.step (Ex.maxI rfl rfl) rfl rfl rfl ?_
  refine RW.call hM (elements_ret _ _ n _ ws hr1 (if a < 0 then 0 else a)) en46 rfl rfl rfl rfl ?_; rintro _ w H3 hle4 ⟨b5, b6, T7, T8, rfl, hb9, hb10⟩ hM
  refine RW.nil ?_
  refine CW.block ?_
  refine CW.range (fun k Hk L' => L' = [.box b2 3 [.int .i64 (0)], .box b1 24 [.int .i64 (n), .slice A1 ws.length c1]] ∧ (k = 0) ∧ True) hM rfl en57 (Hp.le.refl _) (elements1_iter _ _ n _ ws (hr1.mono hle4) (if a < 0 then 0 else a) b5 b6 T7 T8 hb9 hb10 (hT.mono hle4) (by omega) (by omega)) (fun _ => rfl) rfl ⟨rfl, rfl, trivial⟩ ?_ ?_
  · -- a round
    rintro l11 D12 rdy bsy k Hk _ w hk hle14 ⟨rfl, hk0, -⟩ hM
    replace hM : Mem w0 H w Hk [.box b2 3 [.int .i64 (0)], .box b1 24 [.int .i64 (n), .slice A1 ws.length c1], .obj l11 rdy, .obj D12 ddO] := hM
    refine CW.region ?_
    refine RW.step (Ex.assign (.int .i64 ((((elL n ws (if a < 0 then 0 else a)).getD k 0 : Nat) : Int))) rfl) rfl rfl rfl ?_
    refine RW.nil ?_
    refine And.intro rfl ⟨_, [.box b2 3 [.int .i64 (0)], .box b1 24 [.int .i64 (n), .slice A1 ws.length c1]], hle14, hM, fun w hM => ?_⟩
    replace hM : Mem w0 H w Hk [.box b2 3 [.int .i64 (0)], .box b1 24 [.int .i64 (n), .slice A1 ws.length c1], .obj l11 bsy, .obj D12 ddO] := hM
    refine CW.block ?_
    refine CW.seq ?_
    refine CW.region ?_
    refine RW.step (Ex.move (.int .i64 ((((elL n ws (if a < 0 then 0 else a)).getD k 0 : Nat) : Int))) rfl) rfl rfl rfl ?_
    refine RW.store hM 0 (.int .i64 ((((elL n ws (if a < 0 then 0 else a)).getD k 0 : Nat) : Int))) [.int .i64 ((((elL n ws (if a < 0 then 0 else a)).getD k 0 : Nat) : Int))] [.int .i64 ((((elL n ws (if a < 0 then 0 else a)).getD k 0 : Nat) : Int))] sz3 rfl rfl rfl (oneAll ⟨rfl, trivial⟩) rfl (Nat.le_of_ble_eq_true rfl) rfl [.box b2 3 [.int .i64 ((((elL n ws (if a < 0 then 0 else a)).getD k 0 : Nat) : Int))], .box b1 24 [.int .i64 (n), .slice A1 ws.length c1], .obj l11 bsy, .obj D12 ddO] rfl rfl rfl ?_; intro w hM
    refine RW.nil ?_
    refine CW.ret ?_
    refine blockQ_ret ?_
    refine And.intro rfl ⟨_, [.box b2 3 [.int .i64 ((((elL n ws (if a < 0 then 0 else a)).getD k 0 : Nat) : Int))], .box b1 24 [.int .i64 (n), .slice A1 ws.length c1]], hle14, hM, fun w hM => ?_⟩
    replace hM : Mem w0 H w Hk [.box b2 3 [.int .i64 ((((elL n ws (if a < 0 then 0 else a)).getD k 0 : Nat) : Int))], .box b1 24 [.int .i64 (n), .slice A1 ws.length c1], .obj D12 ddO] := hM
    refine blockQ_ret (thenQ_ret ?_)
    refine endQM.mark (.inl rfl) hM 2 rfl ?_; intro w hM
    replace hM : Mem w0 H w Hk [.box b2 3 [.int .i64 ((((elL n ws (if a < 0 then 0 else a)).getD k 0 : Nat) : Int))], .box b1 24 [.int .i64 (n), .slice A1 ws.length c1], .obj D12 (.deferred none)] := hM
    refine end_cell1 (k := 0) (.inl rfl) rfl hM rfl to3 (.int .i64 ((((elL n ws (if a < 0 then 0 else a)).getD k 0 : Nat) : Int))) rfl rfl ?_
    exact ⟨_, _, hM, congrArg (Value.int .i64) (nextR_el hk hk0).symm⟩
  · -- behind it
    rintro D12 Hk _ w hle14 ⟨rfl, hk0, -⟩ hM
    replace hM : Mem w0 H w Hk [.box b2 3 [.int .i64 (0)], .box b1 24 [.int .i64 (n), .slice A1 ws.length c1], .obj D12 ddO] := hM
    refine CW.seq ?_
    refine CW.region ?_
    refine RW.store hM 0 (.int .i64 ((-1))) [.int .i64 ((-1))] [.int .i64 ((-1))] sz3 rfl rfl rfl (oneAll ⟨rfl, trivial⟩) rfl (Nat.le_of_ble_eq_true rfl) rfl [.box b2 3 [.int .i64 ((-1))], .box b1 24 [.int .i64 (n), .slice A1 ws.length c1], .obj D12 ddO] rfl rfl rfl ?_; intro w hM
    refine RW.nil ?_
    refine CW.ret ?_
    refine endQM.mark (.inl rfl) hM 2 rfl ?_; intro w hM
    replace hM : Mem w0 H w Hk [.box b2 3 [.int .i64 ((-1))], .box b1 24 [.int .i64 (n), .slice A1 ws.length c1], .obj D12 (.deferred none)] := hM
    refine end_cell1 (k := 0) (.inl rfl) rfl hM rfl to3 (.int .i64 ((-1))) rfl rfl ?_
    exact ⟨_, _, hM, congrArg (Value.int .i64) (nextR_nil hk0).symm⟩

theorem exts_ret (H : Hp) (A1 : Option Addr) (n : Int) (c1 : Nat) (ws : List (BitVec 64)) (hr1 : RdC H A1 ws.length c1 1 (ws.map u64)) (hT : TabH H 0) : Ret Tryd.prog 31 #[.agg #[.int .i64 n, .slice A1 ws.length c1]] H (ERv (extR n ws)) := by
  have hL := hr1.2.2.1
  have hL1 := hr1.2.1
  unfold maxLen at hL
  refine Ret.of_codeM Tryd.func31 rfl (Nat.le_of_ble_eq_true rfl) fun w0 hM => ?_
  refine CW.seq ?_
  refine CW.region ?_
  refine RW.box hM (.agg #[.int .i64 (n), .slice A1 ws.length c1]) [.int .i64 (n), .slice A1 ws.length c1] rfl rfl rfl rfl ?_; intro b1 w hM
  refine RW.step (Ex.assign (.slice none 0 0) rfl) rfl rfl rfl ?_
  refine RW.nil ?_
  refine CW.seq ?_
  refine CW.region ?_
  refine RW.alloc hM tz44 [.slice none 0 0] rfl rfl rfl ?_; intro b2 w hM
  refine RW.nil ?_
  refine CW.seq ?_
  refine CW.seq ?_
  refine CW.region ?_
  refine RW.step (Ex.loadA hM 1 [.int .i64 (n), .slice A1 ws.length c1] ta24 rfl rfl rfl rfl) rfl rfl rfl ?_
  refine RW.call hM (elements_ret _ _ n _ ws hr1 0) en46 rfl rfl rfl rfl ?_; rintro _ w H3 hle4 ⟨b5, b6, T7, T8, rfl, hb9, hb10⟩ hM
  refine RW.nil ?_
  refine CW.block ?_
  refine CW.range (fun k Hk L' => ∃ (Ax : Option Addr), ∃ (cx : Nat), L' = [.row (.slice Ax ((extsOf ((elL n ws 0).take k)).length) cx) 26 2 ((extsOf ((elL n ws 0).take k)).length) ((extsOf ((elL n ws 0).take k)).flatMap eC), .box b2 44 [.slice Ax ((extsOf ((elL n ws 0).take k)).length) cx], .box b1 24 [.int .i64 (n), .slice A1 ws.length c1]] ∧ True) (hM.nilRow 26 2) rfl en57 (Hp.le.refl _) (elements1_iter _ _ n _ ws (hr1.mono hle4) 0 b5 b6 T7 T8 hb9 hb10 (hT.mono hle4) (by omega) (by omega)) (fun _ => rfl) rfl ⟨none, 0, rfl, trivial⟩ ?_ ?_
  · -- a round
    rintro l11 D12 rdy bsy k Hk _ w hk hle14 ⟨Ax, cx, rfl, -⟩ hM
    replace hM : Mem w0 H w Hk [.row (.slice Ax ((extsOf ((elL n ws 0).take k)).length) cx) 26 2 ((extsOf ((elL n ws 0).take k)).length) ((extsOf ((elL n ws 0).take k)).flatMap eC), .box b2 44 [.slice Ax ((extsOf ((elL n ws 0).take k)).length) cx], .box b1 24 [.int .i64 (n), .slice A1 ws.length c1], .obj l11 rdy, .obj D12 ddO] := hM
    obtain ⟨e, he1, he2, hn4, he3, hel⟩ := elL_take hk
    rw [he1]
    have hx := extsK_facts ws e
    rw [← he3] at hx
    have hxl := hx.2
    refine CW.region ?_
    refine RW.step (Ex.assign (.int .i64 ((e : Int))) rfl) rfl rfl rfl ?_
    refine RW.nil ?_
    refine And.intro rfl ⟨_, [.row (.slice Ax ((extsOf ((elL n ws 0).take k)).length) cx) 26 2 ((extsOf ((elL n ws 0).take k)).length) ((extsOf ((elL n ws 0).take k)).flatMap eC), .box b2 44 [.slice Ax ((extsOf ((elL n ws 0).take k)).length) cx], .box b1 24 [.int .i64 (n), .slice A1 ws.length c1]], hle14, hM, fun w hM => ?_⟩
    replace hM : Mem w0 H w Hk [.row (.slice Ax ((extsOf ((elL n ws 0).take k)).length) cx) 26 2 ((extsOf ((elL n ws 0).take k)).length) ((extsOf ((elL n ws 0).take k)).flatMap eC), .box b2 44 [.slice Ax ((extsOf ((elL n ws 0).take k)).length) cx], .box b1 24 [.int .i64 (n), .slice A1 ws.length c1], .obj l11 bsy, .obj D12 ddO] := hM
    refine CW.block ?_
    refine CW.seq ?_
    refine CW.seq ?_
    refine CW.region ?_
    refine RW.step (Ex.load1 hM 1 to44 rfl rfl rfl) rfl rfl rfl ?_
    refine RW.step (Ex.len st44.1 rfl) rfl rfl rfl ?_
    refine RW.step (Ex.assign (.int .i64 (((extsOf ((elL n ws 0).take k)).length : Int))) rfl) rfl rfl rfl ?_
    refine RW.nil ?_
    refine CW.seq ?_
    by_cases hd15 : 0 < ((extsOf ((elL n ws 0).take k)).length : Int)
    ·
      have hxg := exB_get hx.1 (show (((extsOf ((elL n ws 0).take k)).length : Int) - 1).toNat < (extsOf ((elL n ws 0).take k)).length by omega)
      refine CW.drawE 19 [.int .i64 (((extsOf ((elL n ws 0).take k)).length : Int)), .bool true, .bool true, .slice Ax ((extsOf ((elL n ws 0).take k)).length) cx, .int .i64 (((extsOf ((elL n ws 0).take k)).length : Int)), .int .i64 (((extsOf ((elL n ws 0).take k)).length : Int) - 1), elp Ax (((((extsOf ((elL n ws 0).take k)).length : Int) - 1).toNat) * 2 + 0), elp Ax (((((extsOf ((elL n ws 0).take k)).length : Int) - 1).toNat) * 2 + 0), .int .i64 (((extsOf ((elL n ws 0).take k)).getD ((((extsOf ((elL n ws 0).take k)).length : Int) - 1).toNat) (0, 0)).1), .slice Ax ((extsOf ((elL n ws 0).take k)).length) cx, .int .i64 (((extsOf ((elL n ws 0).take k)).length : Int)), .int .i64 (((extsOf ((elL n ws 0).take k)).length : Int) - 1), elp Ax (((((extsOf ((elL n ws 0).take k)).length : Int) - 1).toNat) * 2 + 0), elp Ax (((((extsOf ((elL n ws 0).take k)).length : Int) - 1).toNat) * 2 + 1), .int .i64 (((extsOf ((elL n ws 0).take k)).getD ((((extsOf ((elL n ws 0).take k)).length : Int) - 1).toNat) (0, 0)).2), .int .i64 ((((extsOf ((elL n ws 0).take k)).getD ((((extsOf ((elL n ws 0).take k)).length : Int) - 1).toNat) (0, 0)).1) + (((extsOf ((elL n ws 0).take k)).getD ((((extsOf ((elL n ws 0).take k)).length : Int) - 1).toNat) (0, 0)).2)), .int .i64 ((e : Int)), .bool (decide (((((extsOf ((elL n ws 0).take k)).getD ((((extsOf ((elL n ws 0).take k)).length : Int) - 1).toNat) (0, 0)).1) + (((extsOf ((elL n ws 0).take k)).getD ((((extsOf ((elL n ws 0).take k)).length : Int) - 1).toNat) (0, 0)).2)) = (e : Int))), .bool (decide (((((extsOf ((elL n ws 0).take k)).getD ((((extsOf ((elL n ws 0).take k)).length : Int) - 1).toNat) (0, 0)).1) + (((extsOf ((elL n ws 0).take k)).getD ((((extsOf ((elL n ws 0).take k)).length : Int) - 1).toNat) (0, 0)).2)) = (e : Int)))]
        [[(5, none)], [(11, some 0)], [(12, some 1)], [(3, none), (13, some 2)], [(5, none), (13, some 2)], [(13, some 2), (15, some 4)], [(13, some 2), (14, some 3), (16, some 5)], [(13, some 2), (17, some 6)], [(13, some 2), (18, some 7)], [(3, none), (13, some 2)], [(5, none), (13, some 2)], [(13, some 2), (21, some 10)], [(13, some 2), (20, some 9), (22, some 11)], [(13, some 2), (23, some 12)], [(13, some 2), (24, some 13)], [(13, some 2), (19, some 8), (25, some 14)], [(4, none), (13, some 2)], [(13, some 2), (26, some 15), (27, some 16)], [(13, some 2), (28, some 17)]] [(3, none), (4, none), (5, none), (29, some 18)] (by kernel_rfl) hM (by kernel_rfl) ⟨?_, ?_, ?_, ?_, ?_, ?_, ?_, ?_, ?_, ?_, ?_, ?_, ?_, ?_, ?_, ?_, ?_, ?_, ?_, trivial⟩ ?_
      · exact One.ex (fun H' τ w hled hM => Ex.move (.int .i64 (((extsOf ((elL n ws 0).take k)).length : Int))) rfl) rfl (fun _ => rfl) rfl
      · exact One.ex (fun H' τ w hled hM => Ex.yes (Ex.gtr rfl rfl) hd15) rfl (fun _ => rfl) rfl
      · exact One.ex (fun H' τ w hled hM => Ex.move (.bool true) rfl) rfl (fun _ => rfl) rfl
      · exact One.ex (fun H' τ w hled hM => Ex.load1 hM 1 to44 rfl rfl rfl) rfl (fun _ => rfl) rfl
      · exact One.ex (fun H' τ w hled hM => Ex.move (.int .i64 (((extsOf ((elL n ws 0).take k)).length : Int))) rfl) rfl (fun _ => rfl) rfl
      · exact One.ex (fun H' τ w hled hM => Ex.sub rfl rfl (by omega) (by omega)) rfl (fun _ => rfl) rfl
      · exact One.ex (fun H' τ w hled hM => Ex.index st44 rfl rfl ((((extsOf ((elL n ws 0).take k)).length : Int) - 1).toNat) (hM.rowNe (k := 0) rfl (by omega)) (by omega) (by omega)) rfl (fun _ => rfl) rfl
      · exact One.ex (fun H' τ w hled hM => Ex.fieldE fa26_0 (hM.rowNe (k := 0) rfl (by omega)) rfl) rfl (fun _ => rfl) rfl
      · exact One.ex (fun H' τ w hled hM => Ex.loadR hM 0 rfl to3 (hM.rowNe (k := 0) rfl (by omega)) rfl (getE0 (by omega))) rfl (fun _ => rfl) rfl
      · exact One.ex (fun H' τ w hled hM => Ex.load1 hM 1 to44 rfl rfl rfl) rfl (fun _ => rfl) rfl
      · exact One.ex (fun H' τ w hled hM => Ex.move (.int .i64 (((extsOf ((elL n ws 0).take k)).length : Int))) rfl) rfl (fun _ => rfl) rfl
      · exact One.ex (fun H' τ w hled hM => Ex.sub rfl rfl (by omega) (by omega)) rfl (fun _ => rfl) rfl
      · exact One.ex (fun H' τ w hled hM => Ex.index st44 rfl rfl ((((extsOf ((elL n ws 0).take k)).length : Int) - 1).toNat) (hM.rowNe (k := 0) rfl (by omega)) (by omega) (by omega)) rfl (fun _ => rfl) rfl
      · exact One.ex (fun H' τ w hled hM => Ex.fieldE fa26_1 (hM.rowNe (k := 0) rfl (by omega)) rfl) rfl (fun _ => rfl) rfl
      · exact One.ex (fun H' τ w hled hM => Ex.loadR hM 0 rfl to3 (hM.rowNe (k := 0) rfl (by omega)) rfl (getE1 (by omega))) rfl (fun _ => rfl) rfl
      · exact One.ex (fun H' τ w hled hM => Ex.add rfl rfl (by omega) (by omega)) rfl (fun _ => rfl) rfl
      · exact One.ex (fun H' τ w hled hM => Ex.move (.int .i64 ((e : Int))) rfl) rfl (fun _ => rfl) rfl
      · exact One.ex (fun H' τ w hled hM => Ex.eql rfl rfl) rfl (fun _ => rfl) rfl
      · exact One.ex (fun H' τ w hled hM => Ex.pickT (.bool (decide (((((extsOf ((elL n ws 0).take k)).getD ((((extsOf ((elL n ws 0).take k)).length : Int) - 1).toNat) (0, 0)).1) + (((extsOf ((elL n ws 0).take k)).getD ((((extsOf ((elL n ws 0).take k)).length : Int) - 1).toNat) (0, 0)).2)) = (e : Int)))) rfl rfl) rfl (fun _ => rfl) rfl
      intro τ w hM
      change RW _ _ _ _ _ _ _ _ (sl [(3, .pointer (some ⟨b2, 0, none⟩)), (4, .int .i64 ((e : Int))), (5, .int .i64 (((extsOf ((elL n ws 0).take k)).length : Int))), (29, .bool (decide (((((extsOf ((elL n ws 0).take k)).getD ((((extsOf ((elL n ws 0).take k)).length : Int) - 1).toNat) (0, 0)).1) + (((extsOf ((elL n ws 0).take k)).getD ((((extsOf ((elL n ws 0).take k)).length : Int) - 1).toNat) (0, 0)).2)) = (e : Int))))] τ) _
      refine RW.nil ?_
      refine CW.cond_dec rfl (fun hc16 => ?_) (fun hc16 => ?_)
      · -- yes: ((((extsOf ((elL n ws 0).take k)).getD ((((extsOf ((elL n ws 0).take k)).length : Int) - 1).toNat) (0, 0)).1) + (((extsO
        have hxj := hc16
        refine CW.seq ?_
        refine CW.region ?_
        refine RW.step (Ex.load1 hM 1 to44 rfl rfl rfl) rfl rfl rfl ?_
        refine RW.step (Ex.move (.int .i64 (((extsOf ((elL n ws 0).take k)).length : Int))) rfl) rfl rfl rfl ?_
        refine RW.step (Ex.sub rfl rfl (by omega) (by omega)) rfl rfl rfl ?_
        refine RW.step (Ex.index st44 rfl rfl ((((extsOf ((elL n ws 0).take k)).length : Int) - 1).toNat) (hM.rowNe (k := 0) rfl (by omega)) (by omega) (by omega)) rfl rfl rfl ?_
        refine RW.step (Ex.fieldE fa26_1 (hM.rowNe (k := 0) rfl (by omega)) rfl) rfl rfl rfl ?_
        refine RW.step (Ex.loadR hM 0 rfl to3 (hM.rowNe (k := 0) rfl (by omega)) rfl (getE1 (by omega))) rfl rfl rfl ?_
        refine RW.step (Ex.add rfl rfl (by omega) (by omega)) rfl rfl rfl ?_
        refine RW.step (Ex.index st44 rfl rfl ((((extsOf ((elL n ws 0).take k)).length : Int) - 1).toNat) (hM.rowNe (k := 0) rfl (by omega)) (by omega) (by omega)) rfl rfl rfl ?_
        refine RW.step (Ex.fieldE fa26_1 (hM.rowNe (k := 0) rfl (by omega)) rfl) rfl rfl rfl ?_
        refine RW.storeR hM 0 (((((extsOf ((elL n ws 0).take k)).length : Int) - 1).toNat) * 2 + 1) (.int .i64 ((((extsOf ((elL n ws 0).take k)).getD ((((extsOf ((elL n ws 0).take k)).length : Int) - 1).toNat) (0, 0)).2) + 1)) [.int .i64 ((((extsOf ((elL n ws 0).take k)).getD ((((extsOf ((elL n ws 0).take k)).length : Int) - 1).toNat) (0, 0)).2) + 1)] ((bumpE (extsOf ((elL n ws 0).take k)) ((((extsOf ((elL n ws 0).take k)).length : Int) - 1).toNat) ((((extsOf ((elL n ws 0).take k)).getD ((((extsOf ((elL n ws 0).take k)).length : Int) - 1).toNat) (0, 0)).2) + 1)).flatMap eC) sz3 rfl (hM.rowNe (k := 0) rfl (by omega)) rfl rfl (oneAll ⟨rfl, trivial⟩) rfl (by rw [eC_len]; simp only [List.length_cons, List.length_nil]; omega) (setE (by omega)) [.row (.slice Ax ((extsOf ((elL n ws 0).take k)).length) cx) 26 2 ((extsOf ((elL n ws 0).take k)).length) ((bumpE (extsOf ((elL n ws 0).take k)) ((((extsOf ((elL n ws 0).take k)).length : Int) - 1).toNat) ((((extsOf ((elL n ws 0).take k)).getD ((((extsOf ((elL n ws 0).take k)).length : Int) - 1).toNat) (0, 0)).2) + 1)).flatMap eC), .box b2 44 [.slice Ax ((extsOf ((elL n ws 0).take k)).length) cx], .box b1 24 [.int .i64 (n), .slice A1 ws.length c1], .obj l11 bsy, .obj D12 ddO] rfl rfl rfl ?_; intro w hM
        refine RW.nil ?_
        refine CW.exit ?_
        refine And.intro rfl ⟨_, [.row (.slice Ax ((extsOf ((elL n ws 0).take (k + 1))).length) cx) 26 2 ((extsOf ((elL n ws 0).take (k + 1))).length) ((extsOf ((elL n ws 0).take (k + 1))).flatMap eC), .box b2 44 [.slice Ax ((extsOf ((elL n ws 0).take (k + 1))).length) cx], .box b1 24 [.int .i64 (n), .slice A1 ws.length c1]], hle14, (by rw [hel, addX_join ⟨by omega, by rw [(show (((extsOf ((elL n ws 0).take k)).length : Int) - 1).toNat = (extsOf ((elL n ws 0).take k)).length - 1 by omega)] at hxj; exact hxj⟩, bumpE_length]; rw [(show (((extsOf ((elL n ws 0).take k)).length : Int) - 1).toNat = (extsOf ((elL n ws 0).take k)).length - 1 by omega)] at hM; exact hM), Ax, cx, rfl, trivial⟩
      · -- no: ((((extsOf ((elL n ws 0).take k)).getD ((((extsOf ((elL n ws 0).take k)).length : Int) - 1).toNat) (0, 0)).1) + (((extsO
        refine CW.skip ?_
        refine CW.region ?_
        refine RW.step (Ex.load1 hM 1 to44 rfl rfl rfl) rfl rfl rfl ?_
        refine RW.step (Ex.move (.int .i64 ((e : Int))) rfl) rfl rfl rfl ?_
        refine RW.step (Ex.build bs26 [(0, .int .i64 ((e : Int))), (1, .int .i64 (1))] [.int .i64 ((e : Int)), .int .i64 (1)] rfl rfl) rfl rfl rfl ?_
        refine RW.buildSlice hM st44 tz26 [(0, .agg #[.int .i64 ((e : Int)), .int .i64 (1)])] [.int .i64 ((e : Int)), .int .i64 (1)] (by decide) rfl rfl rfl (by decide) rfl rfl ?_; intro b17 w hM
        refine RW.append hM 1 st44 rfl rfl rfl ([.int .i64 ((e : Int)), .int .i64 (1)]) rfl (fun j u hj => hM.rowCell (k := 0) rfl rfl hj) (oneAll ⟨rfl, rfl, trivial⟩) (by omega) (by unfold maxLen; omega) rfl rfl ?_; intro A18 c19 w hM
        replace hM : Mem w0 H w Hk [.row (.slice (some ⟨b17, 0, none⟩) 1 1) 26 2 1 ([.int .i64 ((e : Int)), .int .i64 (1)]), .row (.slice A18 ((extsOf ((elL n ws 0).take k)).length + 1) c19) 26 2 ((extsOf ((elL n ws 0).take k)).length + 1) (((extsOf ((elL n ws 0).take k)) ++ [((e : Int), 1)]).flatMap eC), .box b2 44 [.slice Ax ((extsOf ((elL n ws 0).take k)).length) cx], .box b1 24 [.int .i64 (n), .slice A1 ws.length c1], .obj l11 bsy, .obj D12 ddO] := (by simpa [List.flatMap_append, eC] using hM)
        refine RW.store hM 2 (.slice A18 ((extsOf ((elL n ws 0).take k)).length + 1) c19) [.slice A18 ((extsOf ((elL n ws 0).take k)).length + 1) c19] [.slice A18 ((extsOf ((elL n ws 0).take k)).length + 1) c19] sz44 rfl rfl rfl (oneAll ⟨rfl, trivial⟩) rfl (Nat.le_of_ble_eq_true rfl) rfl [.row (.slice (some ⟨b17, 0, none⟩) 1 1) 26 2 1 ([.int .i64 ((e : Int)), .int .i64 (1)]), .row (.slice A18 ((extsOf ((elL n ws 0).take k)).length + 1) c19) 26 2 ((extsOf ((elL n ws 0).take k)).length + 1) (((extsOf ((elL n ws 0).take k)) ++ [((e : Int), 1)]).flatMap eC), .box b2 44 [.slice A18 ((extsOf ((elL n ws 0).take k)).length + 1) c19], .box b1 24 [.int .i64 (n), .slice A1 ws.length c1], .obj l11 bsy, .obj D12 ddO] rfl rfl rfl ?_; intro w hM
        refine RW.nil ?_
        refine And.intro rfl ⟨_, [.row (.slice A18 ((extsOf ((elL n ws 0).take (k + 1))).length) c19) 26 2 ((extsOf ((elL n ws 0).take (k + 1))).length) ((extsOf ((elL n ws 0).take (k + 1))).flatMap eC), .box b2 44 [.slice A18 ((extsOf ((elL n ws 0).take (k + 1))).length) c19], .box b1 24 [.int .i64 (n), .slice A1 ws.length c1]], hle14, (by rw [hel, addX_new (fun hj => hc16 (by rw [(show (((extsOf ((elL n ws 0).take k)).length : Int) - 1).toNat = (extsOf ((elL n ws 0).take k)).length - 1 by omega)]; exact hj.2)), List.length_append]; exact hM.sub (List.Sublist.cons _ (List.Sublist.refl _))), A18, c19, rfl, trivial⟩
    ·
      refine CW.drawE 19 [.int .i64 (((extsOf ((elL n ws 0).take k)).length : Int)), .bool false, .bool false, undef, undef, undef, undef, undef, undef, undef, undef, undef, undef, undef, undef, undef, undef, undef, .bool false]
        [[(5, none)], [(11, some 0)], [(12, some 1)], [(13, some 2)], [(13, some 2)], [(13, some 2)], [(13, some 2)], [(13, some 2)], [(13, some 2)], [(13, some 2)], [(13, some 2)], [(13, some 2)], [(13, some 2)], [(13, some 2)], [(13, some 2)], [(13, some 2)], [(13, some 2)], [(13, some 2)], [(13, some 2), (28, some 17)]] [(3, none), (4, none), (5, none), (29, some 18)] (by kernel_rfl) hM (by kernel_rfl) ⟨?_, ?_, ?_, ?_, ?_, ?_, ?_, ?_, ?_, ?_, ?_, ?_, ?_, ?_, ?_, ?_, ?_, ?_, ?_, trivial⟩ ?_
      · exact One.ex (fun H' τ w hled hM => Ex.move (.int .i64 (((extsOf ((elL n ws 0).take k)).length : Int))) rfl) rfl (fun _ => rfl) rfl
      · exact One.ex (fun H' τ w hled hM => Ex.no (Ex.gtr rfl rfl) hd15) rfl (fun _ => rfl) rfl
      · exact One.ex (fun H' τ w hled hM => Ex.move (.bool false) rfl) rfl (fun _ => rfl) rfl
      · exact One.pass (fun _ => rfl) rfl
      · exact One.pass (fun _ => rfl) rfl
      · exact One.pass (fun _ => rfl) rfl
      · exact One.pass (fun _ => rfl) rfl
      · exact One.pass (fun _ => rfl) rfl
      · exact One.pass (fun _ => rfl) rfl
      · exact One.pass (fun _ => rfl) rfl
      · exact One.pass (fun _ => rfl) rfl
      · exact One.pass (fun _ => rfl) rfl
      · exact One.pass (fun _ => rfl) rfl
      · exact One.pass (fun _ => rfl) rfl
      · exact One.pass (fun _ => rfl) rfl
      · exact One.pass (fun _ => rfl) rfl
      · exact One.pass (fun _ => rfl) rfl
      · exact One.pass (fun _ => rfl) rfl
      · exact One.ex (fun H' τ w hled hM => Ex.pickF (.bool false) rfl rfl) rfl (fun _ => rfl) rfl
      intro τ w hM
      change RW _ _ _ _ _ _ _ _ (sl [(3, .pointer (some ⟨b2, 0, none⟩)), (4, .int .i64 ((e : Int))), (5, .int .i64 (((extsOf ((elL n ws 0).take k)).length : Int))), (29, .bool false)] τ) _
      refine RW.nil ?_
      refine CW.cond_false rfl ?_
      refine CW.skip ?_
      refine CW.region ?_
      refine RW.step (Ex.load1 hM 1 to44 rfl rfl rfl) rfl rfl rfl ?_
      refine RW.step (Ex.move (.int .i64 ((e : Int))) rfl) rfl rfl rfl ?_
      refine RW.step (Ex.build bs26 [(0, .int .i64 ((e : Int))), (1, .int .i64 (1))] [.int .i64 ((e : Int)), .int .i64 (1)] rfl rfl) rfl rfl rfl ?_
      refine RW.buildSlice hM st44 tz26 [(0, .agg #[.int .i64 ((e : Int)), .int .i64 (1)])] [.int .i64 ((e : Int)), .int .i64 (1)] (by decide) rfl rfl rfl (by decide) rfl rfl ?_; intro b20 w hM
      refine RW.append hM 1 st44 rfl rfl rfl ([.int .i64 ((e : Int)), .int .i64 (1)]) rfl (fun j u hj => hM.rowCell (k := 0) rfl rfl hj) (oneAll ⟨rfl, rfl, trivial⟩) (by omega) (by unfold maxLen; omega) rfl rfl ?_; intro A21 c22 w hM
      replace hM : Mem w0 H w Hk [.row (.slice (some ⟨b20, 0, none⟩) 1 1) 26 2 1 ([.int .i64 ((e : Int)), .int .i64 (1)]), .row (.slice A21 ((extsOf ((elL n ws 0).take k)).length + 1) c22) 26 2 ((extsOf ((elL n ws 0).take k)).length + 1) (((extsOf ((elL n ws 0).take k)) ++ [((e : Int), 1)]).flatMap eC), .box b2 44 [.slice Ax ((extsOf ((elL n ws 0).take k)).length) cx], .box b1 24 [.int .i64 (n), .slice A1 ws.length c1], .obj l11 bsy, .obj D12 ddO] := (by simpa [List.flatMap_append, eC] using hM)
      refine RW.store hM 2 (.slice A21 ((extsOf ((elL n ws 0).take k)).length + 1) c22) [.slice A21 ((extsOf ((elL n ws 0).take k)).length + 1) c22] [.slice A21 ((extsOf ((elL n ws 0).take k)).length + 1) c22] sz44 rfl rfl rfl (oneAll ⟨rfl, trivial⟩) rfl (Nat.le_of_ble_eq_true rfl) rfl [.row (.slice (some ⟨b20, 0, none⟩) 1 1) 26 2 1 ([.int .i64 ((e : Int)), .int .i64 (1)]), .row (.slice A21 ((extsOf ((elL n ws 0).take k)).length + 1) c22) 26 2 ((extsOf ((elL n ws 0).take k)).length + 1) (((extsOf ((elL n ws 0).take k)) ++ [((e : Int), 1)]).flatMap eC), .box b2 44 [.slice A21 ((extsOf ((elL n ws 0).take k)).length + 1) c22], .box b1 24 [.int .i64 (n), .slice A1 ws.length c1], .obj l11 bsy, .obj D12 ddO] rfl rfl rfl ?_; intro w hM
      refine RW.nil ?_
      refine And.intro rfl ⟨_, [.row (.slice A21 ((extsOf ((elL n ws 0).take (k + 1))).length) c22) 26 2 ((extsOf ((elL n ws 0).take (k + 1))).length) ((extsOf ((elL n ws 0).take (k + 1))).flatMap eC), .box b2 44 [.slice A21 ((extsOf ((elL n ws 0).take (k + 1))).length) c22], .box b1 24 [.int .i64 (n), .slice A1 ws.length c1]], hle14, (by rw [hel, addX_new (fun hj => by have := hj.1; omega), List.length_append]; exact hM.sub (List.Sublist.cons _ (List.Sublist.refl _))), A21, c22, rfl, trivial⟩
  · -- behind it
    rintro D12 Hk _ w hle14 ⟨Ax, cx, rfl, -⟩ hM
    replace hM : Mem w0 H w Hk [.row (.slice Ax ((extsOf ((elL n ws 0).take ((elL n ws 0).length))).length) cx) 26 2 ((extsOf ((elL n ws 0).take ((elL n ws 0).length))).length) ((extsOf ((elL n ws 0).take ((elL n ws 0).length))).flatMap eC), .box b2 44 [.slice Ax ((extsOf ((elL n ws 0).take ((elL n ws 0).length))).length) cx], .box b1 24 [.int .i64 (n), .slice A1 ws.length c1], .obj D12 ddO] := hM
    refine CW.seq ?_
    refine CW.region ?_
    refine RW.step (Ex.load1 hM 1 to44 rfl rfl rfl) rfl rfl rfl ?_
    refine RW.step (Ex.assign (.slice Ax ((extsOf ((elL n ws 0).take ((elL n ws 0).length))).length) cx) rfl) rfl rfl rfl ?_
    refine RW.nil ?_
    refine CW.ret ?_
    refine endQM.mark (.inl rfl) hM 3 rfl ?_; intro w hM
    replace hM : Mem w0 H w Hk [.row (.slice Ax ((extsOf ((elL n ws 0).take ((elL n ws 0).length))).length) cx) 26 2 ((extsOf ((elL n ws 0).take ((elL n ws 0).length))).length) ((extsOf ((elL n ws 0).take ((elL n ws 0).length))).flatMap eC), .box b2 44 [.slice Ax ((extsOf ((elL n ws 0).take ((elL n ws 0).length))).length) cx], .box b1 24 [.int .i64 (n), .slice A1 ws.length c1], .obj D12 (.deferred none)] := hM
    refine end_tmp (.inl rfl) rfl (.slice Ax ((extsOf ((elL n ws 0).take ((elL n ws 0).length))).length) cx) rfl ?_
    obtain ⟨H9, hM9, hle9, hr9⟩ := hM.giveRow (k := 0) rfl
    exact ⟨_, _, hM9, ERv.ok (elL_exts.trans (by rw [List.take_length])) rfl hr9⟩

end Go.Proofs.YtackllehpecfgaaDoor
