/- package bitmap and its reference: copies -/
import Derived.Test.YtackllehpecfgaaDoorBm1
namespace Go.Proofs.YtackllehpecfgaaDoor
open Go.RowKit

theorem clone_ret (H : Hp) (A1 : Option Addr) (c1 : Nat) (ws : List (BitVec 64)) (hr1 : RdC H A1 ws.length c1 1 (ws.map u64)) (hw : ws.length ≤ 1000000) : RetO Tryd.prog 54 #[.slice A1 ws.length c1] H (fun v L' => ∃ A c, v = .slice A ws.length c ∧ L' = [.row (.slice A ws.length c) 55 1 ws.length (ws.map u64)]) := by
  have hL := hr1.2.2.1
  have hL1 := hr1.2.1
  unfold maxLen at hL
  refine RetO.of_code Tryd.func54 rfl (Nat.le_of_ble_eq_true rfl) fun w0 hM => ?_
  refine CW.seq ?_
  refine CW.region ?_
  refine RW.step (Ex.assign (.slice none 0 0) rfl) rfl rfl rfl ?_
  refine RW.nil ?_
  refine CW.seq ?_
  refine CW.seq ?_
  refine CW.region ?_
  refine RW.step (Ex.move (.slice A1 ws.length c1) rfl) rfl rfl rfl ?_
  refine RW.step (Ex.eqlNil st22.1 rfl rfl) rfl rfl rfl ?_
  refine RW.nil ?_
  refine CW.cond_dec rfl (fun hc1 => ?_) (fun hc1 => ?_)
  · -- yes: A1 = none
    refine CW.seq ?_
    refine CW.region ?_
    refine RW.step (Ex.assign (.slice none 0 0) rfl) rfl rfl rfl ?_
    refine RW.nil ?_
    refine CW.ret ?_
    refine thenQ_ret ?_
    refine end_tmp (.inl rfl) rfl (.slice none 0 0) rfl ?_
    have hw0 : ws = [] := List.eq_nil_of_length_eq_zero (by have h1 := hr1.2.2.2.1 hc1; have h2 := hr1.2.1; omega)
    subst hw0
    exact ⟨_, _, hM.nilRow 55 1, none, 0, rfl, rfl⟩
  · -- no: A1 = none
    refine CW.skip ?_
    refine CW.seq ?_
    refine CW.region ?_
    refine RW.buildSlice hM st22 tz55 [] [] (by decide) rfl rfl rfl (by decide) rfl rfl ?_; intro b2 w hM
    refine RW.step (Ex.move (.slice A1 ws.length c1) rfl) rfl rfl rfl ?_
    refine RW.appendRd hM 0 st22 rfl rfl rfl (Hp.le.refl _) hr1 (oneW _) (by omega) (by unfold maxLen; omega) rfl rfl ?_; intro A3 c4 w hM
    replace hM : Mem w0 H w H [.row (.slice A3 (0 + ws.length) c4) 55 1 (0 + ws.length) (ws.map u64)] := (by simpa [List.map_append] using hM)
    refine RW.step (Ex.assign (.slice A3 (0 + ws.length) c4) rfl) rfl rfl rfl ?_
    refine RW.nil ?_
    refine CW.ret ?_
    refine end_tmp (.inl rfl) rfl (.slice A3 (0 + ws.length) c4) rfl ?_
    simp only [Nat.zero_add] at hM ⊢
    exact ⟨_, _, hM, _, _, rfl, rfl⟩

theorem copy_ret (H : Hp) (A1 : Option Addr) (n : Int) (c1 : Nat) (ws : List (BitVec 64)) (hr1 : RdC H A1 ws.length c1 1 (ws.map u64)) (hw : ws.length ≤ 1000000) : RetO Tryd.prog 50 #[.agg #[.int .i64 n, .slice A1 ws.length c1]] H (fun v L' => ∃ A c, v = .agg #[.int .i64 n, .slice A ws.length c] ∧ L' = [.row (.slice A ws.length c) 55 1 ws.length (ws.map u64)]) := by
  have hL := hr1.2.2.1
  have hL1 := hr1.2.1
  unfold maxLen at hL
  refine RetO.of_code Tryd.func50 rfl (Nat.le_of_ble_eq_true rfl) fun w0 hM => ?_
  refine CW.seq ?_
  refine CW.region ?_
  refine RW.box hM (.agg #[.int .i64 n, .slice A1 ws.length c1]) [.int .i64 n, .slice A1 ws.length c1] rfl rfl rfl rfl ?_; intro b1 w hM
  refine RW.alloc hM tz24 [.int .i64 (0), .slice none 0 0] rfl rfl rfl ?_; intro b2 w hM
  refine RW.nil ?_
  refine CW.seq ?_
  refine CW.drawG 7 [fun _ u E => u = .pointer (some ⟨b1, 0, none⟩) ∧ E = [], fun _ u E => u = .int .i64 n ∧ E = [], fun _ u E => ∃ b, u = .slice (some ⟨b, 0, none⟩) 0 0 ∧ E = [.row (.slice (some ⟨b, 0, none⟩) 0 0) 55 1 0 []],
    fun _ u E => u = .pointer (some ⟨b1, 1, none⟩) ∧ E = [], fun _ u E => u = .slice A1 ws.length c1 ∧ E = [], fun _ u E => ∃ A c, u = .slice A ws.length c ∧ E = [.row (.slice A ws.length c) 55 1 ws.length (ws.map u64)], fun _ u E => ∃ A c, u = .agg #[.int .i64 n, .slice A ws.length c] ∧ E = [.row (.slice A ws.length c) 55 1 ws.length (ws.map u64)]]
    (fun k => if k = 5 then some 2 else if k = 6 then some 5 else none) (by kernel_rfl) hM (by kernel_rfl) (by kernel_rfl) rfl (by simp only [List.forall_mem_cons]; exact ⟨fun _ _ _ _ _ h => h, fun _ _ _ _ _ h => h, fun _ _ _ _ _ h => h, fun _ _ _ _ _ h => h, fun _ _ _ _ _ h => h, fun _ _ _ _ _ h => h, fun _ _ _ _ _ h => h, by simp⟩) ⟨?_, ?_, ?_, ?_, ?_, ?_, ?_, trivial⟩ ?_ (by kernel_rfl)
  · intro H' σ' w R E hle hM hE _ hp hf
    obtain rfl := hE rfl
    obtain ⟨τ, rfl⟩ := sl_canon (σ := σ') (l := [(1, .pointer (some ⟨b1, 0, none⟩))]) ⟨(hf 1 (by kernel_rfl)).trans rfl, trivial⟩
    exact RW.step (Ex.fieldAddr fa24_0 rfl) rfl rfl rfl (RW.nil ⟨rfl, rfl, _, rfl, H', [], Hp.le.refl _, hM, rfl, rfl⟩)
  · intro H' σ' w R E hle hM hE _ hp hf
    obtain rfl := hE rfl
    obtain ⟨_, hg3⟩ := hp 0 3 (by kernel_rfl) rfl
    obtain ⟨e3, _⟩ := hg3.get rfl
    obtain ⟨τ, rfl⟩ := sl_canon (σ := σ') (l := [(3, .pointer (some ⟨b1, 0, none⟩))]) ⟨e3, trivial⟩
    exact RW.step (Ex.load1 (hM.sub (List.sublist_append_right R _)) 1 to3 rfl rfl rfl) rfl rfl rfl (RW.nil ⟨rfl, rfl, _, rfl, H', [], Hp.le.refl _, hM, rfl, rfl⟩)
  · intro H' σ' w R E hle hM hE _ hp hf
    obtain rfl := hE rfl
    refine RW.buildSlice hM st22 tz55 [] [] (by decide) rfl rfl rfl (by decide) rfl rfl ?_
    intro b w hM
    exact RW.nil ⟨rfl, rfl, _, rfl, H', _, Hp.le.refl _, hM, b, rfl, rfl⟩
  · intro H' σ' w R E hle hM hE _ hp hf
    obtain rfl := hE rfl
    obtain ⟨τ, rfl⟩ := sl_canon (σ := σ') (l := [(1, .pointer (some ⟨b1, 0, none⟩))]) ⟨(hf 1 (by kernel_rfl)).trans rfl, trivial⟩
    exact RW.step (Ex.fieldAddr fa24_1 rfl) rfl rfl rfl (RW.nil ⟨rfl, rfl, _, rfl, H', [], Hp.le.refl _, hM, rfl, rfl⟩)
  · intro H' σ' w R E hle hM hE _ hp hf
    obtain rfl := hE rfl
    obtain ⟨_, hg6⟩ := hp 3 6 (by kernel_rfl) rfl
    obtain ⟨e6, _⟩ := hg6.get rfl
    obtain ⟨τ, rfl⟩ := sl_canon (σ := σ') (l := [(6, .pointer (some ⟨b1, 1, none⟩))]) ⟨e6, trivial⟩
    exact RW.step (Ex.load1 (hM.sub (List.sublist_append_right R _)) 1 to22 rfl rfl rfl) rfl rfl rfl (RW.nil ⟨rfl, rfl, _, rfl, H', [], Hp.le.refl _, hM, rfl, rfl⟩)
  · intro H' σ' w R E hle hM _ hE hp hf
    obtain ⟨b, e5, rfl⟩ := (hE 2 5 rfl rfl).get rfl
    obtain ⟨_, hg7⟩ := hp 4 7 (by kernel_rfl) rfl
    obtain ⟨e7, _⟩ := hg7.get rfl
    obtain ⟨τ, rfl⟩ := sl_canon (σ := σ') (l := [(5, .slice (some ⟨b, 0, none⟩) 0 0), (7, .slice A1 ws.length c1)]) ⟨e5, e7, trivial⟩
    refine RW.appendRd hM 0 st22 rfl rfl rfl hle hr1 (oneW _) (by omega) (by unfold maxLen; omega) rfl rfl ?_
    intro A2 c2 w hM
    simp only [Nat.zero_add] at hM ⊢
    exact RW.nil ⟨rfl, rfl, _, rfl, H', _, Hp.le.refl _, hM, A2, c2, rfl, rfl⟩
  · intro H' σ' w R E hle hM _ hE hp hf
    obtain ⟨A2, c2, e8, rfl⟩ := (hE 5 8 rfl rfl).get rfl
    obtain ⟨_, hg4⟩ := hp 1 4 (by kernel_rfl) rfl
    obtain ⟨e4, _⟩ := hg4.get rfl
    obtain ⟨τ, rfl⟩ := sl_canon (σ := σ') (l := [(4, .int .i64 n), (8, .slice A2 ws.length c2)]) ⟨e4, e8, trivial⟩
    exact RW.step (Ex.build bs24 [(0, .int .i64 n), (1, .slice A2 ws.length c2)] [.int .i64 n, .slice A2 ws.length c2] rfl rfl) rfl rfl rfl (RW.nil ⟨rfl, rfl, _, rfl, H', _, Hp.le.refl _, hM, A2, c2, rfl, rfl⟩)
  · intro H' σ' w X hle hM hX hf
    obtain ⟨E0, g0, x0⟩ := hX 0 3 (by omega) rfl
    obtain ⟨_, rfl⟩ := g0.get rfl
    obtain ⟨E1, g1, x1⟩ := hX 1 4 (by omega) rfl
    obtain ⟨_, rfl⟩ := g1.get rfl
    obtain ⟨E2, _, x2⟩ := hX 2 5 (by omega) rfl
    obtain ⟨E3, g3, x3⟩ := hX 3 6 (by omega) rfl
    obtain ⟨_, rfl⟩ := g3.get rfl
    obtain ⟨E4, g4, x4⟩ := hX 4 7 (by omega) rfl
    obtain ⟨_, rfl⟩ := g4.get rfl
    obtain ⟨E5, _, x5⟩ := hX 5 8 (by omega) rfl
    obtain ⟨E6, g6, x6⟩ := hX 6 9 (by omega) rfl
    obtain ⟨A2, c2, e9, rfl⟩ := g6.get rfl
    have y2 : X 2 = [] := x2
    have y5 : X 5 = [] := x5
    have y0 : X 0 = [] := x0
    have y1 : X 1 = [] := x1
    have y3 : X 3 = [] := x3
    have y4 : X 4 = [] := x4
    have y6 : X 6 = [.row (.slice A2 ws.length c2) 55 1 ws.length (ws.map u64)] := x6
    have hfl : flatX X 7 = [.row (.slice A2 ws.length c2) 55 1 ws.length (ws.map u64)] := by
      show X 0 ++ (X 1 ++ (X 2 ++ (X 3 ++ (X 4 ++ (X 5 ++ (X 6 ++ [])))))) = _
      rw [y0, y1, y2, y3, y4, y5, y6]; rfl
    rw [hfl] at hM
    replace hM : Mem w0 H w H [.row (.slice A2 ws.length c2) 55 1 ws.length (ws.map u64), .box b2 24 [.int .i64 (0), .slice none 0 0], .box b1 24 [.int .i64 n, .slice A1 ws.length c1]] := hM.lower (Hp.le.refl _) hle
    obtain ⟨τ, rfl⟩ := sl_canon (σ := σ') (l := [(2, .pointer (some ⟨b2, 0, none⟩)), (9, .agg #[.int .i64 n, .slice A2 ws.length c2])]) ⟨(hf 2 (by kernel_rfl)).trans rfl, e9, trivial⟩
    refine RW.store hM 1 (.agg #[.int .i64 n, .slice A2 ws.length c2]) [.int .i64 n, .slice A2 ws.length c2] [.int .i64 n, .slice A2 ws.length c2] sz24 rfl rfl rfl (oneAll ⟨rfl, rfl, trivial⟩) rfl (Nat.le_of_ble_eq_true rfl) rfl _ rfl rfl rfl ?_; intro w hM
    refine RW.nil ?_
    refine CW.ret ?_
    refine end_cell (k := 1) (.inl rfl) rfl hM rfl ta24 [.int .i64 n, .slice A2 ws.length c2] rfl rfl ?_
    exact ⟨_, _, hM.sub (L' := [.row (.slice A2 ws.length c2) 55 1 ws.length (ws.map u64)]) (List.Sublist.cons_cons _ (List.nil_sublist _)), A2, c2, rfl, rfl⟩


end Go.Proofs.YtackllehpecfgaaDoor
