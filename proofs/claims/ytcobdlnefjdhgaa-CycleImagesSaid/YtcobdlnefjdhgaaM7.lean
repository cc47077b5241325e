/- Proved: the tied card of the statement CycleImages: for every argument that can be read the law returns true and leaves its arguments as they were. Conditions: the row's own alone. -/
import Derived.Lib.TrailingZeros
import Derived.Test.YtcobdlnefjdhgaaM6
namespace Go.Proofs.Ytcobdlnefjdhgaa
open Go.RowKit
def at3 (a b c n : Int) : Int := if n = 0 then a else if n = 1 then b else c
theorem suf_snoc (W : Nat → api_Write) (q : Nat → Bool) (k : Nat) : sufL W q 0 (k + 1) = sufL W q 0 k ++ (if q k = true then [W k] else []) := by
  unfold sufL
  rw [← List.range_eq_range', ← List.range_eq_range', filter_snoc, List.map_append]
  by_cases h : q k = true
  · rw [if_pos h, if_pos h]; rfl
  · rw [if_neg h, if_neg h]; rfl
def wantL (z : List (List Sec)) (all : List api_Write) (nodes : List Int) (to : Int → Int) (k : Nat) : List (List Sec) := appL z (sufL (wrA all) (takenB nodes to) 0 k)
theorem want_step {z : List (List Sec)} {all : List api_Write} {nodes : List Int} {to : Int → Int} {k : Nat} : wantL z all nodes to (k + 1) = if takenB nodes to k = true then apply1 (wantL z all nodes to k) (ix all (k : Int)) else wantL z all nodes to k := by
  unfold wantL
  rw [suf_snoc]
  by_cases h : takenB nodes to k = true
  · rw [if_pos h, if_pos h, appL_snoc]; rfl
  · rw [if_neg h, if_neg h, List.append_nil]
theorem images_L3 {v6 v10 v11 v12 : Int} {all : List api_Write} {nodes : List Int} {rec1 : (Int × Int × Int × Int × Int × Int × Int × Int × List Int × List Int × List Int × List api_Write × List (List Sec) × List api_Write × List Int) → Prop} {a b c : Int} {v27 : api_Capture × api_Cycle × Int} {v28 : List (List Sec) × Int} {Φ : Bool → Prop} {z : List (List Sec)}
    (hl : nodes.length = all.length) (hN : all.length ≤ 1000) (hn : ∀ k : Nat, k < all.length → ix nodes (k : Int) = 0 ∨ ix nodes (k : Int) = 1 ∨ ix nodes (k : Int) = 2) (hz : imgE z = 0) (hf : ∀ k : Nat, k < all.length → fitW (szs z) (ix all (k : Int)) = 0)
    (he : ref07_Same_W v28.1 (wantL z all nodes (at3 a b c) all.length) fun v45 => (¬ (v45 = true) → Φ false) ∧ (¬ (¬ (v45 = true)) → inI (v6 + 1) ∧ rec1 ((v6 + 1), a, b, c, v10, v11, v12, v27.1.Number, v27.1.Sizes, v27.1.Positions, v27.1.Nodes, v27.1.Writes, v28.1, all, nodes))) :
    LoopW (Z86 v6 v10 v11 v12 all nodes rec1 a b c v27 v28 Φ) (0, 0, 0, 0, z) := by
  refine LoopW.upT all.length (fun k => ((k : Int), (cnt nodes 0 k : Int), (cnt nodes 1 k : Int), (cnt nodes 2 k : Int), wantL z all nodes (at3 a b c) k)) rfl (fun k rec hk hr => ⟨fun _ => ?_, fun q => absurd (show (k : Int) < (all.length : Int) by omega) q⟩) fun rec => ⟨fun q => absurd q (by omega), fun _ => he⟩
  have hs : ¬ sizesE (szs z) ≠ 0 := fun t => t hz
  have fs : ∀ w ∈ sufL (wrA all) (takenB nodes (at3 a b c)) 0 k, fitW (szs z) w = 0 := fun w hw => by
    unfold sufL at hw
    obtain ⟨j, hj, rfl⟩ := List.mem_map.1 hw
    have := List.mem_range'_1.1 (List.mem_filter.1 hj).1
    exact hf j (by omega)
  have ez : szs (wantL z all nodes (at3 a b c) k) = szs z := szs_appL hs fs
  have hzk : imgE (wantL z all nodes (at3 a b c) k) = 0 := by unfold imgE; rw [ez]; exact hz
  have ap : ∀ {Ψ : List (List Sec) × Int × Int → Prop}, Ψ (apply1 (wantL z all nodes (at3 a b c) k) (ix all (k : Int)), 0, 0) → ref07_Apply_W (wantL z all nodes (at3 a b c) k) [ix all (k : Int)] Ψ := fun h => ref07_Apply_ok (by show 1 ≤ 1000000; omega) hzk (fun w hw => by rw [List.mem_singleton.1 hw, ez]; exact hf k hk) h
  have c0 := cnt_le nodes 0 k
  have c1 := cnt_le nodes 1 k
  have c2 := cnt_le nodes 2 k
  have s0 := cnt_succ nodes 0 k
  have s1 := cnt_succ nodes 1 k
  have s2 := cnt_succ nodes 2 k
  have tk : takenB nodes (at3 a b c) k = decide ((cnt nodes (ix nodes (k : Int)) k : Int) < at3 a b c (ix nodes (k : Int))) := rfl
  have ws := want_step (z := z) (all := all) (nodes := nodes) (to := at3 a b c) (k := k)
  have xk : inX (k : Int) nodes.length := iX (by omega) (by omega)
  have xa : inX (k : Int) all.length := iX (by omega) (by omega)
  rcases hn k hk with h | h | h
  · rw [h] at s0 s1 s2 tk
    rw [if_pos rfl] at s0
    rw [if_neg (by omega)] at s1 s2
    refine ⟨xk, ⟨by omega, by omega⟩, fun _ => ⟨⟨by omega, by omega⟩, xk, ⟨by omega, by omega⟩, fun _ => ⟨⟨by omega, by omega⟩, fun q => ⟨xa, ap ⟨xk, ⟨by omega, by omega⟩, fun _ => ⟨⟨by omega, by omega⟩, iI (by omega) (by omega), ⟨by omega, by omega⟩, iI (by omega) (by omega), hr _ ?_⟩, fun e => by omega, fun e => by omega, trivial⟩⟩, fun q => ⟨xk, ⟨by omega, by omega⟩, fun _ => ⟨⟨by omega, by omega⟩, iI (by omega) (by omega), ⟨by omega, by omega⟩, iI (by omega) (by omega), hr _ ?_⟩, fun e => by omega, fun e => by omega, trivial⟩⟩, fun e => by omega, fun e => by omega, trivial⟩, fun e => by omega, fun e => by omega, trivial⟩
    · have q : (cnt nodes 0 k : Int) < at3 a b c 0 := q
      rw [ws, tk, if_pos (decide_eq_true q), s0, s1, s2]; rfl
    · have q : ¬ (cnt nodes 0 k : Int) < at3 a b c 0 := q
      rw [ws, tk, if_neg (by rw [decide_eq_false q]; simp), s0, s1, s2]; rfl
  · rw [h] at s0 s1 s2 tk
    rw [if_pos rfl] at s1
    rw [if_neg (by omega)] at s0 s2
    refine ⟨xk, ⟨by omega, by omega⟩, fun e => by omega, fun _ => ⟨⟨by omega, by omega⟩, xk, ⟨by omega, by omega⟩, fun e => by omega, fun _ => ⟨⟨by omega, by omega⟩, fun q => ⟨xa, ap ⟨xk, ⟨by omega, by omega⟩, fun e => by omega, fun _ => ⟨⟨by omega, by omega⟩, iI (by omega) (by omega), ⟨by omega, by omega⟩, iI (by omega) (by omega), hr _ ?_⟩, fun e => by omega, trivial⟩⟩, fun q => ⟨xk, ⟨by omega, by omega⟩, fun e => by omega, fun _ => ⟨⟨by omega, by omega⟩, iI (by omega) (by omega), ⟨by omega, by omega⟩, iI (by omega) (by omega), hr _ ?_⟩, fun e => by omega, trivial⟩⟩, fun e => by omega, trivial⟩, fun e => by omega, trivial⟩
    · have q : (cnt nodes 1 k : Int) < at3 a b c 1 := q
      rw [ws, tk, if_pos (decide_eq_true q), s0, s1, s2]; rfl
    · have q : ¬ (cnt nodes 1 k : Int) < at3 a b c 1 := q
      rw [ws, tk, if_neg (by rw [decide_eq_false q]; simp), s0, s1, s2]; rfl
  · rw [h] at s0 s1 s2 tk
    rw [if_pos rfl] at s2
    rw [if_neg (by omega)] at s0 s1
    refine ⟨xk, ⟨by omega, by omega⟩, fun e => by omega, fun e => by omega, fun _ => ⟨⟨by omega, by omega⟩, xk, ⟨by omega, by omega⟩, fun e => by omega, fun e => by omega, fun _ => ⟨⟨by omega, by omega⟩, fun q => ⟨xa, ap ⟨xk, ⟨by omega, by omega⟩, fun e => by omega, fun e => by omega, fun _ => ⟨⟨by omega, by omega⟩, iI (by omega) (by omega), ⟨by omega, by omega⟩, iI (by omega) (by omega), hr _ ?_⟩, trivial⟩⟩, fun q => ⟨xk, ⟨by omega, by omega⟩, fun e => by omega, fun e => by omega, fun _ => ⟨⟨by omega, by omega⟩, iI (by omega) (by omega), ⟨by omega, by omega⟩, iI (by omega) (by omega), hr _ ?_⟩, trivial⟩⟩, trivial⟩, trivial⟩
    · have q : (cnt nodes 2 k : Int) < at3 a b c 2 := q
      rw [ws, tk, if_pos (decide_eq_true q), s0, s1, s2]; rfl
    · have q : ¬ (cnt nodes 2 k : Int) < at3 a b c 2 := q
      rw [ws, tk, if_neg (by rw [decide_eq_false q]; simp), s0, s1, s2]; rfl
structure ImgI (N0 : Nat) (i : Nat) (a b c i0 i1 i2 : Int) (cap : api_Capture) (im : List (List Sec)) (all : List api_Write) (nodes : List Int) : Prop where
  le : i ≤ N0
  num : 0 ≤ cap.Number ∧ cap.Number ≤ (i : Int)
  sz : cap.Sizes = szL
  pos : cap.Positions = [a, b, c]
  len : nodes.length = all.length
  few : all.length ≤ i
  cn : i0 = (cnt nodes 0 nodes.length : Int) ∧ i1 = (cnt nodes 1 nodes.length : Int) ∧ i2 = (cnt nodes 2 nodes.length : Int)
  rng : (0 ≤ a ∧ a ≤ i0) ∧ (0 ≤ b ∧ b ≤ i1) ∧ (0 ≤ c ∧ c ≤ i2)
  nd : ∀ k : Nat, k < all.length → ix nodes (k : Int) = 0 ∨ ix nodes (k : Int) = 1 ∨ ix nodes (k : Int) = 2
  fit : ∀ k : Nat, k < all.length → fitW szL (ix all (k : Int)) = 0
  data : ∀ w ∈ all, w.Data.length ≤ 4096
  hist : HistC all nodes (takenB nodes (at3 a b c)) all.length cap
  img : im = wantL (zeroI szL) all nodes (at3 a b c) all.length
theorem fit_hid {sizes : List Int} (w : api_Write) (l : List api_Write) : fitW sizes (hidW w l) = fitW sizes w := by
  unfold fitW hidW
  simp only [tab_len]
theorem ImgI.cap {N0 i : Nat} {a b c i0 i1 i2 : Int} {cap : api_Capture} {im : List (List Sec)} {all : List api_Write} {nodes : List Int} (h : ImgI N0 i a b c i0 i1 i2 cap im all nodes) (hN : N0 ≤ 25) : cptE cap = 0 := by
  have h1 := h.num
  have h2 := h.le
  have h3 := h.rng
  have h4 := h.cn
  have h5 := h.few
  have l0 := cnt_le nodes 0 nodes.length
  have l1 := cnt_le nodes 1 nodes.length
  have l2 := cnt_le nodes 2 nodes.length
  have hl := h.len
  have hs : sizesE cap.Sizes = 0 := by rw [h.sz]; rfl
  have hp : posR 1 cap.Positions = 0 := by
    rw [h.pos]
    unfold posR
    rw [if_neg (by show ¬ ((3 : Int) < 1 ∨ (8 : Int) < 3); omega)]
    refine firstN_zero.2 fun k hk => ?_
    have hk : k < 3 := hk
    have : ix [a, b, c] (k : Int) = a ∨ ix [a, b, c] (k : Int) = b ∨ ix [a, b, c] (k : Int) = c := by
      match k, hk with
      | 0, _ => exact .inl rfl
      | 1, _ => exact .inr (.inl rfl)
      | 2, _ => exact .inr (.inr rfl)
    rw [if_neg (by omega)]
  have ln : cap.Nodes.length = (remL (takenB nodes (at3 a b c)) all.length).length := by rw [h.hist.nodes, List.length_map]
  have lw : cap.Writes.length = (remL (takenB nodes (at3 a b c)) all.length).length := by rw [h.hist.writes, List.length_map]
  have lr : (remL (takenB nodes (at3 a b c)) all.length).length ≤ all.length := by
    unfold remL
    have := List.length_filter_le (fun j => !takenB nodes (at3 a b c) j) (List.range all.length)
    rw [List.length_range] at this; exact this
  unfold cptE
  rw [if_neg (by omega), if_neg (by omega), if_neg (by omega), if_neg (by omega)]
  refine firstN_zero.2 fun k hk => ?_
  have hk' : k < (remL (takenB nodes (at3 a b c)) all.length).length := by omega
  have hm : (remL (takenB nodes (at3 a b c)) all.length).getD k 0 ∈ remL (takenB nodes (at3 a b c)) all.length := by
    rw [List.getD_eq_getElem?_getD, List.getElem?_eq_getElem hk']; exact List.getElem_mem hk'
  have hj := (rem_mem.1 hm).1
  unfold nodW
  rw [h.hist.nodes, h.hist.writes, ix_map_places _ _ hk', ix_map_places _ _ hk', h.pos, h.sz]
  have hn := h.nd _ hj
  have hf := h.fit _ hj
  unfold ndA hidA wrA
  rw [fit_hid, hf, if_neg (by show ¬ (_ < 0 ∨ (3 : Int) ≤ _); omega)]
theorem ImgI.add {N0 i : Nat} {a b c i0 i1 i2 : Int} {cap : api_Capture} {im : List (List Sec)} {all : List api_Write} {nodes : List Int} (h : ImgI N0 i a b c i0 i1 i2 cap im all nodes) (hN : N0 ≤ 25) (hi : i < N0) {n : Int} (hn : n = 0 ∨ n = 1 ∨ n = 2) {w : api_Write} (hf : fitW szL w = 0) (hw : w.Data.length ≤ 4096) :
    addR cap n w = (⟨cap.Number, cap.Sizes, cap.Positions, cap.Nodes ++ [n], cap.Writes ++ [w]⟩, 0) ∧
    ImgI N0 (i + 1) a b c (i0 + if n = 0 then 1 else 0) (i1 + if n = 1 then 1 else 0) (i2 + if n = 2 then 1 else 0) ⟨cap.Number, cap.Sizes, cap.Positions, cap.Nodes ++ [n], cap.Writes ++ [w]⟩ im (all ++ [w]) (nodes ++ [n]) := by
  have hc := h.cap hN
  have lw : cap.Writes.length ≤ all.length := by
    rw [h.hist.writes, List.length_map]
    unfold remL
    have := List.length_filter_le (fun j => !takenB nodes (at3 a b c) j) (List.range all.length)
    rw [List.length_range] at this; exact this
  have h1 := h.num
  have h3 := h.rng
  have h4 := h.cn
  have h5 := h.few
  have hl := h.len
  have e0 : addE cap n w = 0 := by
    unfold addE
    rw [if_neg (by omega), if_neg (by rw [h.pos]; show ¬ (n < 0 ∨ (3 : Int) ≤ n); omega), h.sz, if_neg (by omega), if_neg (by omega)]
  have cs : ∀ m : Int, cnt (nodes ++ [n]) m (nodes ++ [n]).length = cnt nodes m nodes.length + if n = m then 1 else 0 := fun m => by
    rw [len_snoc, cnt_succ, cnt_app _ _ _ _ (Nat.le_refl _), ix_snoc_last]
  have hp : at3 a b c n ≤ (cnt nodes n nodes.length : Int) := by
    rcases hn with rfl | rfl | rfl
    · show a ≤ _; omega
    · show b ≤ _; omega
    · show c ≤ _; omega
  have hist := h.hist.add (c' := ⟨cap.Number, cap.Sizes, cap.Positions, cap.Nodes ++ [n], cap.Writes ++ [w]⟩) hl hp rfl rfl
  have hq : takenB (nodes ++ [n]) (at3 a b c) all.length = false := by
    unfold takenB
    rw [← hl, ix_snoc_last, cnt_app _ _ _ _ (Nat.le_refl _)]
    exact decide_eq_false (by omega)
  refine ⟨by unfold addR; rw [if_neg (fun t => t e0)], by omega, ⟨h1.1, by show cap.Number ≤ _; omega⟩, h.sz, h.pos, by rw [len_snoc, len_snoc, hl], by rw [len_snoc]; omega, ?_, ?_, fun k hk => ?_, fun k hk => ?_, fun x hx => ?_, hist, ?_⟩
  · rw [cs, cs, cs]
    refine ⟨?_, ?_, ?_⟩ <;> (split <;> omega)
  · refine ⟨⟨h3.1.1, ?_⟩, ⟨h3.2.1.1, ?_⟩, ⟨h3.2.2.1, ?_⟩⟩ <;> (split <;> omega)
  · rw [len_snoc] at hk
    by_cases e : k = all.length
    · rw [e, ← hl, ix_snoc_last]; exact hn
    · rw [ix_append _ _ (by omega)]; exact h.nd k (by omega)
  · rw [len_snoc] at hk
    by_cases e : k = all.length
    · rw [e, ix_snoc_last]; exact hf
    · rw [ix_append _ _ (by omega)]; exact h.fit k (by omega)
  · rcases List.mem_append.1 hx with hx | hx
    · exact h.data x hx
    · rw [List.mem_singleton.1 hx]; exact hw
  · rw [h.img]
    unfold wantL
    rw [len_snoc, suf_snoc, if_neg (by rw [hq]; simp), List.append_nil]
    congr 1
    exact suf_congr fun j _ hj => ⟨(taken_old _ _ _ (by omega)).symm, (ix_append _ _ (by omega)).symm⟩
theorem ix3 (a b c : Int) {i : Nat} (h : i < 3) : ix [a, b, c] (i : Int) = at3 a b c (i : Int) := by
  match i, h with
  | 0, _ => rfl
  | 1, _ => rfl
  | 2, _ => rfl
theorem ImgI.clo {N0 i : Nat} {a b c i0 i1 i2 : Int} {cap : api_Capture} {im : List (List Sec)} {all : List api_Write} {nodes : List Int} (h : ImgI N0 i a b c i0 i1 i2 cap im all nodes) (hN : N0 ≤ 25) {a' b' c' : Int} (ha : a ≤ a' ∧ a' ≤ i0) (hb : b ≤ b' ∧ b' ≤ i1) (hc : c ≤ c' ∧ c' ≤ i2) : cloE cap (i : Int) [a', b', c'] = 0 := by
  have hcap := h.cap hN
  have h2 := h.le
  have h3 := h.rng
  have h4 := h.cn
  have hl := h.len
  have h0 : ∀ n : Int, 0 ≤ at3 a b c n := fun n => by unfold at3; split; omega; split <;> omega
  unfold cloE
  rw [if_neg (by omega), if_neg (by omega), if_neg (by rw [h.pos]; simp), if_neg]
  rw [badB_false]
  · simp
  intro j hj hbad
  have hj : j < 3 := hj
  unfold badI at hbad
  have lr : cap.Nodes.length = (remL (takenB nodes (at3 a b c)) all.length).length := by rw [h.hist.nodes, List.length_map]
  have e1 : (cnt cap.Nodes (j : Int) cap.Nodes.length : Int) = pos0 ((cnt nodes (j : Int) nodes.length : Int) - at3 a b c (j : Int)) := by
    have := (rem_cnt (takenB nodes (at3 a b c)) (ndA nodes) (j : Int) all.length).2
    rw [lr, h.hist.nodes, this, hl]
    exact cr_taken nodes (at3 a b c) (j : Int) (h0 _) all.length
  rw [e1, h.pos, ix3 _ _ _ hj, ix3 _ _ _ hj] at hbad
  unfold pos0 at hbad
  match j, hj with
  | 0, _ =>
    have : ¬ (a' < a ∨ a + (if (cnt nodes 0 nodes.length : Int) - a < 0 then 0 else (cnt nodes 0 nodes.length : Int) - a) < a') := by split <;> omega
    exact this hbad
  | 1, _ =>
    have : ¬ (b' < b ∨ b + (if (cnt nodes 1 nodes.length : Int) - b < 0 then 0 else (cnt nodes 1 nodes.length : Int) - b) < b') := by split <;> omega
    exact this hbad
  | 2, _ =>
    have : ¬ (c' < c ∨ c + (if (cnt nodes 2 nodes.length : Int) - c < 0 then 0 else (cnt nodes 2 nodes.length : Int) - c) < c') := by split <;> omega
    exact this hbad
theorem ImgI.close {N0 i : Nat} {a b c i0 i1 i2 : Int} {cap : api_Capture} {im : List (List Sec)} {all : List api_Write} {nodes : List Int} (h : ImgI N0 i a b c i0 i1 i2 cap im all nodes) (hN : N0 ≤ 25) (hi : i < N0) {a' b' c' : Int} (ha : a ≤ a' ∧ a' ≤ i0) (hb : b ≤ b' ∧ b' ≤ i1) (hc : c ≤ c' ∧ c' ≤ i2) :
    ∃ (cap' : api_Capture) (x : api_Cycle), cloR cap (i : Int) [a', b', c'] = (cap', x, 0) ∧ x.Number = x.Base + 1 ∧ x.Base = cap.Number ∧ cap'.Number = x.Number ∧ x.Positions.length ≤ 100000 ∧ x.Writes.length ≤ 100000 ∧ (∀ w ∈ x.Writes, w.Data.length ≤ 1000000) ∧ appR im x = (wantL (zeroI szL) all nodes (at3 a' b' c') all.length, 0) ∧ ImgI N0 (i + 1) a' b' c' i0 i1 i2 cap' (wantL (zeroI szL) all nodes (at3 a' b' c') all.length) all nodes := by
  have hcl := h.clo hN ha hb hc
  have h1 := h.num
  have h2 := h.le
  have h3 := h.rng
  have h4 := h.cn
  have h5 := h.few
  have l0 := cnt_le nodes 0 nodes.length
  have l1 := cnt_le nodes 1 nodes.length
  have l2 := cnt_le nodes 2 nodes.length
  have hl := h.len
  have h0 : ∀ n : Int, 0 ≤ at3 a b c n := fun n => by unfold at3; split; omega; split <;> omega
  have hm : ∀ n : Int, at3 a b c n ≤ at3 a' b' c' n := fun n => by unfold at3; split; omega; split <;> omega
  have hin := in_rem (to := at3 a' b' c') (tl := [a', b', c']) h.hist h0 fun j hj => by
    unfold dT
    rw [h.pos]
    rcases h.nd j hj with e | e | e <;> (rw [e]; rfl)
  have hn := close_nodes h.hist hm hin
  have hw := close_writes h.hist hm hin
  have hz : ¬ sizesE (szs (zeroI szL)) ≠ 0 := by rw [szs_zeroI (by rfl)]; exact fun t => t rfl
  have ez : szs (zeroI szL) = szL := szs_zeroI (by rfl)
  have hfit : ∀ j, j < all.length → fitW (szs (zeroI szL)) (wrA all j) = 0 := fun j hj => by rw [ez]; exact h.fit j hj
  have hsel : ∀ w ∈ selW cap (inB cap [a', b', c']) cap.Writes.length, fitW szL w = 0 ∧ w.Data.length ≤ 4096 := fun w hw => by
    rw [h.hist.sel (takenB nodes (at3 a' b' c')) (inB cap [a', b', c']) hin] at hw
    unfold sufL at hw
    obtain ⟨j, hj, rfl⟩ := List.mem_map.1 hw
    have := List.mem_range'_1.1 (List.mem_filter.1 hj).1
    refine ⟨by unfold hidA; rw [fit_hid]; exact h.fit j (by omega), ?_⟩
    have hd := h.data _ (ix_mem (iX (i := (j : Int)) (n := all.length) (by omega) (by omega)))
    show (tabL _ _).length ≤ _
    rw [tab_len]; exact hd
  have him := close_image h.hist hm hin hz hfit fun w hw => by rw [ez]; exact (hsel w hw).1
  have sl := sel_len (c := cap) (q := inB cap [a', b', c']) (n := cap.Writes.length)
  have lw : cap.Writes.length ≤ all.length := by
    rw [h.hist.writes, List.length_map]
    unfold remL
    have := List.length_filter_le (fun j => !takenB nodes (at3 a b c) j) (List.range all.length)
    rw [List.length_range] at this; exact this
  have sz0 : sizesE szL = 0 := rfl
  have cn := can_eff (sizes := szL) (by rw [sz0]; simp) fun w hw => (hsel w hw).1
  have cf := can_fit cn (eff_in (sizes := szL) (by rw [sz0]; simp) fun w hw => (hsel w hw).1)
  have co := can_ord cn cf
  have sb := secN_bound (c := 4096) _ fun w hw => (hsel w hw).2
  have sb2 := Nat.mul_le_mul_right 4096 (show (selW cap (inB cap [a', b', c']) cap.Writes.length).length ≤ 25 by omega)
  have se := effM_sum (selW cap (inB cap [a', b', c']) cap.Writes.length)
  have cl := can_len cn
  have cs := cn.sum
  have e1 : szs im = szL := by
    rw [h.img]
    unfold wantL
    rw [szs_appL hz (fun w hw => ?_), ez]
    unfold sufL at hw
    obtain ⟨j, hj, rfl⟩ := List.mem_map.1 hw
    have := List.mem_range'_1.1 (List.mem_filter.1 hj).1
    exact hfit j (by omega)
  have hx : cycE ⟨cap.Number, cap.Number + 1, (i : Int), [a', b', c'], canL (effM (selW cap (inB cap [a', b', c']) cap.Writes.length))⟩ szL = 0 := by
    unfold cycE
    rw [if_neg (by rw [sz0]; simp), if_neg (by show ¬ (cap.Number < 0 ∨ cap.Number + 1 ≤ cap.Number ∨ 1073741824 < cap.Number + 1); omega), if_neg (by show ¬ ((i : Int) < 0 ∨ 1073741824 < (i : Int)); omega), if_neg]
    · exact co
    · refine fun t => t ?_
      unfold posR
      rw [if_neg (by show ¬ ((3 : Int) < 0 ∨ (8 : Int) < 3); omega)]
      refine firstN_zero.2 fun k hk => ?_
      have hk : k < 3 := hk
      show (if ix [a', b', c'] (k : Int) < 0 ∨ 1073741824 < ix [a', b', c'] (k : Int) then 2 else 0) = (0 : Int)
      rw [ix3 _ _ _ hk, if_neg]
      unfold at3
      split
      · omega
      · split <;> omega
  have each : ∀ w ∈ canL (effM (selW cap (inB cap [a', b', c']) cap.Writes.length)), w.Data.length ≤ 1000000 := fun w hw => by have := secN_each w hw; omega
  have lc : (canL (effM (selW cap (inB cap [a', b', c']) cap.Writes.length))).length ≤ 100000 := by omega
  refine ⟨⟨cap.Number + 1, cap.Sizes, [a', b', c'], outN cap (inB cap [a', b', c']) cap.Writes.length, outW cap (inB cap [a', b', c']) cap.Writes.length⟩, ⟨cap.Number, cap.Number + 1, (i : Int), [a', b', c'], canL (effM (selW cap (inB cap [a', b', c']) cap.Writes.length))⟩, by unfold cloR; rw [if_neg (fun t => t hcl)], rfl, rfl, rfl, by show 3 ≤ 100000; omega, lc, each, ?_, by omega, ⟨by show 0 ≤ cap.Number + 1; omega, by show cap.Number + 1 ≤ _; omega⟩, h.sz, rfl, hl, by omega, h4, ⟨⟨by omega, by omega⟩, ⟨by omega, by omega⟩, ⟨by omega, by omega⟩⟩, h.nd, h.fit, h.data, ⟨hn, hw⟩, rfl⟩
  unfold appR
  rw [if_neg (by unfold imgE; rw [e1, sz0]; simp), e1, if_neg (fun t => t hx)]
  rw [h.img]
  unfold wantL
  rw [him]
section
theorem new_ok {l : List Int} {Φ : List (List Sec) × Int → Prop} (q : sizesE l = 0) (hΦ : Φ (zeroI l, 0)) : ref07_New_W l Φ := by
  refine ref07_Sizes_ok ⟨fun r => absurd q r, fun _ => ?_⟩
  have hl := sizesE_len q
  refine LoopW.upT l.length (fun k => ((k : Int), (l.take k).map fun n => List.replicate n.toNat sec0)) rfl (fun k rec hk hr => ?_) fun rec => ⟨fun r => absurd r (by omega), fun _ => by rw [take_all]; exact hΦ⟩
  have := sizesE_ix q hk
  exact ⟨fun _ => ⟨iX (by omega) (by omega), by omega, iL (by omega) (by omega), iL (by rw [len_snoc, List.length_map, lenT (by omega)]; omega) (by omega), iI (by omega) (by omega), hr _ (by rw [map_take_snoc _ hk]; rfl)⟩, fun r => absurd (show (k : Int) < (l.length : Int) by omega) r⟩
theorem siz3_ok {Φ : List Int → Prop} (h : Φ szL) : law23_sizes_W Φ := h
theorem fit_six {w : api_Write} (h : fitW szL w = 0) : w.Data.length ≤ 6 := by
  unfold fitW at h
  split at h
  · omega
  · rename_i hv
    split at h
    · omega
    · split at h
      · omega
      · rename_i hs
        have hv : ¬ (w.Volume < 0 ∨ (2 : Int) ≤ w.Volume) := hv
        have : ix szL w.Volume ≤ 6 := by
          have : w.Volume = 0 ∨ w.Volume = 1 := by omega
          rcases this with e | e <;> (rw [e]; decide)
        omega
section
variable {N0 i : Nat} {a b c i0 i1 i2 : Int} {cap : api_Capture} {im : List (List Sec)} {all : List api_Write} {nodes : List Int}
theorem ImgI.lenW (h : ImgI N0 i a b c i0 i1 i2 cap im all nodes) : cap.Writes.length ≤ all.length ∧ cap.Nodes.length ≤ all.length := by
  have lr : (remL (takenB nodes (at3 a b c)) all.length).length ≤ all.length := by
    unfold remL
    have := List.length_filter_le (fun j => !takenB nodes (at3 a b c) j) (List.range all.length)
    rw [List.length_range] at this; exact this
  exact ⟨by rw [h.hist.writes, List.length_map]; exact lr, by rw [h.hist.nodes, List.length_map]; exact lr⟩
theorem ImgI.small (h : ImgI N0 i a b c i0 i1 i2 cap im all nodes) (hN : N0 ≤ 25) : SmallC cap := by
  have h1 := h.le
  have h2 := h.few
  have h3 := h.lenW
  refine ⟨by rw [h.sz]; decide, by rw [h.pos]; show 3 ≤ 20; omega, by omega, by omega, fun w hw => ?_⟩
  rw [h.hist.writes] at hw
  obtain ⟨j, hj, rfl⟩ := List.mem_map.1 hw
  have hj := (rem_mem.1 hj).1
  have := fit_six (h.fit j hj)
  show (tabL _ _).length ≤ 24
  rw [tab_len]
  show (ix all (j : Int)).Data.length ≤ 24
  omega
theorem ImgI.szs (h : ImgI N0 i a b c i0 i1 i2 cap im all nodes) : szs im = szL := by
  have hz : ¬ sizesE (Go.Proofs.Ytcobdlnefjdhgaa.szs (zeroI szL)) ≠ 0 := by rw [szs_zeroI (by rfl)]; exact fun t => t rfl
  have ez : Go.Proofs.Ytcobdlnefjdhgaa.szs (zeroI szL) = szL := szs_zeroI (by rfl)
  rw [h.img]
  unfold wantL
  rw [szs_appL hz (fun w hw => ?_), ez]
  unfold sufL at hw
  obtain ⟨j, hj, rfl⟩ := List.mem_map.1 hw
  have := List.mem_range'_1.1 (List.mem_filter.1 hj).1
  rw [ez]
  exact h.fit j (by omega)
end
theorem modP {x y : Int} (hy : 0 ≤ y) : 0 ≤ x % (y + 1) ∧ x % (y + 1) ≤ y := by
  have h1 := Int.emod_nonneg x (b := y + 1) (by omega)
  have h2 := Int.emod_lt_of_pos x (b := y + 1) (by omega)
  omega
theorem node_three (x : BitVec 8) : ((x % (3#8)).toNat : Int) = 0 ∨ ((x % (3#8)).toNat : Int) = 1 ∨ ((x % (3#8)).toNat : Int) = 2 := by
  have : (x % (3#8)).toNat = x.toNat % 3 := by simp [BitVec.toNat_umod]
  rw [this]; omega
theorem images_L1 (steps : List standbylaw23_Step) (hN : steps.length ≤ 25) : LoopW (Z88 steps fun y => y = true) (0, 0, 0, 0, 0, 0, 0, 0, szL, [0, 0, 0], [], [], zeroI szL, [], []) := by
  refine LoopW.of_inv (fun s => ∃ (i : Nat) (a b c i0 i1 i2 : Int) (cap : api_Capture) (im : List (List Sec)) (all : List api_Write) (nodes : List Int), s = ((i : Int), a, b, c, i0, i1, i2, cap.Number, cap.Sizes, cap.Positions, cap.Nodes, cap.Writes, im, all, nodes) ∧ ImgI steps.length i a b c i0 i1 i2 cap im all nodes) (fun s => steps.length - s.1.toNat) ?_
    ⟨0, 0, 0, 0, 0, 0, 0, ⟨0, szL, [0, 0, 0], [], []⟩, zeroI szL, [], [], rfl, ⟨Nat.zero_le _, ⟨Int.le_refl _, Int.le_refl _⟩, rfl, rfl, rfl, Nat.le_refl _, ⟨rfl, rfl, rfl⟩, ⟨⟨Int.le_refl _, Int.le_refl _⟩, ⟨Int.le_refl _, Int.le_refl _⟩, ⟨Int.le_refl _, Int.le_refl _⟩⟩, fun k hk => absurd hk (Nat.not_lt_zero k), fun k hk => absurd hk (Nat.not_lt_zero k), (fun w hw => by cases hw), ⟨rfl, rfl⟩, rfl⟩⟩
  rintro _ rec ⟨i, a, b, c, i0, i1, i2, cap, im, all, nodes, rfl, h⟩ hrec
  have h1 := h.le
  have h2 := h.few
  have h3 := h.lenW
  have h4 := h.rng
  have h5 := h.num
  have h6 := h.cn
  have h7 := h.len
  have l0 := cnt_le nodes 0 nodes.length
  have l1 := cnt_le nodes 1 nodes.length
  have l2 := cnt_le nodes 2 nodes.length
  have hs := h.small hN
  have hr : ∀ {s'}, (i < steps.length) → (∃ (a b c i0 i1 i2 : Int) (cap : api_Capture) (im : List (List Sec)) (all : List api_Write) (nodes : List Int), s' = (((i + 1 : Nat) : Int), a, b, c, i0, i1, i2, cap.Number, cap.Sizes, cap.Positions, cap.Nodes, cap.Writes, im, all, nodes) ∧ ImgI steps.length (i + 1) a b c i0 i1 i2 cap im all nodes) → rec s' := fun {s'} hi ⟨a, b, c, i0, i1, i2, cap, im, all, nodes, e, hI⟩ => by
    refine hrec s' ⟨i + 1, a, b, c, i0, i1, i2, cap, im, all, nodes, e, hI⟩ ?_
    rw [e]
    show steps.length - (((i + 1 : Nat) : Int)).toNat < steps.length - ((i : Int)).toNat
    omega
  have t0 : (0 : Int) ≤ 0 ∧ 0 < (3 : Int) := by decide
  have t1 : (0 : Int) ≤ 1 ∧ 1 < (3 : Int) := by decide
  have t2 : (0 : Int) ≤ 2 ∧ 2 < (3 : Int) := by decide
  refine ⟨fun hi => ?_, fun _ => law23_awake_ok rfl⟩
  have hi : i < steps.length := by omega
  refine ⟨iX (by omega) (by omega), fun _ => ?_, fun _ => ?_⟩
  · -- a write is added
    generalize hst : ix steps (i : Int) = s
    have hn := node_three s.Node
    have hf := data_fit s
    have hd := fit_six hf
    obtain ⟨e1, hI⟩ := h.add hN hi hn hf (by omega)
    refine ⟨by decide, (dataR s, ()), law23_data_ok (s := s) rfl, ?_⟩
    generalize ((s.Node % (3#8)).toNat : Int) = n at hn e1 hI
    refine ⟨(⟨cap.Number, cap.Sizes, cap.Positions, cap.Nodes ++ [n], cap.Writes ++ [dataR s]⟩, 0, ()), cycle_Add_ok (c := cap) (n := n) (w := dataR s) (by rw [h.pos]; show 3 ≤ 100000; omega) (by omega) (by omega) (fun w hw => by have := hs.data w hw; omega) (by omega) (by rw [e1]), fun q => absurd rfl q, fun _ => law23_data_ok (s := s) ⟨iL (by rw [len_snoc]; omega) (by omega), iL (by rw [len_snoc]; omega) (by omega), ⟨by omega, by omega⟩, fun e => ⟨t0, iI (by omega) (by omega), t0, iI (by omega) (by omega), hr hi ⟨_, _, _, i0 + 1, i1, i2, _, _, _, _, rfl, ?_⟩⟩, fun e => ⟨t1, iI (by omega) (by omega), t1, iI (by omega) (by omega), hr hi ⟨_, _, _, i0, i1 + 1, i2, _, _, _, _, rfl, ?_⟩⟩, fun e => ⟨t2, iI (by omega) (by omega), t2, iI (by omega) (by omega), hr hi ⟨_, _, _, i0, i1, i2 + 1, _, _, _, _, rfl, ?_⟩⟩, trivial⟩⟩
    · rw [if_pos e, if_neg (by omega), if_neg (by omega), Int.add_zero, Int.add_zero] at hI; exact hI
    · rw [if_neg (by omega), if_pos e, if_neg (by omega), Int.add_zero, Int.add_zero] at hI; exact hI
    · rw [if_neg (by omega), if_neg (by omega), if_pos e, Int.add_zero, Int.add_zero] at hI; exact hI
  · -- a cycle is closed
    generalize hst : ix steps (i : Int) = s
    have m0 := modP (x := (s.More.e0.toNat : Int)) (y := i0 - a) (by omega)
    have m1 := modP (x := (s.More.e1.toNat : Int)) (y := i1 - b) (by omega)
    have m2 := modP (x := (s.More.e2.toNat : Int)) (y := i2 - c) (by omega)
    refine ⟨fun _ => ⟨t0, t0, t0, t0, iI (by omega) (by omega), iI (by omega) (by omega), ⟨by omega, by omega⟩, iI (by omega) (by omega), t0, iI (by omega) (by omega), fun _ => ⟨t1, t1, t1, t1, iI (by omega) (by omega), iI (by omega) (by omega), ⟨by omega, by omega⟩, iI (by omega) (by omega), t1, iI (by omega) (by omega), fun _ => ⟨t2, t2, t2, t2, iI (by omega) (by omega), iI (by omega) (by omega), ⟨by omega, by omega⟩, iI (by omega) (by omega), t2, iI (by omega) (by omega), fun q => absurd q (by omega), fun _ => ?_⟩, fun q => absurd (by omega) q⟩, fun q => absurd (by omega) q⟩, fun q => absurd (by omega) q⟩
    generalize (s.More.e0.toNat : Int) % (i0 - a + 1) = d0 at m0
    generalize (s.More.e1.toNat : Int) % (i1 - b + 1) = d1 at m1
    generalize (s.More.e2.toNat : Int) % (i2 - c + 1) = d2 at m2
    obtain ⟨cap', x, e1, e2, e3, e4, e5, e6, e7, e8, hI⟩ := h.close hN hi (a' := a + d0) (b' := b + d1) (c' := c + d2) ⟨by omega, by omega⟩ ⟨by omega, by omega⟩ ⟨by omega, by omega⟩
    have him := h.szs
    have hl2 : im.length = 2 := by rw [← szs_len, him]; rfl
    refine ⟨t0, t1, t2, cycle_Close_ok (c := cap) hs (by show 3 ≤ 20; omega) (fun k hk => ?_) ?_⟩
    · have hk : k < 3 := hk
      rw [ix3 _ _ _ hk]
      unfold at3
      split
      · exact iI (by omega) (by omega)
      · split <;> exact iI (by omega) (by omega)
    · rw [e1]
      refine ⟨fun q => absurd rfl q, fun _ => ⟨(show inI (x.Base + 1) from iI (by omega) (by omega)), fun q => absurd e2 q, fun _ => ⟨fun q => absurd e3 q, fun _ => ⟨fun q => absurd e4 q, fun _ => cycle_Apply_ok (by omega) e5 e6 e7 ?_⟩⟩⟩⟩
      rw [e8]
      have hi' : imgE (wantL (zeroI szL) all nodes (at3 (a + d0) (b + d1) (c + d2)) all.length) = 0 := by
        have := hI.szs
        unfold imgE
        rw [this]; rfl
      have ez : szs (zeroI szL) = szL := szs_zeroI (by rfl)
      refine ⟨fun q => absurd rfl q, fun _ => siz3_ok (new_ok (by rfl) (images_L3 (z := zeroI szL) h7 (by omega) h.nd (by unfold imgE; rw [ez]; rfl) (fun k hk => by rw [ez]; exact h.fit k hk) ?_))⟩
      refine ref07_Same_refl (.inr hi') ⟨fun q => absurd rfl q, fun _ => ⟨iI (by omega) (by omega), hr hi ⟨_, _, _, _, _, _, cap', _, _, _, rfl, hI⟩⟩⟩
theorem cycleImages_law (steps : List standbylaw23_Step) (_ : Rg.rg steps) : Z89 steps fun y => y = true := by
  refine ⟨fun _ => law23_awake_ok rfl, fun q => siz3_ok (cycle_Open_ok ?_)⟩
  have e : openR szL 3 0 = (⟨0, szL, [0, 0, 0], [], []⟩, 0) := by decide
  rw [e]
  refine siz3_ok (image_New_ok (fun _ => ⟨fun q => absurd rfl q, fun _ => ⟨fun q => absurd rfl q, fun _ => ⟨fun q => absurd rfl q, fun _ => images_L1 steps (by omega)⟩⟩⟩) fun q => absurd (show sizesE szL = 0 from rfl) q)
end
end Go.Proofs.Ytcobdlnefjdhgaa
namespace Go.Proofs.Ytcobdlnefjdhgaa
open Go.RowKit Go.ChangeShapes Go.WideShapes Go.ChangeAt
set_option maxRecDepth 100000 in
theorem cycleImages_lifted (os : Os) (started : os.Started) (H : Type) (enc : TypeId × Value → H) :
    ReturnsInHanded {} Try.checked os 3 .any (Rows.cycleImagesSpec.pre6 enc Try.prog Try.f3 Rows.cycleImagesRow.domain false) (Rows.cycleImagesSpec.post enc Try.prog Try.f3 false true false false) := by
  refine returnsInHanded_of_change (C := Try.checked) Try.own started (by kernel_rfl) Try.func3
    (ChangeSpec.witness6 (enc := enc) (C := Try.checked) false ⟨#[], #[.slice none 0 0], []⟩ 8 (by kernel_rfl) (by kernel_rfl) (by kernel_rfl) (by kernel_rfl)) ?_
  intro W base args ds gs before hval0 hW _ _
  have hval : ∀ (j : Nat) t v, Try.f3.params[j]? = some t → args[j]? = some v → Value.okWide Try.prog W .any base t v := hval0
  have hW' := hW
  obtain ⟨p, q, hA0, hV, hpq, _, _⟩ := hW
  have hA : DataW.TrodAll enc Try.prog W 0 (fun _ => true) true Try.f3.params.toList args.toList ds p := hA0
  rw [Try.params3] at hA hval
  obtain ⟨v0, d0, rfl, rfl, h0⟩ := trodAll_one hA
  obtain ⟨rfl, rfl⟩ := trodVars_none hV
  obtain ⟨Az0, nz0, cz0, sz0, x0, rfl, hz0, hg0⟩ := open_slD Try.underlying22 rd22 (hval 0 22 v0 rfl rfl) h0
  refine Calls.mono ((RetP.toV (y := true) (F := fun z => .bool z) (RetP.mono (ok3 (x0, ()) (fun y => y.1 = true) (cycleImages_law x0 hg0) (HW W) [.slice Az0 nz0 cz0] trivial ⟨_, [.slice Az0 nz0 cz0], _, rfl, by rw [pkw22], (show Dt.rd (α := List standbylaw23_Step) (HW W) _ _ from ⟨Az0, nz0, cz0, sz0, rfl, hz0⟩), rfl⟩) fun _ _ _ _ ⟨y, hy, hr⟩ => lawRes y hy hr)) W fun b o e => e) ?_
  rintro e W' ⟨v, _, rfl, _, _, _, hb, rfl⟩
  exact ⟨_, rfl, post_law Try.laidOut Try.underlying4 rfl (by kernel_rfl) hW' rfl rfl hb⟩
theorem cycleImages_holds : Rows.CycleImagesSaid :=
  OpenClaim.holds_of_wide 3 Try.f3 rfl rfl rfl rfl rfl rfl rfl ⟨rfl, rfl, rfl, rfl, rfl⟩ rfl rfl rfl rfl rfl (by kernel_rfl) Try.func3 (by kernel_rfl)
    (of_decide_eq_true (by kernel_rfl)) (by unfold Func.isWrapper; first | (rw [if_pos (by decide +kernel)]; kernel_rfl) | (rw [if_neg (by decide +kernel)]; exact ⟨rfl, rfl⟩))
    (fun os started H enc _ => cycleImages_lifted os started H enc)
end Go.Proofs.Ytcobdlnefjdhgaa
