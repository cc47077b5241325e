/- Proved: the tied card of the statement TrackerExact: for every argument that can be read the law returns true and leaves its arguments as they were. Conditions: the row's own alone: the table math/bits.deBruijn64tab reads as listed, which the card ties to the program's text. -/
import Derived.Test.YtgojhiknicmopaaGreatDoorM6
namespace Go.Proofs.YtgojhiknicmopaaGreatDoor
open Go.RowKit
theorem q836 {α : Type} {n : Nat} {x : α} {f : Nat → α} (h : ∀ i, i < n → f i = x) : List.replicate n x = tabL n f := by
  unfold tabL
  induction n with
  | zero => rfl
  | succ n ih => rw [List.replicate_succ', q223, ih fun i hi => h i (by omega), h n (by omega)]
theorem it_sel (c : q12) (q : Nat → Bool) : (itL c q).map (fun x => x.2.1) = selW c q c.Writes.length := by
  unfold itL selW; rw [List.map_map]; rfl
theorem q837 {c : q12} (hc : CapOk c) (q : Nat → Bool) : foldR (selW c q c.Writes.length) = (canL (effM (selW c q c.Writes.length)), 0) := by
  unfold foldR; rw [if_neg fun t => t (q29.2 fun k hk => hc.sel q (Nat.le_refl _) _ (q51 (iX (by omega) (by omega))))]
theorem q838 (d : Nat → Int) (N : List Int) {m k : Nat} (h0 : 0 ≤ ix N (k : Int)) (h1 : ix N (k : Int) < (m : Int)) : decide (0 < ix (leftF d N m k) (ix N (k : Int))) = partF d N k := by
  rw [q453 h0 h1]; rfl
theorem q143 {c : q12} {t : Int} {to : List Int} {Φ : q12 × q14 × Int → Prop} (hs : q874 c) (hto : to.length ≤ 20) (hr : ∀ i : Nat, i < to.length → inI (ix to (i : Int))) (hΦ : Φ (cloR c t to)) : q57 c t to Φ := by
  have er : ∀ e, cloE c t to = e → e ≠ 0 → Φ (cap0, cyc0, e) := fun e h1 h2 => by
    unfold cloR at hΦ; rw [h1, if_pos h2] at hΦ; exact hΦ
  have cr : ∀ e, cptE c = e → e ≠ 0 → Φ (cap0, cyc0, e) := fun e h1 h2 => er e (by unfold cloE; rw [h1, if_pos h2]) h2; have s1 := hs.pos; have s2 := hs.nodes; have s3 := hs.len; have s5 := hs.sizes; have s4 : ∀ w ∈ c.Writes, w.Data.length ≤ 1000000 := fun w hw => by have := hs.data w hw; omega
  refine q46 (fun hz => ⟨fun q => absurd rfl q, fun _ => ?_⟩) fun hz => ⟨fun _ => cr _ (by unfold cptE; rw [if_pos hz]) hz, fun q => absurd (show q27 c.Sizes = 0 from Classical.not_not.1 q) hz⟩
  have h8 := q53 hz; have e := q150 hz; have hz' : imgE (zeroI c.Sizes) = 0 := by unfold imgE; rw [e]; exact hz
  refine q38 ⟨fun r => ?_, fun r => ?_⟩
  · have := of_decide_eq_false (Bool.eq_false_iff.2 r)
    exact cr 2 (by unfold cptE; rw [if_neg (by omega), if_pos (by omega)]) (by omega)
  have a1 := of_decide_eq_true (Classical.not_not.1 r); refine q100 (by omega) ⟨fun u => cr _ (by unfold cptE; rw [if_neg (by omega), if_neg (by omega), if_pos u]) u, fun u => ?_⟩; have u := Classical.not_not.1 u; refine ⟨fun v => ⟨fun x => cr 6 (by unfold cptE; rw [if_neg (by omega), if_neg (by omega), if_neg (by omega), if_pos (by omega)]) (by omega), fun x => ?_⟩, fun v => cr 6 (by unfold cptE; rw [if_neg (by omega), if_neg (by omega), if_neg (by omega), if_pos (by omega)]) (by omega)⟩; have ce : cptE c = q71 (nodW c) c.Writes.length := by unfold cptE; rw [if_neg (by omega), if_neg (by omega), if_neg (by omega), if_neg (by omega)]
  refine LoopW.errI c.Writes.length (fun k => (k : Int)) (nodW c) (Ψ := fun o => o = cptE c) rfl ce.symm (fun k rec hk hj g1 g2 => ⟨fun _ => ⟨iX (by omega) (by omega), iX (by omega) (by omega), iI (by omega) (by omega), q38 ⟨fun y => ?_, fun y => ?_⟩⟩, fun _ => by omega⟩) fun rec _ c0 => ⟨fun _ => by omega, fun _ => q38 ⟨fun y => ?_, fun y => ?_⟩⟩
  · have := of_decide_eq_false (Bool.eq_false_iff.2 y)
    unfold nodW at g1; rw [if_pos (by omega)] at g1; exact cr 7 (g1 (by omega)).symm (by omega)
  · have := of_decide_eq_true (Classical.not_not.1 y)
    unfold nodW at g1 g2; rw [if_neg (by omega)] at g1 g2; refine q99 (s4 _ (q51 (iX (i := (k : Int)) (n := c.Writes.length) (by omega) (by omega)))) hz' ?_; rw [e]; exact ⟨fun z => cr _ (g1 z).symm z, fun z => ⟨iI (by omega) (by omega), g2 (Classical.not_not.1 z) _ rfl⟩⟩
  · have := of_decide_eq_false (Bool.eq_false_iff.2 y)
    exact er 24 (by unfold cloE; rw [if_neg (by omega), if_pos (by omega)]) (by omega)
  have a2 := of_decide_eq_true (Classical.not_not.1 y); have hk := q834 c0.symm; refine ⟨fun z => er 6 (by unfold cloE; rw [if_neg (by omega), if_neg (by omega), if_pos (by omega)]) (by omega), fun z => ?_⟩; have hm : to.length = c.Positions.length := by omega
  have bad2 : badB c to = true → Φ (cap0, cyc0, 2) := fun hb => er 2 (by unfold cloE; rw [if_neg (by omega), if_neg (by omega), if_neg (by omega), if_pos hb]) (by omega); have wc : ∀ i : Nat, i < to.length → dW c to i = dT c to i ∨ (4611686018427387904 ≤ dW c to i ∧ dW c to i ≤ 9223372036854775807 ∧ ix to (i : Int) < ix c.Positions (i : Int)) := fun i hi => q764 (hr i hi) (hk.pos i (by omega))
  have wT : ∀ i : Nat, i < to.length → dT c to i ≤ 9223372036854775807 := fun i hi => by
    have h1 := (hr i hi).2; have h2 := hk.pos i (by omega); unfold dT; omega
  have wU : ∀ i : Nat, i < to.length → dW c to i ≤ 9223372036854775807 := fun i hi => by
    rcases wc i hi with h | h
    · rw [h]; exact wT i hi
    · exact h.2.1
  refine ⟨by omega, iL (by omega) (by omega), ?_⟩; refine LoopW.upI to.length (fun k => ((k : Int), tabL to.length fun i => if i < k then dW c to i else 0)) (fun k => ∀ j, j < k → 0 ≤ dW c to j) (pairE rfl (q836 fun i _ => if_neg (Nat.not_lt_zero i))) (fun j hj => absurd hj (Nat.not_lt_zero j)) (fun k rec hk' hI hrec => ⟨fun _ => ⟨iX (by omega) (by omega), iX (by omega) (by omega), iX (by omega) (by rw [q54]; omega), iX (by omega) (by rw [q61, q54]; omega), ?_⟩, fun q => by omega⟩) fun rec hI => ⟨fun q => by omega, fun _ => ?_⟩
  · rw [q542 _ (iX (by omega) (by rw [q54]; omega))]
    show (¬ (0 ≤ dW c to k) → _) ∧ (¬ ¬ (0 ≤ dW c to k) → _)
    refine ⟨fun q => bad2 (q507 hk' ?_), fun q => ⟨iI (by omega) (by omega), hrec (fun j hj => ?_) _ (pairE rfl ?_)⟩⟩
    · rcases wc k hk' with h | h
      · rw [h] at q; unfold dT at q; exact .inl (by omega)
      · exact .inl h.2.2
    · rcases Nat.lt_or_ge j k with h2 | h2
      · exact hI j h2
      · obtain rfl : j = k := by omega
        exact Classical.not_not.1 q
    · refine q550 hk' ?_ fun i hi hne => ?_
      · rw [if_pos (by omega)]; rfl
      · by_cases h : i < k
        · rw [if_pos h, if_pos (by omega)]
        · rw [if_neg h, if_neg (by omega)]
  have e0 : (tabL to.length fun i => if i < to.length then dW c to i else 0) = leftF (dW c to) c.Nodes to.length 0 := q203 fun i hi => by
    have := hI i hi; rw [if_pos hi]; show _ = pos0 (dW c to i - ((0 : Nat) : Int)); unfold pos0
    split <;> omega
  rw [e0]; refine LoopW.upT c.Nodes.length (fun k => ((k : Int), leftF (dW c to) c.Nodes to.length k, tabL k (partF (dW c to) c.Nodes))) rfl (fun k rec hk' hrec => ⟨fun _ => ?_, fun q => by omega⟩) fun rec => ⟨fun q => by omega, fun _ => ?_⟩
  · have hn := hk.node k (by omega)
    have ll : (leftF (dW c to) c.Nodes to.length k).length = to.length := q54 _ _; have hx := q453 (d := dW c to) (N := c.Nodes) (m := to.length) (k := k) hn.1 (by omega); obtain ⟨a, ha⟩ := Int.eq_ofNat_of_zero_le hn.1; have hu := wU a (by omega)
    have hb : 0 ≤ pos0 (dW c to (ix c.Nodes (k : Int)).toNat - (cnt c.Nodes (ix c.Nodes (k : Int)) k : Int)) ∧ pos0 (dW c to (ix c.Nodes (k : Int)).toNat - (cnt c.Nodes (ix c.Nodes (k : Int)) k : Int)) ≤ 9223372036854775807 := by
      rw [ha, Int.toNat_natCast]; unfold pos0
      split <;> omega
    refine ⟨iX (by omega) (by omega), iX (by omega) (by rw [ll]; omega), iL (by rw [q18, q54]; omega) (by omega), iX (by omega) (by rw [ll]; omega), by rw [hx]; exact iI (by omega) (by omega), iX (by omega) (by rw [ll]; omega), iI (by omega) (by omega), hrec _ (pairE rfl (pairE ?_ ?_))⟩
    · exact q763 hn.1 (by omega) (by rw [hx]; rfl)
    · rw [q623, q838 (m := to.length) _ _ hn.1 (by omega)]
  have ll : (leftF (dW c to) c.Nodes to.length c.Nodes.length).length = to.length := q54 _ _; have ne1 : ¬ ((0 : Int) ≤ -1) := by omega
  refine LoopW.upI to.length (fun k => (k : Int)) (fun k => ∀ j : Nat, j < k → ¬ 0 < ix (leftF (dW c to) c.Nodes to.length c.Nodes.length) (j : Int)) rfl (fun j hj => absurd hj (Nat.not_lt_zero j)) (fun k rec hk' hI2 hrec => ⟨fun _ => ⟨iX (by omega) (by rw [ll]; omega), fun q => ⟨fun _ => ?_, fun q2 => absurd (fun q3 => q3 (show (0 : Int) ≤ (k : Int) by omega)) q2⟩, fun q => ⟨iI (by omega) (by omega), hrec (fun j hj => ?_) _ rfl⟩⟩, fun q => absurd (show (k : Int) < ((leftF (dW c to) c.Nodes to.length c.Nodes.length).length : Int) by rw [ll]; omega) q⟩) fun rec hI2 => ⟨fun q => absurd q (by rw [ll]; omega), fun _ => ⟨fun q => absurd (Classical.not_not.1 q) ne1, fun _ => ?_⟩⟩
  · have q := of_decide_eq_true q
    have q : 0 < ix (leftF (dW c to) c.Nodes to.length c.Nodes.length) (k : Int) := q; rw [q453 (by omega) (by omega), Int.toNat_natCast] at q
    have q : 0 < dW c to k - (cnt c.Nodes (k : Int) c.Nodes.length : Int) := by
      unfold pos0 at q; split at q <;> omega
    refine bad2 (q507 hk' ?_); rcases wc k hk' with h | h
    · rw [h] at q; unfold dT at q; exact .inr (by omega)
    · exact .inl h.2.2
  · rcases Nat.lt_or_ge j k with h2 | h2
    · exact hI2 j h2
    · obtain rfl : j = k := by omega
      exact fun r => q (decide_eq_true r)
  have dd : ∀ i, i < to.length → dW c to i = dT c to i ∧ dW c to i ≤ (cnt c.Nodes (i : Int) c.Nodes.length : Int) := fun i hi => by
    have q := hI2 i hi; rw [q453 (by omega) (by omega), Int.toNat_natCast] at q
    have q : dW c to i - (cnt c.Nodes (i : Int) c.Nodes.length : Int) ≤ 0 := by
      unfold pos0 at q; split at q <;> omega
    have := q875 c.Nodes (i : Int) c.Nodes.length; rcases wc i hi with h | h
    · exact ⟨h, by omega⟩
    · omega
  have nb : badB c to = false := q405 fun i hi hb => by
    obtain ⟨d1, d2⟩ := dd i hi; have d3 := hI i hi; rw [d1] at d2 d3; unfold dT at d2 d3; unfold badI at hb; omega
  have c00 : cloE c t to = 0 := by unfold cloE; rw [if_neg (by omega), if_neg (by omega), if_neg (by omega), if_neg (by rw [nb]; simp)]
  unfold cloR at hΦ; rw [if_neg (fun q => q c00)] at hΦ; have pl : (tabL c.Nodes.length (partF (dW c to) c.Nodes)).length = c.Writes.length := by rw [q54]; omega
  have pq : ∀ j : Nat, j < c.Writes.length → ix (tabL c.Nodes.length (partF (dW c to) c.Nodes)) (j : Int) = inB c to j := fun j hj => by
    rw [q506 (by omega)]; have hn := hk.node j hj; obtain ⟨a, ha⟩ := Int.eq_ofNat_of_zero_le hn.1; unfold inB partF; rw [ha, Int.toNat_natCast, (dd a (by omega)).1]
  generalize tabL c.Nodes.length (partF (dW c to) c.Nodes) = part at pl pq; have q1 : ∀ j : Nat, j < c.Writes.length → (ix part (j : Int) = true ↔ inB c to j = true) := fun j hj => by rw [pq j hj]
  have q2 : ∀ j : Nat, j < c.Writes.length → (ix part (j : Int) = false ↔ (!inB c to j) = true) := fun j hj => by rw [pq j hj]; simp
  generalize inB c to = p at hΦ q1 q2; refine ⟨itL c p, it_ok (by omega) pl q1, ?_⟩; refine LoopW.split (itL c p) (fun pre => pre.map fun x => x.2.1) rfl (fun pre x r rec hx hrec => ⟨iL (by have := q877 hx; rw [q18, List.length_map]; omega) (by omega), hrec _ (pairE rfl (by rw [List.map_append]; rfl))⟩) fun rec => ?_; show Z96 ((itL c p).map fun x => x.2.1) _; rw [it_sel]; refine q307 (by have := sel_len (c := c) (q := p) (n := c.Writes.length); omega) (fun w hw => s4 w (q765 (Nat.le_refl _) w hw)) ?_; rw [q837 hk]; refine ⟨fun q => absurd rfl q, fun _ => ⟨iI (by omega) (by omega), (to, ()), q21 (by omega) rfl, iI (by omega) (by omega), (c.Sizes, ()), q21 (by omega) rfl, (to, ()), q21 (by omega) rfl, itL c (fun j => !p j), it_ok (by omega) pl q2, ?_⟩⟩; refine LoopW.split (itL c fun j => !p j) (fun pre => (pre.map fun x => ix c.Nodes x.1, pre.map fun x => hidW x.2.1 (latL c p x.1.toNat))) rfl (fun pre x r rec hx hrec => ?_) fun rec => ?_
  · have hlen := q877 hx
    obtain ⟨j, hj, hq, rfl⟩ := q876 hx
    have hq : p j = false := by cases h : p j with
      | false => rfl
      | true => rw [h] at hq; exact Bool.noConfusion hq
    have lt : geL j (itL c p) = latL c p j := ge_lat hq; refine ⟨iX (by show (0 : Int) ≤ (j : Int); omega) (by show (j : Int) < _; omega), iL (by rw [q18, List.length_map]; omega) (by omega), (hidW (ix c.Writes (j : Int)) (latL c p j), ()), q835 hk (by omega) pl q1 (hk.pl _ (q51 (iX (by omega) (by omega)))) (by rw [lt]), iL (by rw [q18, List.length_map]; omega) (by omega), hrec _ (pairE rfl (pairE ?_ ?_))⟩
    · rw [List.map_append]; rfl
    · rw [List.map_append]; rfl
  · have e1 : ((itL c fun j => !p j).map fun x => ix c.Nodes x.1) = outN c p c.Writes.length := by unfold itL outN; rw [List.map_map]; rfl
    have e2 : ((itL c fun j => !p j).map fun x => hidW x.2.1 (latL c p x.1.toNat)) = outW c p c.Writes.length := by unfold itL outW; rw [List.map_map]; rfl
    show Φ (⟨c.Number + 1, c.Sizes, to, (itL c fun j => !p j).map fun x => ix c.Nodes x.1, (itL c fun j => !p j).map fun x => hidW x.2.1 (latL c p x.1.toNat)⟩, ⟨c.Number, c.Number + 1, t, to, canL (effM (selW c p c.Writes.length))⟩, 0); rw [e1, e2]; exact hΦ
def szL : List Int := [6, 3]
def volD (s : q15) : Int := ((s.Volume % (2#8)).toNat : Int)
def sizD (s : q15) : Int := ix szL (volD s)
def q154 (s : q15) : Int := (s.Start.toNat : Int) % sizD s
def moreD (s : q15) : Int := (s.Count.toNat : Int) % (sizD s - q154 s)
def dataR (s : q15) : q8 := ⟨volD s, q154 s, tabL ((moreD s).toNat + 1) fun i => Sec.mk s.First (BitVec.ofInt 8 (i : Int)) (0#8) (0#8) (0#8) (0#8) (0#8) (0#8)⟩
theorem q839 (s : q15) : volD s = 0 ∨ volD s = 1 := by
  have : (s.Volume % (2#8)).toNat = s.Volume.toNat % 2 := by simp [BitVec.toNat_umod]
  unfold volD; rw [this]; omega
theorem q320 (s : q15) : 0 ≤ volD s ∧ volD s < 2 ∧ (sizD s = 6 ∨ sizD s = 3) := by
  rcases q839 s with h | h
  · exact ⟨by omega, by omega, .inl (by unfold sizD; rw [h]; rfl)⟩
  · exact ⟨by omega, by omega, .inr (by unfold sizD; rw [h]; rfl)⟩
theorem q271 (s : q15) : 0 ≤ q154 s ∧ q154 s < sizD s := by
  have := (q320 s).2.2; unfold q154; exact ⟨Int.emod_nonneg _ (by omega), Int.emod_lt_of_pos _ (by omega)⟩
theorem q454 (s : q15) : 0 ≤ moreD s ∧ moreD s < sizD s - q154 s := by
  have h1 := q271 s; unfold moreD; exact ⟨Int.emod_nonneg _ (by omega), Int.emod_lt_of_pos _ (by omega)⟩
theorem q455 (s : q15) : fitW szL (dataR s) = 0 := by
  obtain ⟨v0, v1, v2⟩ := q320 s; have h1 := q271 s; have h2 := q454 s
  have hl : ((dataR s).Data.length : Int) = moreD s + 1 := by
    show ((tabL ((moreD s).toNat + 1) _).length : Int) = _; rw [q54]; omega
  have hs : ix szL (dataR s).Volume = sizD s := rfl; have hv : (dataR s).Volume = volD s := rfl; have hst : (dataR s).Start = q154 s := rfl; unfold fitW; rw [hs, hl, hv, hst, if_neg (by show ¬ (volD s < 0 ∨ (2 : Int) ≤ volD s); omega), if_neg (by omega), if_neg (by omega)]
theorem q456 {s : q15} {Φ : q8 → Prop} (hΦ : Φ (dataR s)) : q194 s Φ := by
  obtain ⟨v0, v1, v2⟩ := q320 s; have h1 := q271 s; have h2 := q454 s; have e1 : ix szL ((s.Volume % (2#8)).toNat : Int) = sizD s := rfl; have e2 : (s.Start.toNat : Int) % sizD s = q154 s := rfl; have e3 : (s.Count.toNat : Int) % (sizD s - q154 s) = moreD s := rfl; refine ⟨(szL, ()), rfl, by decide, iX v0 (by show volD s < 2; omega), ⟨by omega, by show sizD s ≠ 0; omega⟩, by decide, ?_⟩; refine LoopW.upT ((moreD s).toNat + 1) (fun k => ((k : Int), tabL k fun i => Sec.mk s.First (BitVec.ofInt 8 (i : Int)) (0#8) (0#8) (0#8) (0#8) (0#8) (0#8))) rfl (fun k rec hk hr => ?_) fun rec => ?_
  · refine ⟨?_, ?_, fun _ => ⟨iL (by rw [q18, q54]; omega) (by omega), iI (by omega) (by omega), hr _ (pairE rfl (q623 _ _).symm)⟩, fun q => absurd (show (k : Int) ≤ moreD s by omega) q⟩
    · show inI (sizD s - q154 s); exact iI (by omega) (by omega)
    · exact ⟨by omega, by show sizD s - q154 s ≠ 0; omega⟩
  · refine ⟨?_, ?_, fun q => absurd (show (((moreD s).toNat + 1 : Nat) : Int) ≤ moreD s from q) (by omega), fun _ => hΦ⟩
    · show inI (sizD s - q154 s); exact iI (by omega) (by omega)
    · exact ⟨by omega, by show sizD s - q154 s ≠ 0; omega⟩
theorem q138 : q27 szL = 0 := by decide
theorem q626 (s : q15) : (dataR s).Data.length ≤ 6 := by
  have h1 := q271 s; have h2 := q454 s; have h3 := (q320 s).2.2; show (tabL ((moreD s).toNat + 1) _).length ≤ 6; rw [q54]; omega
theorem eff_cov {v i : Nat} {l : List q8} : (∃ d, mfind (effM l) ⟨(v : Int), (i : Int)⟩ = some d) ↔ ∃ w ∈ l, covW w v i := by
  refine q232 (P := fun l => (∃ d, mfind (effM l) ⟨(v : Int), (i : Int)⟩ = some d) ↔ ∃ w ∈ l, covW w v i) ?_ (fun l w ih => ?_) l
  · exact ⟨fun ⟨d, hd⟩ => absurd hd (by simp [effM, mfind]), fun ⟨w, hw, _⟩ => absurd hw List.not_mem_nil⟩
  · rw [q129, q319]
    by_cases hc : (v : Int) = w.Volume ∧ w.Start ≤ (i : Int) ∧ (i : Int) < w.Start + (w.Data.length : Int)
    · rw [if_pos hc]
      exact ⟨fun _ => ⟨w, by simp, hc.1.symm, hc.2⟩, fun _ => ⟨_, rfl⟩⟩
    · rw [if_neg hc, ih]
      constructor
      · rintro ⟨x, hx, h⟩; exact ⟨x, List.mem_append_left _ hx, h⟩
      · rintro ⟨x, hx, h⟩
        rcases List.mem_append.1 hx with hx | hx
        · exact ⟨x, hx, h⟩
        · rw [List.mem_singleton.1 hx] at h; exact absurd ⟨h.1.symm, h.2⟩ hc
theorem q766 {sizes : List Int} (hs : q27 sizes = 0) {l : List q8} (hf : ∀ w ∈ l, fitW sizes w = 0) {v i : Nat} : (∃ w ∈ canL (effM l), covW w v i) ↔ ∃ w ∈ l, covW w v i := by
  have C := q760 (fun t => t hs) hf; refine Iff.trans ?_ eff_cov; constructor
  · rintro ⟨w, hw, hc⟩
    unfold covW at hc; obtain ⟨j, hj⟩ := Int.eq_ofNat_of_zero_le (show 0 ≤ (i : Int) - w.Start by omega); have := C.mem w hw j (by omega); have e : (⟨w.Volume, w.Start + (j : Int)⟩ : q9) = ⟨(v : Int), (i : Int)⟩ := q97 hc.1 (by show w.Start + (j : Int) = (i : Int); omega); rw [e] at this; exact ⟨_, this⟩
  · rintro ⟨d, hd⟩
    obtain ⟨w, hw, h1, h2, h3⟩ := C.cov _ _ hd; exact ⟨w, hw, h1, h2, h3⟩
def capP (n : Nat) (p : Int) (l : List q8) : q12 := ⟨(n : Int), szL, [p], List.replicate l.length 0, l⟩
structure q176 (m : Nat) (l : List q8) : Prop where
  len : l.length ≤ m
  fit : ∀ w ∈ l, fitW szL w = 0
  data : ∀ w ∈ l, w.Data.length ≤ 6
theorem q767 {n k : Nat} (h : k < n) : ix (List.replicate n (0 : Int)) (k : Int) = 0 := by
  rw [q24 (by rw [List.length_replicate]; exact h), List.getElem_replicate]
theorem q768 (n : Nat) : ∀ k : Nat, k ≤ n → cnt (List.replicate n (0 : Int)) 0 k = k
  | 0, _ => rfl
  | k + 1, h => by rw [q452, q768 n k (by omega), q767 (by omega), if_pos rfl]
theorem q627 {least p : Int} (h0 : least ≤ 1) (h1 : 0 ≤ p) (h2 : p ≤ 1073741824) : posR least [p] = 0 := by
  unfold posR; rw [if_neg (by show ¬ ((1 : Int) < least ∨ (8 : Int) < 1); omega)]; refine q29.2 fun k hk => ?_; have hk : k < 1 := hk; obtain rfl : k = 0 := by omega
  show (if p < 0 ∨ 1073741824 < p then 2 else 0) = (0 : Int)
  rw [if_neg (by omega)]
theorem q769 {n : Nat} {p : Int} {l : List q8} {m : Nat} (h : q176 m l) (hm : m ≤ 30) (hn : n ≤ 30) (hp : 0 ≤ p ∧ p ≤ 30) : cptE (capP n p l) = 0 := by
  have hl := h.len; unfold cptE; have e1 : (capP n p l).Sizes = szL := rfl; have e2 : (capP n p l).Number = (n : Int) := rfl; have e3 : (capP n p l).Positions = [p] := rfl; have e4 : (capP n p l).Nodes = List.replicate l.length 0 := rfl; have e5 : (capP n p l).Writes = l := rfl; rw [e1, e2, e3, e4, e5, if_neg (fun t => t q138), if_neg (by omega), if_neg (fun t => t (q627 (by omega) hp.1 (by omega))), if_neg (by rw [List.length_replicate]; omega)]; refine q29.2 fun k hk => ?_; unfold nodW; rw [e1, e3, e4, e5, q767 hk, if_neg (by show ¬ ((0 : Int) < 0 ∨ (1 : Int) ≤ 0); omega)]; exact h.fit _ (q51 (iX (by omega) (by omega)))
theorem q287 {n : Nat} {p : Int} {l : List q8} {m : Nat} (h : q176 m l) (hm : m ≤ 30) : q874 (capP n p l) := by
  have hl := h.len; exact ⟨by show 2 ≤ 20; omega, by show 1 ≤ 20; omega, by show (List.replicate l.length (0 : Int)).length ≤ 60; rw [List.length_replicate]; omega, by show l.length ≤ 40; omega, fun w hw => by have := h.data w hw; omega⟩
theorem add_one {n : Nat} {p : Int} {l : List q8} {m : Nat} {w : q8} (h : q176 m l) (hm : m ≤ 30) (hn : n ≤ 30) (hp : 0 ≤ p ∧ p ≤ 30) (hw : fitW szL w = 0) : addR (capP n p l) 0 w = (capP n p (l ++ [w]), 0) := by
  have hl := h.len
  have e : addE (capP n p l) 0 w = 0 := by
    unfold addE; rw [if_neg (fun t => t (q769 h hm hn hp)), if_neg (by show ¬ ((0 : Int) < 0 ∨ (1 : Int) ≤ 0); omega), if_neg (fun t => t hw), if_neg (by show ¬ 4096 ≤ l.length; omega)]
  unfold addR; rw [if_neg (fun t => t e)]; unfold capP; rw [q18, List.replicate_succ']
def cycY (n i : Nat) (q : Int) (l : List q8) : q14 := ⟨(n : Int), (n : Int) + 1, (i : Int), [q], canL (effM l)⟩
theorem q770 {n i : Nat} {p q : Int} {l : List q8} {m : Nat} (h : q176 m l) (hm : m ≤ 30) (hn : n ≤ 30) (hi : i ≤ 30) (hp : 0 ≤ p ∧ p ≤ 30) (hq : q = p + (l.length : Int)) : cloR (capP n p l) (i : Int) [q] = (capP (n + 1) q [], cycY n i q l, 0) := by
  have hl := h.len; have c0 : ∀ k, k ≤ l.length → cnt (List.replicate l.length (0 : Int)) 0 k = k := fun k hk => q768 _ _ hk
  have hb : badB (capP n p l) [q] = false := q405 fun k hk hbad => by
    have hk : k < 1 := hk; obtain rfl : k = 0 := by omega
    unfold badI at hbad; have e1 : ix [q] ((0 : Nat) : Int) = q := rfl; have e2 : ix (capP n p l).Positions ((0 : Nat) : Int) = p := rfl
    have e3 : cnt (capP n p l).Nodes ((0 : Nat) : Int) (capP n p l).Nodes.length = l.length := by
      show cnt (List.replicate l.length (0 : Int)) 0 (List.replicate l.length (0 : Int)).length = _; rw [List.length_replicate]; exact c0 _ (Nat.le_refl _)
    rw [e1, e2, e3] at hbad; omega
  have hE : cloE (capP n p l) (i : Int) [q] = 0 := by
    unfold cloE; rw [if_neg (fun t => t (q769 h hm hn hp)), if_neg (by omega), if_neg (by show ¬ (1 ≠ 1); omega), if_neg (by rw [hb]; simp)]
  have hin : ∀ k, k < l.length → inB (capP n p l) [q] k = true := fun k hk => by
    unfold inB partF; have e1 : ix (capP n p l).Nodes (k : Int) = 0 := q767 hk; rw [e1]; have e2 : dT (capP n p l) [q] (0 : Int).toNat = q - p := rfl; have e3 : cnt (capP n p l).Nodes 0 k = k := c0 k (by omega); rw [e2, e3]; refine decide_eq_true ?_; unfold pos0; rw [if_neg (by omega)]; omega
  have f1 : (List.range l.length).filter (inB (capP n p l) [q]) = List.range l.length := List.filter_eq_self.2 fun k hk => hin k (List.mem_range.1 hk); have f2 : ((List.range l.length).filter fun j => !inB (capP n p l) [q] j) = [] := List.filter_eq_nil_iff.2 fun k hk => by rw [hin k (List.mem_range.1 hk)]; simp
  have s1 : selW (capP n p l) (inB (capP n p l) [q]) (capP n p l).Writes.length = l := by
    show ((List.range l.length).filter _).map (fun j : Nat => ix l (j : Int)) = l; rw [f1]; exact q624 l
  have s2 : outN (capP n p l) (inB (capP n p l) [q]) (capP n p l).Writes.length = [] := by
    show ((List.range l.length).filter _).map _ = _; rw [f2]; rfl
  have s3 : outW (capP n p l) (inB (capP n p l) [q]) (capP n p l).Writes.length = [] := by
    show ((List.range l.length).filter _).map _ = _; rw [f2]; rfl
  unfold cloR; rw [if_neg (fun t => t hE), s1, s2, s3]; rfl
theorem q771 {m : Nat} {l : List q8} (h : q176 m l) : secN l ≤ m * 6 := by
  have := q404 l h.data; have := h.len; have := Nat.mul_le_mul_right 6 h.len; omega
structure CycOk (k : Nat) (c : q14) : Prop where
  base : c.Base = (k : Int)
  num : c.Number = (k : Int) + 1
  chk : cycE c szL = 0
  pos : c.Positions.length ≤ 20
  len : c.Writes.length ≤ 180
  data : ∀ w ∈ c.Writes, w.Data.length ≤ 180
theorem q551 {n i : Nat} {q : Int} {l : List q8} {m : Nat} (h : q176 m l) (hm : m ≤ 30) (hn : n ≤ 30) (hi : i ≤ 30) (hq : 0 ≤ q ∧ q ≤ 60) : CycOk n (cycY n i q l) := by
  have C := q760 (fun t => t q138) h.fit; have hfit := can_fit C (q873 (fun t => t q138) h.fit); have hs := q771 h; have he := q830 l; have hsum := C.sum; refine ⟨rfl, rfl, ?_, by show 1 ≤ 20; omega, ?_, fun w hw => ?_⟩
  · unfold cycE cycY
    simp only; rw [if_neg (fun t => t q138), if_neg (by omega), if_neg (by omega), if_neg (fun t => t (q627 (by omega) hq.1 (by omega)))]; exact can_ord C hfit
  · have := can_len C
    show (canL (effM l)).length ≤ 180; omega
  · have := q761 w hw
    have e : secN (cycY n i q l).Writes = secN (canL (effM l)) := rfl; omega
section
def allW (cycles : List q14) (op : List q8) (h : Nat) : List q8 := (cycles.drop h).flatMap (·.Writes) ++ op
def CovA (cycles : List q14) (op : List q8) (h v i : Nat) : Prop := ∃ w ∈ allW cycles op h, covT w v i
theorem q321 {cycles : List q14} {op : List q8} {w : q8} {h v i : Nat} : CovA cycles (op ++ [w]) h v i ↔ CovA cycles op h v i ∨ covT w v i := by
  unfold CovA allW; rw [← List.append_assoc]; constructor
  · rintro ⟨x, hx, hc⟩
    rcases List.mem_append.1 hx with hx | hx
    · exact .inl ⟨x, hx, hc⟩
    · rw [List.mem_singleton.1 hx] at hc; exact .inr hc
  · rintro (⟨x, hx, hc⟩ | hc)
    · exact ⟨x, List.mem_append_left _ hx, hc⟩
    · exact ⟨w, List.mem_append_right _ (List.mem_singleton.2 rfl), hc⟩
theorem q288 {cycles : List q14} {op : List q8} {n i : Nat} {q : Int} {m h v k : Nat} (ho : q176 m op) (hh : h ≤ cycles.length) : CovA (cycles ++ [cycY n i q op]) [] h v k ↔ CovA cycles op h v k := by
  have hc := q766 q138 ho.fit (v := v) (i := k); unfold CovA allW; rw [List.drop_append, show h - cycles.length = 0 by omega, List.drop_zero, List.flatMap_append, List.append_nil]; have e : [cycY n i q op].flatMap (·.Writes) = canL (effM op) := by rw [List.flatMap_cons, List.flatMap_nil, List.append_nil]; rfl
  rw [e]; constructor
  · rintro ⟨x, hx, hcx⟩
    rcases List.mem_append.1 hx with hx | hx
    · exact ⟨x, List.mem_append_left _ hx, hcx⟩
    · obtain ⟨y, hy, h2⟩ := hc.1 ⟨x, hx, hcx⟩
      exact ⟨y, List.mem_append_right _ hy, h2⟩
  · rintro ⟨x, hx, hcx⟩
    rcases List.mem_append.1 hx with hx | hx
    · exact ⟨x, List.mem_append_left _ hx, hcx⟩
    · obtain ⟨y, hy, h2⟩ := hc.2 ⟨x, hx, hcx⟩
      exact ⟨y, List.mem_append_right _ hy, h2⟩
theorem q72.congr {sizes : List Int} {d : List q10} {P Q : Nat → Nat → Prop} (h : q72 sizes d P) (e : ∀ v i, P v i ↔ Q v i) : q72 sizes d Q := ⟨h.toBmsOk, fun v i hv hi => (h.bit v i hv hi).trans (e v i)⟩
def Chain : Int → List q14 → Prop
  | _, [] => True
  | a, c :: r => c.Base = a ∧ Chain c.Number r
theorem q508 {sizes : List Int} : ∀ {later : List q14} {a : Int} {d : List q10} {P : Nat → Nat → Prop}, Chain a later → (∀ c ∈ later, cycE c sizes = 0) → q72 sizes d P → (agrF sizes a d later).2 = 0 ∧ q72 sizes (agrF sizes a d later).1 (fun v i => P v i ∨ ∃ c ∈ later, ∃ w ∈ c.Writes, covT w v i)
  | [], _, d, P, _, _, h => ⟨rfl, h.congr fun v i => ⟨.inl, fun q => q.resolve_right fun ⟨c, hc, _⟩ => absurd hc List.not_mem_nil⟩⟩
  | c :: r, a, d, P, hch, hc, h => by
    have h0 := hc c List.mem_cons_self; rw [q500, if_neg (fun t => t h0), if_neg (fun t => t hch.1)]; obtain ⟨e1, e2⟩ := q508 (later := r) hch.2 (fun x hx => hc x (List.mem_cons_of_mem _ hx)) (q353 h (q446 h0)); refine ⟨e1, e2.congr fun v i => ?_⟩; constructor
    · rintro ((q | ⟨w, hw, q⟩) | ⟨x, hx, q⟩)
      · exact .inl q
      · exact .inr ⟨c, List.mem_cons_self, w, hw, q⟩
      · exact .inr ⟨x, List.mem_cons_of_mem _ hx, q⟩
    · rintro (q | ⟨x, hx, q⟩)
      · exact .inl (.inl q)
      · rcases List.mem_cons.1 hx with rfl | hx
        · exact .inl (.inr q)
        · exact .inr ⟨x, hx, q⟩
theorem q406 {cycles : List q14} {y : q14} (hc : ∀ k : Nat, k < cycles.length → (ix cycles (k : Int)).Base = (k : Int) ∧ (ix cycles (k : Int)).Number = (k : Int) + 1) (hy : y.Base = (cycles.length : Int)) : ∀ m k : Nat, k + m = cycles.length → Chain (k : Int) (cycles.drop k ++ [y])
  | 0, k, h => by
    obtain rfl : k = cycles.length := h; rw [List.drop_eq_nil_of_le (Nat.le_refl _)]; exact ⟨hy, trivial⟩
  | m + 1, k, h => by
    have hk : k < cycles.length := by omega
    rw [q734 hk]; refine ⟨(hc k hk).1, ?_⟩; rw [(hc k hk).2]; exact q406 hc hy m (k + 1) (by omega)
theorem q628 {t : q11} {site : Int} {k : Nat} {cycles : List q14} {op : List q8} {i m : Nat} {q : Int} (ht : TrkOk t) (hz : t.Sizes = szL) (hf : fndK t.Peers site < t.Peers.length) (hcom : (ix t.Peers (fndK t.Peers site : Int)).Common ≤ (k : Int)) (hk : k ≤ cycles.length) (hn : cycles.length ≤ 30) (hc : ∀ j : Nat, j < cycles.length → CycOk j (ix cycles (j : Int))) (ho : q176 m op) (hm : m ≤ 30) (hi : i ≤ 30) (hq : 0 ≤ q ∧ q ≤ 60) :
    ∃ D, q359 t site (k : Int) (cycles.drop k ++ [cycY cycles.length i q op]) = (⟨t.Sizes, put t.Peers (fndK t.Peers site : Int) ⟨site, (k : Int), D⟩⟩, 0) ∧ q72 szL D (CovA cycles op k) := by
  have hy := q551 ho hm hn hi hq; have hch := q406 (y := cycY cycles.length i q op) (fun j hj => ⟨(hc j hj).base, (hc j hj).num⟩) rfl (cycles.length - k) k (by omega)
  have hall : ∀ c ∈ cycles.drop k ++ [cycY cycles.length i q op], cycE c szL = 0 := fun c hcm => by
    rcases List.mem_append.1 hcm with h | h
    · obtain ⟨j, hj, rfl⟩ := List.getElem_of_mem (List.mem_of_mem_drop h)
      have := (hc j hj).chk; rwa [q24 hj] at this
    · rw [List.mem_singleton.1 h]; exact hy.chk
  obtain ⟨e1, e2⟩ := q508 hch hall (q113 q138); refine ⟨_, ?_, e2.congr fun v j => ?_⟩
  · rw [← hz] at e1 ⊢
    unfold q359; rw [if_neg (fun z => z (q265 ht)), if_neg (fun z => z hf), if_neg (by omega), if_neg (by omega), if_neg (fun z => z e1)]
  · have hcov := q766 q138 ho.fit (v := v) (i := j)
    unfold CovA allW; constructor
    · rintro (z | ⟨c, hcm, w, hw, hcw⟩)
      · exact z.elim
      · rcases List.mem_append.1 hcm with h | h
        · exact ⟨w, List.mem_append_left _ (List.mem_flatMap.2 ⟨c, h, hw⟩), hcw⟩
        · rw [List.mem_singleton.1 h] at hw
          obtain ⟨x, hx, h2⟩ := hcov.1 ⟨w, hw, hcw⟩; exact ⟨x, List.mem_append_right _ hx, h2⟩
    · rintro ⟨w, hw, hcw⟩
      rcases List.mem_append.1 hw with h | h
      · obtain ⟨c, hcm, hwc⟩ := List.mem_flatMap.1 h
        exact .inr ⟨c, List.mem_append_left _ hcm, w, hwc, hcw⟩
      · obtain ⟨x, hx, h2⟩ := hcov.2 ⟨w, h, hcw⟩
        exact .inr ⟨_, List.mem_append_right _ (List.mem_singleton.2 rfl), x, hx, h2⟩
structure RunI (i : Nat) (n p : Int) (t : q11) (im : List (List Sec)) (h0 h1 : Nat) (images : List (List (List Sec))) (cycles : List q14) (op : List q8) : Prop where
  i25 : i ≤ 25
  pn : 0 ≤ p ∧ n = p + (op.length : Int) ∧ n ≤ (i : Int)
  nc : cycles.length ≤ i
  ni : images.length = cycles.length + 1
  opn : q176 i op
  cyc : ∀ k : Nat, k < cycles.length → CycOk k (ix cycles (k : Int))
  hh : h0 ≤ cycles.length ∧ h1 ≤ cycles.length
  trk : TrkOk t
  tsz : t.Sizes = szL
  np : t.Peers.length = 2
  s0 : (ix t.Peers 0).Site = 1 ∧ (ix t.Peers 1).Site = 2
  c0 : (ix t.Peers 0).Common = (h0 : Int) ∧ (ix t.Peers 1).Common = (h1 : Int)
  m0 : q72 szL (ix t.Peers 0).Dirty (CovA cycles op h0)
  m1 : q72 szL (ix t.Peers 1).Dirty (CovA cycles op h1)
  isz : szs im = szL
  img : ∀ j : Nat, j ≤ cycles.length → szs (ix images (j : Int)) = szL ∧ ∀ v k : Nat, ¬ CovA cycles op j v k → sec im v k = sec (ix images (j : Int)) v k
theorem q176.mono {a b : Nat} {l : List q8} (h : q176 a l) (hab : a ≤ b) : q176 b l := ⟨by have := h.len; omega, h.fit, h.data⟩
section
variable {i : Nat} {n p : Int} {t : q11} {im : List (List Sec)} {h0 h1 : Nat} {images : List (List (List Sec))} {cycles : List q14} {op : List q8}
theorem RunI.write (h : RunI i n p t im h0 h1 images cycles op) (hi : i < 25) (s : q15) : q358 t (dataR s) = (⟨t.Sizes, t.Peers.map (markP (dataR s))⟩, 0) ∧ RunI (i + 1) (n + 1) p ⟨t.Sizes, t.Peers.map (markP (dataR s))⟩ (appL im [dataR s]) h0 h1 images cycles (op ++ [dataR s]) := by
  have hf := q455 s; have hd := q626 s; have hz := h.tsz; have hn := h.np; have hpn := h.pn; have hft : fitW t.Sizes (dataR s) = 0 := by rw [hz]; exact hf
  have e0 : ix (t.Peers.map (markP (dataR s))) 0 = markP (dataR s) (ix t.Peers 0) := q299 (k := 0) _ (by omega); have e1 : ix (t.Peers.map (markP (dataR s))) 1 = markP (dataR s) (ix t.Peers 1) := q299 (k := 1) _ (by omega); have him : ¬ q27 (szs im) ≠ 0 := by rw [h.isz]; exact fun t => t q138
  have hfi : ∀ w ∈ [dataR s], fitW (szs im) w = 0 := fun w hw => by rw [List.mem_singleton.1 hw, h.isz]; exact hf
  refine ⟨by unfold q358; rw [if_neg (fun z => z (q265 h.trk)), if_neg (fun z => z hft)], ?_⟩; refine ⟨by omega, ⟨hpn.1, by rw [q18]; omega, by omega⟩, by have := h.nc; omega, h.ni, ⟨by rw [q18]; have := h.opn.len; omega, fun w hw => ?_, fun w hw => ?_⟩, h.cyc, h.hh, q816 h.trk hft, hz, by show (t.Peers.map _).length = 2; rw [List.length_map]; exact hn, ?_, ?_, ?_, ?_, (q607 him hfi).trans h.isz, fun j hj => ⟨(h.img j hj).1, fun v k hcv => ?_⟩⟩
  · rcases List.mem_append.1 hw with hw | hw
    · exact h.opn.fit w hw
    · rw [List.mem_singleton.1 hw]; exact hf
  · rcases List.mem_append.1 hw with hw | hw
    · exact h.opn.data w hw
    · rw [List.mem_singleton.1 hw]; exact hd
  · show (ix (t.Peers.map (markP (dataR s))) 0).Site = 1 ∧ (ix (t.Peers.map (markP (dataR s))) 1).Site = 2
    rw [e0, e1]; exact h.s0
  · show (ix (t.Peers.map (markP (dataR s))) 0).Common = _ ∧ (ix (t.Peers.map (markP (dataR s))) 1).Common = _
    rw [e0, e1]; exact h.c0
  · show q72 szL (ix (t.Peers.map (markP (dataR s))) 0).Dirty _
    rw [e0]; exact (q170 h.m0 hf).congr fun v i => q321.symm
  · show q72 szL (ix (t.Peers.map (markP (dataR s))) 1).Dirty _
    rw [e1]; exact (q170 h.m1 hf).congr fun v i => q321.symm
  · have hcv2 : ¬ CovA cycles op j v k ∧ ¬ covT (dataR s) v k := ⟨fun z => hcv (q321.2 (.inl z)), fun z => hcv (q321.2 (.inr z))⟩
    rw [q813 him hfi fun w hw => by rw [List.mem_singleton.1 hw]; exact hcv2.2]; exact (h.img j hj).2 v k hcv2.1
theorem q407 {α : Type} [Dt α] {xs : List α} {x : α} {j : Nat} (h : j < xs.length) : ix (xs ++ [x]) (j : Int) = ix xs (j : Int) := by
  rw [q24 (by rw [q18]; omega), q24 h, List.getElem_append_left h]
theorem q300 {α : Type} [Dt α] {xs : List α} {x : α} : ix (xs ++ [x]) (xs.length : Int) = x := by
  rw [q24 (by rw [q18]; omega), List.getElem_append_right (Nat.le_refl _)]; simp
theorem RunI.close (h : RunI i n p t im h0 h1 images cycles op) (hi : i < 25) : RunI (i + 1) n n t im h0 h1 (images ++ [im]) (cycles ++ [cycY cycles.length i n op]) [] := by
  have hpn := h.pn; have hnc := h.nc; have hni := h.ni; have hhh := h.hh; refine ⟨by omega, ⟨by omega, by show n = n + 0; omega, by omega⟩, by rw [q18]; omega, by rw [q18, q18]; omega, ⟨Nat.zero_le _, fun w hw => absurd hw List.not_mem_nil, fun w hw => absurd hw List.not_mem_nil⟩, fun k hk => ?_, by rw [q18]; omega, h.trk, h.tsz, h.np, h.s0, h.c0, h.m0.congr fun v j => (q288 h.opn hhh.1).symm, h.m1.congr fun v j => (q288 h.opn hhh.2).symm, h.isz, fun j hj => ?_⟩
  · rw [q18] at hk
    rcases Nat.lt_or_ge k cycles.length with hlt | hge
    · rw [q407 hlt]; exact h.cyc k hlt
    · obtain rfl : k = cycles.length := by omega
      rw [q300]; exact q551 h.opn (by omega) (by omega) (by omega) ⟨by omega, by omega⟩
  · rw [q18] at hj
    rcases Nat.lt_or_ge j images.length with hlt | hge
    · rw [q407 hlt]
      exact ⟨(h.img j (by omega)).1, fun v k hcv => (h.img j (by omega)).2 v k fun z => hcv ((q288 h.opn (by omega)).2 z)⟩
    · obtain rfl : j = images.length := by omega
      rw [q300]; exact ⟨h.isz, fun v k _ => rfl⟩
theorem q457 {ps : List q13} (hn : ps.length = 2) (h : (ix ps 0).Site = 1 ∧ (ix ps 1).Site = 2) : fndK ps 1 = 0 ∧ fndK ps 2 = 1 := by
  match ps, hn with
  | [a, b], _ =>
    have ha : a.Site = 1 := h.1; have hb : b.Site = 2 := h.2; unfold fndK; constructor
    · rw [List.findIdx_cons, decide_eq_true ha]; rfl
    · rw [List.findIdx_cons, decide_eq_false (by rw [ha]; decide), List.findIdx_cons, decide_eq_true hb]; rfl
def kOf (len h : Nat) (f : Nat) : Nat := h + f % (len - h + 1)
theorem q629 {len h f : Nat} (hh : h ≤ len) : h ≤ kOf len h f ∧ kOf len h f ≤ len := by
  unfold kOf; have := Nat.mod_lt f (show 0 < len - h + 1 by omega); omega
theorem q878 {len h f : Nat} (hh : h ≤ len) : (h : Int) + ((f : Int) % (((len : Int) - (h : Int)) + 1)) = (kOf len h f : Int) := by
  unfold kOf; rw [show ((len : Int) - (h : Int)) + 1 = ((len - h + 1 : Nat) : Int) by omega, ← Int.natCast_emod]; omega
theorem RunI.agree0 (h : RunI i n p t im h0 h1 images cycles op) (hi : i < 25) (f : Nat) : ∃ D, q359 t 1 (kOf cycles.length h0 f : Int) (cycles.drop (kOf cycles.length h0 f) ++ [cycY cycles.length i n op]) = (⟨t.Sizes, put t.Peers 0 ⟨1, (kOf cycles.length h0 f : Int), D⟩⟩, 0) ∧ RunI (i + 1) n p ⟨t.Sizes, put t.Peers 0 ⟨1, (kOf cycles.length h0 f : Int), D⟩⟩ im (kOf cycles.length h0 f) h1 images cycles op := by
  have hpn := h.pn; have hnc := h.nc; obtain ⟨k1, k2⟩ := q629 (f := f) h.hh.1; obtain ⟨f0, f1⟩ := q457 h.np h.s0; have hn := h.np; generalize kOf cycles.length h0 f = k at *; have hc0 := h.c0; obtain ⟨D, e1, e2⟩ := q628 (t := t) (site := 1) (k := k) (cycles := cycles) (op := op) (i := i) (m := i) (q := n) h.trk h.tsz (by rw [f0, hn]; omega) (by rw [f0]; show (ix t.Peers 0).Common ≤ _; omega) k2 (by omega) h.cyc h.opn (by omega) (by omega) ⟨by omega, by omega⟩; rw [f0] at e1; have hp := q750 (n := 1) (number := (k : Int)) (d := D) h.trk (by rw [f0, hn]; omega) (by omega) (by omega) (by rw [h.tsz]; exact e2.toBmsOk); rw [f0] at hp; have x0 : ix (put t.Peers 0 (⟨1, (k : Int), D⟩ : q13)) 0 = ⟨1, (k : Int), D⟩ := q199 t.Peers _ (show 0 < t.Peers.length by omega) 0; have x1 : ix (put t.Peers 0 (⟨1, (k : Int), D⟩ : q13)) 1 = ix t.Peers 1 := q199 t.Peers _ (show 0 < t.Peers.length by omega) 1; refine ⟨D, e1, ⟨by omega, ⟨hpn.1, hpn.2.1, by omega⟩, by omega, h.ni, h.opn.mono (by omega), h.cyc, ⟨k2, h.hh.2⟩, hp, h.tsz, by show (put t.Peers 0 _).length = 2; rw [q61]; exact hn, ?_, ?_, ?_, ?_, h.isz, h.img⟩⟩
  · show (ix (put t.Peers 0 (⟨1, (k : Int), D⟩ : q13)) 0).Site = 1 ∧ (ix (put t.Peers 0 (⟨1, (k : Int), D⟩ : q13)) 1).Site = 2
    rw [x0, x1]; exact ⟨rfl, h.s0.2⟩
  · show (ix (put t.Peers 0 (⟨1, (k : Int), D⟩ : q13)) 0).Common = _ ∧ (ix (put t.Peers 0 (⟨1, (k : Int), D⟩ : q13)) 1).Common = _
    rw [x0, x1]; exact ⟨rfl, h.c0.2⟩
  · show q72 szL (ix (put t.Peers 0 (⟨1, (k : Int), D⟩ : q13)) 0).Dirty _
    rw [x0]; exact e2
  · show q72 szL (ix (put t.Peers 0 (⟨1, (k : Int), D⟩ : q13)) 1).Dirty _
    rw [x1]; exact h.m1
theorem RunI.agree1 (h : RunI i n p t im h0 h1 images cycles op) (hi : i < 25) (f : Nat) : ∃ D, q359 t 2 (kOf cycles.length h1 f : Int) (cycles.drop (kOf cycles.length h1 f) ++ [cycY cycles.length i n op]) = (⟨t.Sizes, put t.Peers 1 ⟨2, (kOf cycles.length h1 f : Int), D⟩⟩, 0) ∧ RunI (i + 1) n p ⟨t.Sizes, put t.Peers 1 ⟨2, (kOf cycles.length h1 f : Int), D⟩⟩ im h0 (kOf cycles.length h1 f) images cycles op := by
  have hpn := h.pn; have hnc := h.nc; obtain ⟨k1, k2⟩ := q629 (f := f) h.hh.2; obtain ⟨f0, f1⟩ := q457 h.np h.s0; have hn := h.np; generalize kOf cycles.length h1 f = k at *; have hc0 := h.c0; obtain ⟨D, e1, e2⟩ := q628 (t := t) (site := 2) (k := k) (cycles := cycles) (op := op) (i := i) (m := i) (q := n) h.trk h.tsz (by rw [f1, hn]; omega) (by rw [f1]; show (ix t.Peers 1).Common ≤ _; omega) k2 (by omega) h.cyc h.opn (by omega) (by omega) ⟨by omega, by omega⟩; rw [f1] at e1; have hp := q750 (n := 2) (number := (k : Int)) (d := D) h.trk (by rw [f1, hn]; omega) (by omega) (by omega) (by rw [h.tsz]; exact e2.toBmsOk); rw [f1] at hp; have x0 : ix (put t.Peers 1 (⟨2, (k : Int), D⟩ : q13)) 0 = ix t.Peers 0 := q199 t.Peers _ (show 1 < t.Peers.length by omega) 0; have x1 : ix (put t.Peers 1 (⟨2, (k : Int), D⟩ : q13)) 1 = ⟨2, (k : Int), D⟩ := q199 t.Peers _ (show 1 < t.Peers.length by omega) 1; refine ⟨D, e1, ⟨by omega, ⟨hpn.1, hpn.2.1, by omega⟩, by omega, h.ni, h.opn.mono (by omega), h.cyc, ⟨h.hh.1, k2⟩, hp, h.tsz, by show (put t.Peers 1 _).length = 2; rw [q61]; exact hn, ?_, ?_, ?_, ?_, h.isz, h.img⟩⟩
  · show (ix (put t.Peers 1 (⟨2, (k : Int), D⟩ : q13)) 0).Site = 1 ∧ (ix (put t.Peers 1 (⟨2, (k : Int), D⟩ : q13)) 1).Site = 2
    rw [x0, x1]; exact ⟨h.s0.1, rfl⟩
  · show (ix (put t.Peers 1 (⟨2, (k : Int), D⟩ : q13)) 0).Common = _ ∧ (ix (put t.Peers 1 (⟨2, (k : Int), D⟩ : q13)) 1).Common = _
    rw [x0, x1]; exact ⟨h.c0.1, rfl⟩
  · show q72 szL (ix (put t.Peers 1 (⟨2, (k : Int), D⟩ : q13)) 0).Dirty _
    rw [x0]; exact h.m0
  · show q72 szL (ix (put t.Peers 1 (⟨2, (k : Int), D⟩ : q13)) 1).Dirty _
    rw [x1]; exact e2
end
theorem q772 : newT szL [1, 2] 0 = (⟨szL, [newP szL 0 1, newP szL 0 2]⟩, 0) ∧ RunI 0 0 0 ⟨szL, [newP szL 0 1, newP szL 0 2]⟩ (zeroI szL) 0 0 [zeroI szL] [] [] := by
  have e : newT szL [1, 2] 0 = (⟨szL, [newP szL 0 1, newP szL 0 2]⟩, 0) := by kernel_rfl
  have hok : TrkOk ⟨szL, [newP szL 0 1, newP szL 0 2]⟩ := by
    have := new_ok (sizes := szL) (sites := [1, 2]) (common := 0) (by rw [e]); rwa [e] at this
  have hno : ∀ v i : Nat, False ↔ CovA [] [] 0 v i := fun v i => ⟨False.elim, fun ⟨w, hw, _⟩ => absurd hw List.not_mem_nil⟩
  refine ⟨e, ⟨by omega, ⟨by omega, by show (0 : Int) = 0 + 0; omega, by omega⟩, Nat.le_refl _, rfl, ⟨Nat.le_refl _, fun w hw => absurd hw List.not_mem_nil, fun w hw => absurd hw List.not_mem_nil⟩, fun k hk => absurd hk (Nat.not_lt_zero _), ⟨Nat.le_refl _, Nat.le_refl _⟩, hok, rfl, rfl, ⟨rfl, rfl⟩, ⟨rfl, rfl⟩, (q113 q138).congr hno, (q113 q138).congr hno, q150 q138, fun j hj => ?_⟩⟩; obtain rfl : j = 0 := by have : j ≤ 0 := hj; omega
  exact ⟨q150 q138, fun v k _ => rfl⟩
end
theorem kind_ne (b : BitVec 8) : (b % (2#8)).toNat = 0 ∨ (b % (2#8)).toNat = 1 := by
  have : (b % (2#8)).toNat = b.toNat % 2 := by simp [BitVec.toNat_umod]
  omega
abbrev RunS := (Int × Int × Int × List Int × List Int × List Int × List q8 × List Int × List q13 × List (List Sec) × Int × Int × List (List (List Sec)) × List q14 × List q8)
def runS (i : Nat) (n p : Int) (t : q11) (im : List (List Sec)) (h0 h1 : Nat) (images : List (List (List Sec))) (cycles : List q14) (op : List q8) : RunS :=
  (n, (i : Int), (cycles.length : Int), szL, [p], List.replicate op.length 0, op, t.Sizes, t.Peers, im, (h0 : Int), (h1 : Int), images, cycles, op)
theorem q509 {cycles : List q14} {y : q14} {k : Nat} (hn : cycles.length ≤ 30) (hc : ∀ j : Nat, j < cycles.length → CycOk j (ix cycles (j : Int))) (hy : CycOk cycles.length y) : FitC (cycles.drop k ++ [y]) := by
  have one : ∀ {j : Nat} {c : q14}, CycOk j c → c.Positions.length ≤ 100000 ∧ c.Writes.length ≤ 100000 ∧ ∀ w ∈ c.Writes, w.Data.length ≤ 1000000 := fun h => ⟨by have := h.pos; omega, by have := h.len; omega, fun w hw => by have := h.data w hw; omega⟩
  refine ⟨by rw [q18, List.length_drop]; omega, fun c hcm => ?_⟩; rcases List.mem_append.1 hcm with h | h
  · obtain ⟨j, hj, rfl⟩ := List.getElem_of_mem (List.mem_of_mem_drop h)
    have := hc j hj; rw [q24 hj] at this; exact one this
  · rw [List.mem_singleton.1 h]; exact one hy
theorem q840 {l : List q15} {Φ : q17 × Bool → Prop} {i : Nat} {n p : Int} {t : q11} {im : List (List Sec)} {h0 h1 : Nat} {images : List (List (List Sec))} {cycles : List q14} {op : List q8} {rec : RunS → Prop} (hl : l.length ≤ 25) (hlt : i < l.length) (h : RunI i n p t im h0 h1 images cycles op)
    (hrec : ∀ n p t im h0 h1 images cycles op, RunI (i + 1) n p t im h0 h1 images cycles op → rec (runS (i + 1) n p t im h0 h1 images cycles op)) : q257 l Φ (runS i n p t im h0 h1 images cycles op) rec := by
  have hx : inX (i : Int) l.length := iX (by omega) (by omega); have hpn := h.pn; have hnc := h.nc; have hni := h.ni; have hol := h.opn.len; have hh := h.hh; have hsm : ∀ w ∈ op, w.Data.length ≤ 1000000 := fun w hw => by have := h.opn.data w hw; omega
  have hcl : cloR (capP cycles.length p op) (i : Int) [n] = (capP (cycles.length + 1) n [], cycY cycles.length i n op, 0) := q770 h.opn (by omega) (by omega) (by omega) ⟨by omega, by omega⟩ hpn.2.1; have hyo : CycOk cycles.length (cycY cycles.length i n op) := q551 h.opn (by omega) (by omega) (by omega) ⟨by omega, by omega⟩
  have hin : ∀ j : Nat, j < ([n] : List Int).length → inI (ix [n] (j : Int)) := fun j hj => by
    have hj : j < 1 := hj; obtain rfl : j = 0 := by omega
    exact iI (by show -9223372036854775808 ≤ n; omega) (by show n ≤ 9223372036854775807; omega)
  refine ⟨fun _ => ⟨hx, by decide, fun _ => ⟨hx, q456 ?_⟩, fun _ => ⟨hx, by decide, fun _ => ?_, fun _ => ?_⟩⟩, fun q => absurd (show (i : Int) < (l.length : Int) by omega) q⟩
  · -- a write
    generalize ix l (i : Int) = s; obtain ⟨w1, w2⟩ := h.write (by omega) s; have hd := q626 s; refine q81 (t := t) (q59 (q265 h.trk)) (by omega) ?_; rw [w1]; refine q373 (by simp) (by show q27 (szs im) = 0; rw [h.isz]; exact q138) (fun w hw => by rw [List.mem_singleton.1 hw, h.isz]; exact q455 s) ?_; refine q505 (c := capP cycles.length p op) (by show 1 ≤ 100000; omega) (by show (List.replicate op.length (0 : Int)).length ≤ 100000; rw [List.length_replicate]; omega) (by show op.length ≤ 100000; omega) hsm (by omega) ?_; rw [add_one h.opn (by omega) (by omega) ⟨by omega, by omega⟩ (q455 s)]; refine ⟨fun q => absurd rfl q, fun _ => ⟨fun q => absurd rfl q, fun _ => ?_⟩⟩; show q254 n (i : Int) t.Sizes t.Peers im (h0 : Int) (h1 : Int) images cycles op rec (dataR s) _ _ (capP cycles.length p (op ++ [dataR s]), 0) Φ (decide ((0 : Int) ≠ 0)); rw [show decide ((0 : Int) ≠ 0) = false from rfl]; exact fF ⟨iL (by rw [q18]; omega) (by omega), iI (by omega) (by omega), iI (by omega) (by omega), hrec _ _ _ _ _ _ _ _ _ w2⟩
  · -- the end of a cycle
    refine q143 (c := capP cycles.length p op) (q287 h.opn (by omega)) (by show 1 ≤ 20; omega) hin ?_; rw [hcl]; have e := hrec _ _ _ _ _ _ _ _ _ (h.close (by omega)); unfold runS at e; rw [q18] at e; exact ⟨fun q => absurd rfl q, fun _ => ⟨iL (by rw [q18]; omega) (by omega), iL (by rw [q18]; omega) (by omega), iI (by omega) (by omega), e⟩⟩
  · -- a peer applies
    refine ⟨hx, by decide, ?_⟩; rcases kind_ne (ix l (i : Int)).Start with hk | hk
    · refine ⟨⟨by omega, by omega⟩, fun _ => ⟨⟨by omega, by omega⟩, hx, ⟨by omega, by omega⟩, fun _ => ?_, fun q => absurd q (by omega), trivial⟩, fun q => absurd q (by omega), trivial⟩
      have hJ : ∀ (v : q11 × Int × Unit) (b : Bool), b = false → rec (n, (i : Int) + 1, (cycles.length : Int), szL, [p], List.replicate op.length 0, op, v.1.Sizes, v.1.Peers, im, (h0 : Int) + (((ix l (i : Int)).First.toNat : Int) % (((cycles.length : Int) - (h0 : Int)) + 1)), (h1 : Int), images, cycles, op) → q255 l n (i : Int) (cycles.length : Int) szL [p] (List.replicate op.length 0) op t.Sizes t.Peers im (h0 : Int) (h1 : Int) images cycles op rec v Φ b := fun v b hb hr => by
        rw [hb]; exact fF ⟨⟨by omega, by omega⟩, fun _ => ⟨⟨by omega, by omega⟩, iI (by omega) (by omega), hr⟩, fun q => absurd q (by omega), trivial⟩
      generalize (ix l (i : Int)).First.toNat = f at *; obtain ⟨D, a1, a2⟩ := h.agree0 (by omega) f; obtain ⟨k1, k2⟩ := q629 (f := f) hh.1; have hkq := q878 (f := f) hh.1; rw [hkq] at hJ ⊢; generalize kOf cycles.length h0 f = k at *; have hsub : sub cycles (k : Int) (cycles.length : Int) = cycles.drop k := q613 k2; rw [hsub, List.nil_append]; refine ⟨⟨by omega, by omega⟩, iI (by omega) (by omega), iI (by omega) (by omega), ⟨by omega, by omega⟩, iI (by omega) (by omega), iS (by omega) (by omega) (by omega), iL (by rw [List.length_drop]; omega) (by omega), ?_⟩; refine q143 (c := capP cycles.length p op) (q287 h.opn (by omega)) (by show 1 ≤ 20; omega) hin ?_; rw [hcl]; refine ⟨iI (by omega) (by omega), iL (by rw [q18, List.length_drop]; omega) (by omega), (⟨t.Sizes, put t.Peers 0 ⟨1, (k : Int), D⟩⟩, 0, ()), q115 (t := t) (q59 (q265 h.trk)) (q509 (by omega) h.cyc hyo) ?_, ?_⟩
      · rw [show ((((ix l (i : Int)).Start) % (2#8)).toNat : Int) + 1 = 1 by omega]
        show (_, _, ()) = _; rw [a1]
      · exact ⟨fun q => absurd rfl q, fun _ => hJ _ _ rfl (hrec _ _ _ _ _ _ _ _ _ a2)⟩
    · refine ⟨⟨by omega, by omega⟩, fun q => absurd q (by omega), fun _ => ⟨⟨by omega, by omega⟩, hx, ⟨by omega, by omega⟩, fun q => absurd q (by omega), fun _ => ?_, trivial⟩, trivial⟩
      have hJ : ∀ (v : q11 × Int × Unit) (b : Bool), b = false → rec (n, (i : Int) + 1, (cycles.length : Int), szL, [p], List.replicate op.length 0, op, v.1.Sizes, v.1.Peers, im, (h0 : Int), (h1 : Int) + (((ix l (i : Int)).First.toNat : Int) % (((cycles.length : Int) - (h1 : Int)) + 1)), images, cycles, op) → q256 l n (i : Int) (cycles.length : Int) szL [p] (List.replicate op.length 0) op t.Sizes t.Peers im (h0 : Int) (h1 : Int) images cycles op rec v Φ b := fun v b hb hr => by
        rw [hb]; exact fF ⟨⟨by omega, by omega⟩, fun q => absurd q (by omega), fun _ => ⟨⟨by omega, by omega⟩, iI (by omega) (by omega), hr⟩, trivial⟩
      generalize (ix l (i : Int)).First.toNat = f at *; obtain ⟨D, a1, a2⟩ := h.agree1 (by omega) f; obtain ⟨k1, k2⟩ := q629 (f := f) hh.2; have hkq := q878 (f := f) hh.2; rw [hkq] at hJ ⊢; generalize kOf cycles.length h1 f = k at *; have hsub : sub cycles (k : Int) (cycles.length : Int) = cycles.drop k := q613 k2; rw [hsub, List.nil_append]; refine ⟨⟨by omega, by omega⟩, iI (by omega) (by omega), iI (by omega) (by omega), ⟨by omega, by omega⟩, iI (by omega) (by omega), iS (by omega) (by omega) (by omega), iL (by rw [List.length_drop]; omega) (by omega), ?_⟩; refine q143 (c := capP cycles.length p op) (q287 h.opn (by omega)) (by show 1 ≤ 20; omega) hin ?_; rw [hcl]; refine ⟨iI (by omega) (by omega), iL (by rw [q18, List.length_drop]; omega) (by omega), (⟨t.Sizes, put t.Peers 1 ⟨2, (k : Int), D⟩⟩, 0, ()), q115 (t := t) (q59 (q265 h.trk)) (q509 (by omega) h.cyc hyo) ?_, ?_⟩
      · rw [show ((((ix l (i : Int)).Start) % (2#8)).toNat : Int) + 1 = 2 by omega]
        show (_, _, ()) = _; rw [a1]
      · exact ⟨fun q => absurd rfl q, fun _ => hJ _ _ rfl (hrec _ _ _ _ _ _ _ _ _ a2)⟩
theorem q458 {l : List q15} (hl : l.length ≤ 25) {Φ : q17 × Bool → Prop} (hΦ : ∀ n p t im h0 h1 images cycles op, RunI l.length n p t im h0 h1 images cycles op → Φ (⟨t, im, images, cycles, op, ⟨(h0 : Int), (h1 : Int)⟩⟩, true)) : q136 l Φ := by
  obtain ⟨r1, r2⟩ := q772; have r1 : newT [6, 3] [1, 2] 0 = (⟨szL, [newP szL 0 1, newP szL 0 2]⟩, 0) := r1; unfold q136 q44; refine q141 ?_; rw [r1]; refine q46 (fun _ => ?_) fun q => absurd q138 q; refine ⟨fun q => absurd rfl q, fun _ => ?_⟩; show q258 l (⟨szL, [newP szL 0 1, newP szL 0 2]⟩, 0) (zeroI szL, 0) Φ (decide ((0 : Int) ≠ 0)); rw [show decide ((0 : Int) ≠ 0) = false from rfl]; refine fF ?_; unfold q44; refine q451 ?_; rw [show openR [6, 3] 1 0 = (capP 0 0 [], 0) by kernel_rfl]; refine ⟨fun q => absurd rfl q, fun _ => ?_⟩; refine LoopW.of_inv (fun s => ∃ (i : Nat) (n p : Int) (t : q11) (im : List (List Sec)) (h0 h1 : Nat) (images : List (List (List Sec))) (cycles : List q14) (op : List q8), s = runS i n p t im h0 h1 images cycles op ∧ i ≤ l.length ∧ RunI i n p t im h0 h1 images cycles op) (fun s => l.length - s.2.1.toNat) ?_ ⟨0, 0, 0, _, _, 0, 0, _, _, _, rfl, Nat.zero_le _, r2⟩
  rintro _ rec ⟨i, n, p, t, im, h0, h1, images, cycles, op, rfl, hi, h⟩ hrec
  rcases Nat.lt_or_ge i l.length with hlt | hge
  · refine q840 hl hlt h fun n' p' t' im' h0' h1' images' cycles' op' h' => hrec _ ⟨i + 1, n', p', t', im', h0', h1', images', cycles', op', rfl, hlt, h'⟩ ?_
    show l.length - ((i : Int) + 1).toNat < l.length - ((i : Int)).toNat; omega
  · obtain rfl : i = l.length := by omega
    exact ⟨fun q => absurd (show (l.length : Int) < (l.length : Int) from q) (by omega), fun _ => hΦ _ _ _ _ _ _ _ _ _ h⟩
section
theorem q459 {b : q10} {k : Nat} {Φ : Bool → Prop} (hc : chkB b = 0) (hk : (k : Int) < b.Size) (hΦ : Φ (bitN b.Words k)) : q195 b (k : Int) Φ := by
  have hw := q211 (b := b) (by simpa using hc); refine q52 ⟨fun _ => ⟨fun _ => ⟨fun _ => ⟨⟨by omega, iI (by omega) (by omega), by omega⟩, iX (by omega) (by omega), ⟨by omega, by omega⟩, by omega, ?_⟩, fun q => absurd hk q⟩, fun q => absurd (show (0 : Int) ≤ (k : Int) by omega) q⟩, fun q => absurd hc q⟩
  have e : decide (((ix b.Words ((k : Int) / 64)) >>> (((k : Int) % 64) : Int).toNat &&& (1#64)) = (1#64)) = bitN b.Words k := by
    rw [Bool.eq_iff_iff, decide_eq_true_iff]; exact q775 b.Words k
  rw [e]; exact hΦ
theorem q879 {v : Nat} (hv : v < 2) : ix szL (v : Int) = 6 ∨ ix szL (v : Int) = 3 := by
  match v, hv with
  | 0, _ => exact .inl rfl
  | 1, _ => exact .inr rfl
section
variable {i : Nat} {n p : Int} {t : q11} {im : List (List Sec)} {h0 h1 : Nat} {images : List (List (List Sec))} {cycles : List q14} {op : List q8}
theorem RunI.dirty0 (h : RunI i n p t im h0 h1 images cycles op) : q66 t 1 = ((ix t.Peers 0).Dirty, (h0 : Int), 0) := by
  obtain ⟨f0, _⟩ := q457 h.np h.s0; have hn := h.np; unfold q66; rw [if_neg (fun z => z (q265 h.trk)), if_pos (by rw [f0]; omega), f0, ← h.c0.1]; rfl
theorem RunI.dirty1 (h : RunI i n p t im h0 h1 images cycles op) : q66 t 2 = ((ix t.Peers 1).Dirty, (h1 : Int), 0) := by
  obtain ⟨_, f1⟩ := q457 h.np h.s0; have hn := h.np; unfold q66; rw [if_neg (fun z => z (q265 h.trk)), if_pos (by rw [f1]; omega), f1, ← h.c0.2]; rfl
theorem all_fit (h : RunI i n p t im h0 h1 images cycles op) {a : Nat} : ∀ w ∈ allW cycles op a, 0 ≤ w.Start ∧ w.Start + (w.Data.length : Int) ≤ 6 := fun w hw => by
  have hf : fitW szL w = 0 := by
    rcases List.mem_append.1 hw with hw | hw
    · obtain ⟨c, hc, hwc⟩ := List.mem_flatMap.1 hw
      obtain ⟨j, hj, rfl⟩ := List.getElem_of_mem (List.mem_of_mem_drop hc); have := (h.cyc j hj).chk; rw [q24 hj] at this; exact q446 this w hwc
    · exact h.opn.fit w hw
  obtain ⟨v, hv, hvl, f0, f1, f2⟩ := q212 hf; have := q879 (v := v) hvl; omega
theorem q460 (h : RunI i n p t im h0 h1 images cycles op) (a j : Nat) : (((cycles.drop a).take j).flatMap (·.Writes)).length ≤ 5400 := by
  have hnc := h.nc; have h25 := h.i25
  have key : ∀ l : List q14, (∀ c ∈ l, c.Writes.length ≤ 180) → (l.flatMap (·.Writes)).length ≤ 180 * l.length := by
    intro l
    induction l with
    | nil => intro _; exact Nat.zero_le _
    | cons c r ih =>
      intro hl; rw [List.flatMap_cons, List.length_append, List.length_cons, Nat.mul_succ]; have := hl c List.mem_cons_self; have := ih fun x hx => hl x (List.mem_cons_of_mem _ hx); omega
  have := key ((cycles.drop a).take j) fun c hc => by
    obtain ⟨m, hm, rfl⟩ := List.getElem_of_mem (List.mem_of_mem_drop (List.mem_of_mem_take hc)); have := (h.cyc m hm).len; rwa [q24 hm] at this
  rw [List.length_take, List.length_drop] at this; have : 180 * min j (cycles.length - a) ≤ 180 * 25 := Nat.mul_le_mul_left 180 (by omega); omega
instance (w : q8) (v k : Nat) : Decidable (covT w v k) := by unfold covT; infer_instance
def covB (v k : Nat) (w : q8) : Bool := decide (covT w v k)
theorem any_cov {cycles : List q14} {op : List q8} {a v k : Nat} : (allW cycles op a).any (covB v k) = true ↔ CovA cycles op a v k := by
  rw [List.any_eq_true]; exact ⟨fun ⟨w, hw, hc⟩ => ⟨w, hw, of_decide_eq_true hc⟩, fun ⟨w, hw, hc⟩ => ⟨w, hw, decide_eq_true hc⟩⟩
theorem q841 {l : List q8} {q : q8 → Bool} {k : Nat} (h : k < l.length) : (l.take (k + 1)).any q = ((l.take k).any q || q (ix l (k : Int))) := by
  rw [q69 h, List.any_append]; simp
theorem q842 (h : RunI i n p t im h0 h1 images cycles op) {a : Nat} {d : List q10} (hm : q72 szL d (CovA cycles op a)) {x : Int} {rec1 : Int → Prop} {Φ : Bool → Prop} (hx : inI (x + 1)) (hr : rec1 (x + 1)) : LoopW (Z111 (⟨t, im, images, cycles, op, ⟨(h0 : Int), (h1 : Int)⟩⟩, true) x rec1 (d, (a : Int), 0) ((cycles.drop a).flatMap (·.Writes)) Φ) 0 := by
  have hol := h.opn.len; have h25 := h.i25; have hfl := q460 h a cycles.length; rw [List.take_of_length_le (by rw [List.length_drop]; omega)] at hfl; have hal : (allW cycles op a).length ≤ 5430 := by unfold allW; rw [List.length_append]; omega
  refine LoopW.upT 2 (fun v => (v : Int)) rfl (fun v rec2 hv hr2 => ⟨fun _ => ?_, fun q => absurd (show (v : Int) < 2 by omega) q⟩) fun rec2 => ⟨fun q => absurd (show ((2 : Nat) : Int) < 2 from q) (by omega), fun _ => ⟨hx, hr⟩⟩
  have hz := q879 hv; have hdl : d.length = 2 := hm.len; refine LoopW.upT (ix szL (v : Int)).toNat (fun k => (k : Int)) rfl (fun k rec3 hk hr3 => ?_) fun rec3 => ?_
  · have hc := hm.chk v hv
    have hkz : (k : Int) < ix szL (v : Int) := by omega
    refine ⟨iX (by omega) (by show (v : Int) < 2; omega), fun _ => ?_, fun q => absurd hkz q⟩; refine LoopW.upT (allW cycles op a).length (fun j => (((allW cycles op a).take j).any (covB v k), (j : Int))) rfl (fun j rec4 hj hr4 => ?_) fun rec4 => ?_
    · have hin : inX (j : Int) (allW cycles op a).length := iX (by omega) (by omega)
      obtain ⟨b1, b2⟩ := all_fit h (a := a) _ (q51 hin); have hs := q841 (q := covB v k) hj; generalize hw : ix (allW cycles op a) (j : Int) = w at *; have hw' : ix ((cycles.drop a).flatMap (·.Writes) ++ op) (j : Int) = w := hw; refine ⟨fun _ => ⟨fun z => ?_, fun z => ?_⟩, fun q => absurd (show (j : Int) < ((allW cycles op a).length : Int) by omega) q⟩
      · rw [z, Bool.true_or] at hs
        exact ⟨iI (by omega) (by omega), hr4 _ (by rw [hs]; rfl)⟩
      · rw [Bool.eq_false_iff.2 z, Bool.false_or] at hs
        refine ⟨hin, ?_⟩; show (((ix ((cycles.drop a).flatMap (·.Writes) ++ op) (j : Int)).Volume) = (v : Int) → _) ∧ _; rw [hw']; refine ⟨fun z1 => ⟨hin, ?_⟩, fun z1 => ⟨iI (by omega) (by omega), hr4 _ ?_⟩⟩
        · refine ⟨fun z2 => ⟨hin, hin, iI (by omega) (by omega), iI (by omega) (by omega), hr4 _ ?_⟩, fun z2 => ⟨iI (by omega) (by omega), hr4 _ ?_⟩⟩
          · rw [hs]
            refine Prod.ext ?_ rfl; show decide _ = covB v k w; unfold covB; rw [Bool.eq_iff_iff, decide_eq_true_iff, decide_eq_true_iff]; exact ⟨fun z3 => ⟨z1, z2, z3⟩, fun z3 => z3.2.2⟩
          · rw [hs]
            refine Prod.ext ?_ rfl; show false = covB v k w; exact (decide_eq_false fun z3 => z2 z3.2.1).symm
        · rw [hs]
          refine Prod.ext ?_ rfl; show false = covB v k w; exact (decide_eq_false fun z3 => z1 z3.1).symm
    · have hin : inX (v : Int) d.length := iX (by omega) (by omega)
      refine ⟨fun q => absurd (show ((allW cycles op a).length : Int) < ((allW cycles op a).length : Int) from q) (by omega), fun _ => ⟨hin, q459 hc.1 (by rw [hc.2]; exact hkz) ?_⟩⟩
      have e : bitN (ix d (v : Int)).Words k = ((allW cycles op a).take (allW cycles op a).length).any (covB v k) := by
        rw [q32, Bool.eq_iff_iff, any_cov]; exact hm.bit v k hv hkz
      exact ⟨fun q => absurd e q, fun _ => ⟨iI (by omega) (by omega), hr3 _ rfl⟩⟩
  · exact ⟨iX (by omega) (by show (v : Int) < 2; omega), fun q => absurd (show (((ix szL (v : Int)).toNat : Nat) : Int) < ix szL (v : Int) from q) (by omega), fun _ => ⟨iI (by omega) (by omega), hr2 _ rfl⟩⟩
theorem q630 (h : RunI i n p t im h0 h1 images cycles op) {a : Nat} (ha : a ≤ cycles.length) {d : List q10} (hm : q72 szL d (CovA cycles op a)) {x : Int} {rec1 : Int → Prop} {Φ : Bool → Prop} (hx : inI (x + 1)) (hr : rec1 (x + 1)) : LoopW (Z112 (⟨t, im, images, cycles, op, ⟨(h0 : Int), (h1 : Int)⟩⟩, true) x rec1 (d, (a : Int), 0) Φ) ((a : Int), ([] : List q8)) := by
  have hnc := h.nc; have h25 := h.i25; have hol := h.opn.len; refine LoopW.upT (cycles.length - a) (fun j => (((a + j : Nat) : Int), ((cycles.drop a).take j).flatMap (·.Writes))) rfl (fun j rec2 hj hr2 => ⟨fun _ => ?_, fun q => absurd (show ((a + j : Nat) : Int) < (cycles.length : Int) by omega) q⟩) fun rec2 => ⟨fun q => absurd (show ((a + (cycles.length - a) : Nat) : Int) < (cycles.length : Int) from q) (by omega), fun _ => ?_⟩
  · have hin : inX ((a + j : Nat) : Int) cycles.length := iX (by omega) (by omega)
    have h1 := q460 h a j; have h2 := (h.cyc (a + j) (by omega)).len; refine ⟨hin, by show lenOk (((cycles.drop a).take j).flatMap (·.Writes) ++ (ix cycles ((a + j : Nat) : Int)).Writes).length 40; exact iL (by rw [List.length_append]; omega) (by omega), iI (by omega) (by omega), hr2 _ (Prod.ext (by show ((a + j : Nat) : Int) + 1 = ((a + (j + 1) : Nat) : Int); omega) ?_)⟩
    have hd : (cycles.drop a).take (j + 1) = (cycles.drop a).take j ++ [ix cycles ((a + j : Nat) : Int)] := by
      have hj' : j < (cycles.drop a).length := by rw [List.length_drop]; omega
      rw [q69 hj', q24 hj', List.getElem_drop, q24 (show a + j < cycles.length by omega)]
    show _ = ((cycles.drop a).take (j + 1)).flatMap (·.Writes); rw [hd, List.flatMap_append, List.flatMap_cons, List.flatMap_nil, List.append_nil]
  · have hfl := q460 h a (cycles.length - a)
    have e : (cycles.drop a).take (cycles.length - a) = cycles.drop a := List.take_of_length_le (by rw [List.length_drop]; omega); rw [e] at hfl ⊢; exact ⟨by show lenOk ((cycles.drop a).flatMap (·.Writes) ++ op).length 40; exact iL (by rw [List.length_append]; omega) (by omega), q842 h hm hx hr⟩
end
theorem q308 (l : List q15) (_ : Rg.rg l) : Z114 l fun y => y = true := by
  refine ⟨fun _ => q222 rfl, fun hl => q458 (by omega) fun n p t im h0 h1 images cycles op h => tt ?_⟩; have hl0 : (ix t.Peers 0).Dirty.length = 2 := h.m0.len; have hl1 : (ix t.Peers 1).Dirty.length = 2 := h.m1.len; refine LoopW.upT 2 (fun q => (q : Int)) rfl (fun q rec hq hr => ?_) fun rec => ⟨fun z => absurd (show ((2 : Nat) : Int) < 2 from z) (by omega), fun _ => q222 rfl⟩
  match q, hq with
  | 0, _ =>
    refine ⟨fun _ => ⟨iI (by omega) (by omega), q80 (t := t) (n := 1) (q59 (q265 h.trk)) ?_⟩, fun z => absurd (show ((0 : Nat) : Int) < 2 by omega) z⟩; rw [h.dirty0]; exact ⟨fun z => absurd rfl z, fun _ => ⟨fun z => absurd (show ((ix t.Peers 0).Dirty.length : Int) = 2 by omega) z, fun _ => q630 h h.hh.1 h.m0 (iI (by omega) (by omega)) (hr _ rfl)⟩⟩
  | 1, _ =>
    refine ⟨fun _ => ⟨iI (by omega) (by omega), q80 (t := t) (n := 2) (q59 (q265 h.trk)) ?_⟩, fun z => absurd (show ((1 : Nat) : Int) < 2 by omega) z⟩; rw [h.dirty1]; exact ⟨fun z => absurd rfl z, fun _ => ⟨fun z => absurd (show ((ix t.Peers 1).Dirty.length : Int) = 2 by omega) z, fun _ => q630 h h.hh.2 h.m1 (iI (by omega) (by omega)) (hr _ rfl)⟩⟩
end
end Go.Proofs.YtgojhiknicmopaaGreatDoor
namespace Go.Proofs.YtgojhiknicmopaaGreatDoor
open Go.RowKit Go.ChangeShapes Go.WideShapes Go.ChangeAt
set_option maxRecDepth 100000 in
theorem q234 (os : Os) (started : os.Started) (H : Type) (enc : TypeId × Value → H) :
    ReturnsInHanded {} Tryz.checked os 10 .any (fun w args => (Rows.trackerExactSpec.pre enc Tryz.prog Tryz.f10 [] false w args ∧ laidMetH Tryz.prog [("math/bits.deBruijn64tab", Rows.laid_math_bits_deBruijn64tab)] w) ∧ sizedMet enc Tryz.prog Tryz.f10 (OpenSpec.ofChange Rows.trackerExactSpec) false w args)
      (Rows.trackerExactSpec.post enc Tryz.prog Tryz.f10 false true false false) := by
  refine returnsInHanded_of_change_and (C := Tryz.checked) (X := fun w _ => laidMetH Tryz.prog [("math/bits.deBruijn64tab", Rows.laid_math_bits_deBruijn64tab)] w) (fun _ _ _ hh h => h.of_heap hh) Tryz.own started (by kernel_rfl) Tryz.func10
    (ChangeSpec.witness_shaped (enc := enc) (C := Tryz.checked) (os := os) (X := fun w _ => laidMetH Tryz.prog [("math/bits.deBruijn64tab", Rows.laid_math_bits_deBruijn64tab)] w) false (World.doorLaid Tryz.prog 14 os) #[.slice none 0 0] 8 rfl (World.shaped_of_RefB (by kernel_rfl) (by kernel_rfl)) (by kernel_rfl) (by kernel_rfl) (by kernel_rfl) (Tryz.doorMet os _)) ?_
  intro W base args ds gs before hval0 hW _ _ hL _; have hval : ∀ (j : Nat) t v, Tryz.f10.params[j]? = some t → args[j]? = some v → Value.okWide Tryz.prog W .any base t v := hval0; have hW' := hW; obtain ⟨p, q, hA0, hV, hpq, _, _⟩ := hW; have hA : DataW.TrodAll enc Tryz.prog W 0 (fun _ => true) true Tryz.f10.params.toList args.toList ds p := hA0; rw [Tryz.params10] at hA hval; obtain ⟨v0, d0, rfl, rfl, h0⟩ := trodAll_one hA; obtain ⟨rfl, rfl⟩ := trodVars_none hV; have hT := q802 hL; obtain ⟨Az0, nz0, cz0, sz0, x0, rfl, hz0, hg0⟩ := q787 Tryz.underlying71 rd71 (hval 0 71 v0 rfl rfl) h0; refine Calls.mono ((RetP.toV (y := true) (F := fun z => .bool z) (RetP.mono (ok10 (x0, ()) (fun y => y.1 = true) (q308 x0 hg0) (HW W) [.slice Az0 nz0 cz0] hT ⟨_, [.slice Az0 nz0 cz0], _, rfl, by rw [pkw71], (show Dt.rd (α := List q15) (HW W) _ _ from ⟨Az0, nz0, cz0, sz0, rfl, hz0⟩), rfl⟩) fun _ _ _ _ ⟨y, hy, hr⟩ => lawRes y hy hr)) W fun b o e => e) ?_
  rintro e W' ⟨v, _, rfl, _, _, _, hb, rfl⟩
  exact ⟨_, rfl, q774 Tryz.laidOut Tryz.underlying4 rfl (by kernel_rfl) hW' rfl rfl hb⟩
theorem q272 : Rows.TrackerExactSaid :=
  OpenClaim.holds_of_wide 10 Tryz.f10 rfl rfl rfl rfl rfl rfl rfl ⟨rfl, rfl, rfl, rfl, rfl⟩ rfl rfl rfl rfl rfl (by kernel_rfl) Tryz.func10 (by kernel_rfl)
    (of_decide_eq_true (by kernel_rfl)) (by unfold Func.isWrapper; first | (rw [if_pos (by decide +kernel)]; kernel_rfl) | (rw [if_neg (by decide +kernel)]; exact ⟨rfl, rfl⟩))
    (fun os started H enc _ => q234 os started H enc)
theorem trackerExact_card : Rows.TrackerExactCardSaid :=
  Claim7.holds_tied_plain_at .later [] [.data] true (true, "3dc1ef937cb98039a352d753c213c597d4506c9529a7ef9e3e171f873310ddfa") true
    q272 (fun _ h => by cases h) (by kernel_rfl) (fun _ h => by cases h) trackerExact_row_tie rfl ⟨rfl, rfl⟩ (by kernel_rfl) rfl
    (fun f fn hf hfn => by
      obtain rfl : f = 10 := Option.some.inj ((show Tryz.prog.funcNamed "standby/standbylaw43.TrackerExact" = some 10 by kernel_rfl).symm.trans hf) |>.symm
      obtain rfl : fn = Tryz.f10 := (Option.some.inj (Tryz.func10.symm.trans hfn)).symm
      exact ⟨by kernel_rfl, fun j t ht => by
        rw [Tryz.params10] at ht
        have hm : t ∈ [71] := by
          have := Array.mem_of_getElem? ht; simpa using this
        have hall : ([71].all fun u => !Tryz.prog.wantsStandIn u) = true := by kernel_rfl
        exact (show Tryz.prog.wantsStandIn t = false by simpa using List.all_eq_true.1 hall t hm)⟩)
    (by kernel_rfl)
end Go.Proofs.YtgojhiknicmopaaGreatDoor
