/- Proved: the tied card of the statement ConsistencyFinds: for every argument that can be read the law returns true and leaves its arguments as they were. Conditions: the row's own alone. -/
import Derived.Lib.TrailingZeros
import Derived.Test.YtjjodmgmidbamaaGreatM6
namespace Go.Proofs.YtjjodmgmidbamaaGreat
open Go.RowKit
theorem find_dif {h : api_History} {im : List (List Sec)} {Φ : List Int × Bool × Int → Prop} (hz : histE h = 0) (hi : imgE im = 0) (hs : szs im = h.Sizes)
    (kD : ∀ v k : Nat, v < im.length → k < szN im v → difV h im = (v : Int) → difK h im = (k : Int) → sec (ximH h im) v k ≠ sec im v k → consistency_Find_J9 (lowH h im, 0) Φ (true, (v : Int), (k : Int), [sec (ximH h im) v k]))
    (kN : difV h im = -1 → consistency_Find_J9 (lowH h im, 0) Φ (false, 0, 0, [])) : LoopW (consistency_Find_L10 im false 0 0 [] (lowH h im, 0) (ximH h im, 0) Φ) 0 := by
  have ⟨el, es, en, sv0⟩ := xim_fact hz hi hs
  refine nestN (inn := fun v rec => consistency_Find_L11 im false 0 0 [] (lowH h im, 0) (ximH h im, 0) (v : Int) rec Φ) im.length (szN im) (difB (ximH h im) im) (fun v rec hv hl => ⟨fun _ => ⟨iX (by omega) (by show (v : Int) < ((ximH h im).length : Int); omega), hl⟩, fun r => absurd (show (v : Int) < ((ximH h im).length : Int) by omega) r⟩) ?_ ?_ ?_
  · intro v k rec rec' hv hk hp hq hr
    have e1 := en v hv
    have sv := sv0 v hv
    have hk' : k < (ix im (v : Int)).length := hk
    refine ⟨fun _ => ⟨iX (by omega) (by show (k : Int) < ((ix (ximH h im) (v : Int)).length : Int); omega), iX (by omega) (by omega), iX (by omega) (by omega), fun q => ?_, fun q => ⟨fun r => absurd (fun t => Bool.noConfusion t) r, fun _ => ⟨iI (by omega) (by omega), hr (decide_eq_false fun t => q t)⟩⟩⟩, fun r => absurd (show (k : Int) < ((ix (ximH h im) (v : Int)).length : Int) by omega) r⟩
    have hh := fst_hit hv hk hp hq (decide_eq_true q)
    exact kD v k hv hk hh.1 hh.2 q
  · intro v rec rec' hv hr
    have e1 := en v hv
    have sv := sv0 v hv
    exact ⟨fun r => absurd r (by show ¬ ((szN im v : Int) < ((ix (ximH h im) (v : Int)).length : Int)); omega), fun _ => ⟨iI (by omega) (by omega), hr⟩⟩
  · intro rec hp
    have nl : ¬ ((im.length : Int) < ((ximH h im).length : Int)) := by omega
    have nd : difV h im = -1 := fst_none hp
    exact ⟨fun r => absurd r nl, fun _ => kN nd⟩
theorem find_ned {h : api_History} {im : List (List Sec)} {Φ : List Int × Bool × Int → Prop} {mm : List (Int × Bool)} (hh : SmallH h) (hz : histE h = 0) (hi : imgE im = 0) (hs : szs im = h.Sizes)
    (hm : ∀ w, w < h.Writes.length → (mget mm (w : Int) false = true ↔ needB h im w = true))
    (kD : ∀ v k : Nat, v < im.length → k < szN im v → difV h im = (v : Int) → difK h im = (k : Int) → sec (ximH h im) v k ≠ sec im v k → consistency_Find_J9 (lowH h im, 0) Φ (true, (v : Int), (k : Int), [sec (ximH h im) v k]))
    (kN : difV h im = -1 → consistency_Find_J9 (lowH h im, 0) Φ (false, 0, 0, [])) : LoopW (consistency_Find_L8 h im false 0 0 mm [] Φ) (0, []) := by
  have hw := hist_wr hz
  refine LoopW.upT h.Writes.length (fun k => ((k : Int), selL k (needB h im))) rfl (fun k rec hk hr => ⟨fun _ => ⟨fun q => ?_, fun q => ⟨iI (by omega) (by omega), hr _ ?_⟩⟩, fun r => absurd (show (k : Int) < (h.Writes.length : Int) by omega) r⟩) fun rec => ⟨fun r => absurd r (by show ¬ ((h.Writes.length : Int) < (h.Writes.length : Int)); omega), fun _ => ?_⟩
  · have sl := selL_len (n := k) (p := needB h im)
    have e : selL k (needB h im) ++ [(k : Int)] = selL (k + 1) (needB h im) := by rw [selL_succ, if_pos ((hm k hk).1 q)]
    refine ⟨⟨?_, ?_⟩, iI (by omega) (by omega), hr _ (by rw [e]; rfl)⟩
    · show (selL k (needB h im) ++ [(k : Int)]).length * 8 ≤ _
      rw [List.length_append, List.length_singleton]; omega
    · show (selL k (needB h im) ++ [(k : Int)]).length ≤ maxLen
      rw [List.length_append, List.length_singleton]; unfold maxLen; omega
  · rw [selL_succ, if_neg fun t => q ((hm k hk).2 t), List.append_nil]; rfl
  · have sl := selL_len (n := h.Writes.length) (p := needB h im)
    have er : leastR h (needL h im) = (lowH h im, 0) := by
      unfold leastR
      rw [if_neg (fun t => t hz), if_neg (by rw [needL_set]; simp)]; rfl
    refine cut_Least_eq hh (by omega) er ⟨fun r => absurd rfl r, fun _ => ?_⟩
    have ll : (lowH h im).length ≤ 1000000 := by rw [lowH_sel]; have := selL_len (n := h.Writes.length) (p := lowC h (needL h im)); omega
    exact history_Image_ok hh ll (fun _ _ => ⟨fun r => absurd rfl r, fun _ => find_dif hz hi hs kD kN⟩) (fun r => absurd hz r) fun _ r => by rw [lowH_set] at r; exact Bool.noConfusion r
theorem find_unk {h : api_History} {im : List (List Sec)} {m : List (consistency_content × Int)} {Φ : List Int × Bool × Int → Prop} (hh : SmallH h) (hz : histE h = 0) (hi : imgE im = 0) (hs : szs im = h.Sizes) (hm : AutM h m)
    (kU : ∀ (v k : Nat) mm, v < im.length → k < szN im v → unkV h im = (v : Int) → unkK h im = (k : Int) → unkB h im v k = true → consistency_Find_J7 h im Φ (true, (v : Int), (k : Int), mm, [sec im v k]))
    (kD : unkV h im = -1 → ∀ v k : Nat, v < im.length → k < szN im v → difV h im = (v : Int) → difK h im = (k : Int) → sec (ximH h im) v k ≠ sec im v k → consistency_Find_J9 (lowH h im, 0) Φ (true, (v : Int), (k : Int), [sec (ximH h im) v k]))
    (kN : unkV h im = -1 → difV h im = -1 → consistency_Find_J9 (lowH h im, 0) Φ (false, 0, 0, [])) : LoopW (consistency_Find_L12 h im m Φ) (0, []) := by
  have sm := fit_small (im := im) (by rw [show sizesE (szs im) = 0 from hi]; simp)
  refine nestS (inn := fun v rec => consistency_Find_L13 h im m (v : Int) rec Φ) im.length (szN im) (unkB h im) (fun v k mm => ∀ w : Nat, mget mm (w : Int) false = true ↔ NeedBy h im v k w) (fun w => ⟨fun t => Bool.noConfusion t, fun t => absurd t NeedBy.zero⟩)
    (fun v a hv ha w => (ha w).trans NeedBy.row.symm) (fun v a rec hv hl => ⟨fun _ => ⟨iX (by omega) (by omega), hl⟩, fun r => absurd (show (v : Int) < (im.length : Int) by omega) r⟩) ?_ ?_ ?_
  · intro v k mm rec rec' hv hk hp hq hI hr
    have sv := (sm.2.2 v hv).2
    have hk' : k < (ix im (v : Int)).length := hk
    refine ⟨fun _ => ⟨iX (by omega) (by omega), fun z => ⟨iI (by omega) (by omega), hr ?_ mm fun w => (hI w).trans (NeedBy.skip z).symm⟩, fun z => ⟨fun q => ?_, fun q => ?_⟩⟩, fun r => absurd (show (k : Int) < ((ix im (v : Int)).length : Int) by omega) r⟩
    · unfold unkB
      rw [decide_eq_false (fun t => t z)]; rfl
    · have hb : unkB h im v k = true := by
        unfold unkB
        rw [Bool.and_eq_true, decide_eq_true_iff, decide_eq_true_iff]
        refine ⟨z, ?_⟩
        have := fun t => q (hm.has.2 t)
        show autC h (v : Int) (k : Int) (sec im v k) < 0
        have t2 : ¬ 0 ≤ autC h (v : Int) (k : Int) (sec im v k) := this
        omega
      have hh := fst_hit hv hk hp hq hb
      exact kU v k mm hv hk hh.1 hh.2 hb
    · have q1 : 0 ≤ autC h (v : Int) (k : Int) (sec im v k) := hm.has.1 (Classical.not_not.1 q)
      have q2 : mget m ⟨⟨(v : Int), (k : Int)⟩, sec im v k⟩ 0 = autC h (v : Int) (k : Int) (sec im v k) := hm.get q1
      refine ⟨iI (by omega) (by omega), hr ?_ _ fun w => ?_⟩
      · unfold unkB
        rw [decide_eq_false (show ¬ autC h (v : Int) (k : Int) (sec im v k) < 0 by omega), Bool.and_false]
      · show mget (mput mm (mget m ⟨⟨(v : Int), (k : Int)⟩, sec im v k⟩ 0) true) (w : Int) false = true ↔ _
        rw [mget_put, q2, NeedBy.take z, ← hI w]
        by_cases e : (w : Int) = autC h (v : Int) (k : Int) (sec im v k)
        · rw [if_pos e]; exact ⟨fun _ => .inr e.symm, fun _ => rfl⟩
        · rw [if_neg e]; exact ⟨.inl, fun t => t.elim id fun u => absurd u.symm e⟩
  · intro v a rec rec' hv hr
    have sv := (sm.2.2 v hv).2
    exact ⟨fun r => absurd r (by show ¬ ((szN im v : Int) < ((ix im (v : Int)).length : Int)); unfold szN; omega), fun _ => ⟨iI (by omega) (by omega), hr⟩⟩
  · intro mm rec hp hI
    exact ⟨fun r => absurd r (by show ¬ ((im.length : Int) < (im.length : Int)); omega), fun _ => ⟨fun r => Bool.noConfusion r, fun _ => find_ned hh hz hi hs (fun w _ => (hI w).trans NeedBy.all) (kD (fst_none hp)) (kN (fst_none hp))⟩⟩
theorem find_col {h : api_History} {im : List (List Sec)} {Φ : List Int × Bool × Int → Prop} (hz : histE h = 0) (kB : distB h = false → Φ (([] : List Int), false, 1))
    (kG : distB h = true → ∀ m, AutM h m → LoopW (consistency_Find_L12 h im m Φ) (0, [])) : LoopW (consistency_Find_L2 h im Φ) (0, []) := by
  have hn := hist_wr hz
  refine LoopW.upS h.Writes.length (fun s => s.1) (fun i s => (∀ j, j < i → okW h j = true) ∧ MapOk h i 0 s.2 ∧ ValOk h i 0 s.2) ?_ 0 rfl (Nat.zero_le _) ⟨fun j hj => absurd hj (Nat.not_lt_zero j), fun c => ⟨fun t => Bool.noConfusion t, fun ⟨j, q, h1, _⟩ => by omega⟩, fun c x t => by cases t⟩
  rintro i ⟨_, m⟩ rec hi rfl ⟨hI, hm, hv⟩ hrec
  refine ⟨fun r => ?_, fun r => ?_⟩
  · have hi : i < h.Writes.length := by omega
    have bad : okW h i = false → Φ (([] : List Int), false, 1) := fun t => kB (allN_false hi t)
    have fi := hist_fit hz hi
    refine ⟨iX (by omega) (by omega), ?_⟩
    refine LoopW.upS (wr h i).Data.length (fun s => s.1) (fun k s => (∀ j, j < k → okI h i j = true) ∧ MapOk h i k s.2 ∧ ValOk h i k s.2) ?_ 0 rfl (Nat.zero_le _) ⟨fun j hj => absurd hj (Nat.not_lt_zero j), hm, hv⟩
    rintro k ⟨_, m'⟩ rec3 hk rfl ⟨hJ, hm', hv'⟩ hrec3
    refine ⟨fun r3 => ?_, fun r3 => ?_⟩
    · have hk : k < (wr h i).Data.length := by exact_mod_cast r3
      have badk : okI h i k = false → Φ (([] : List Int), false, 1) := fun t => bad (allN_false hk t)
      have hno : Φ (([] : List Int), false, 1) → consistency_Find_J3 (i : Int) rec Φ (false, (mput m' (keyAt h i k) (i : Int))) := fun t => ⟨fun _ => ⟨fun _ => t, fun u => absurd (by decide) u⟩, fun u => absurd (fun v => Bool.noConfusion v) u⟩
      refine ⟨iX (by omega) (by exact_mod_cast hk), iI (by show _ ≤ (wr h i).Start + (k : Int); omega) (by show (wr h i).Start + (k : Int) ≤ _; omega), fun u => ⟨fun v => hno (badk ?_), fun v => ⟨iI (by omega) (by omega), hrec3 _ hk rfl ⟨fun j hj => ?_, hm'.put _, hv'.put⟩⟩⟩, fun u => hno (badk ?_)⟩
      · exact okI_zero (Classical.not_not.1 v)
      · rcases Nat.lt_or_ge j k with c | c
        · exact hJ j c
        · obtain rfl : j = k := by omega
          exact okI_iff.2 ⟨Classical.not_not.1 v, fun w => u ((hm' _).2 w)⟩
      · rw [Bool.eq_false_iff]
        exact fun w => (okI_iff.1 w).2 ((hm' _).1 (Classical.not_not.1 u))
    · have hk : k = (wr h i).Data.length := by
        have : ¬ ((k : Int) < ((wr h i).Data.length : Int)) := r3
        omega
      subst hk
      exact ⟨fun t => absurd rfl t, fun _ => ⟨iI (by omega) (by omega), hrec _ hi rfl ⟨fun j hj => by
        rcases Nat.lt_or_ge j i with c | c
        · exact hI j c
        · obtain rfl : j = i := by omega
          exact allN_true.2 hJ, hm'.next, hv'.next⟩⟩⟩
  · have e : i = h.Writes.length := by omega
    subst e
    have hd : distB h = true := allN_true.2 hI
    exact ⟨fun t => absurd rfl t, fun _ => kG hd m (AutM.of hd hm hv)⟩
theorem find_jdg {h : api_History} {im : List (List Sec)} {Φ : List Int × Bool × Int → Prop} (hh : SmallH h) (hl : im.length ≤ 100000) (kE : rgtE h im ≠ 0 → Φ (([] : List Int), false, rgtE h im))
    (kG : histE h = 0 → imgE im = 0 → szs im = h.Sizes → distB h = true → ∀ m, AutM h m → LoopW (consistency_Find_L12 h im m Φ) (0, [])) : consistency_Find_W h im Φ := by
  refine history_Check_ok hh ⟨fun q => ⟨fun _ => ?_, fun r => absurd q r⟩, fun q => ?_⟩
  · have e : rgtE h im = histE h := by unfold rgtE; rw [if_pos q]
    rw [e] at kE; exact kE q
  have hz : histE h = 0 := Classical.not_not.1 q
  refine image_Check_ok hl ⟨fun q2 => ⟨fun _ => ?_, fun r => absurd q2 r⟩, fun q2 => ?_⟩
  · have e : rgtE h im = imgE im := by unfold rgtE; rw [if_neg q, if_pos q2]
    rw [e] at kE; exact kE q2
  have hi : imgE im = 0 := Classical.not_not.1 q2
  have sm := fit_small (im := im) (by rw [show sizesE (szs im) = 0 from hi]; simp)
  have bad : szs im ≠ h.Sizes → consistency_Find_J1 h im Φ true := fun q3 => ⟨fun _ => ⟨fun _ => by
    have e : rgtE h im = 22 := by unfold rgtE; rw [if_neg q, if_neg q2, if_pos q3]
    rw [e] at kE; exact kE (by decide), fun r => absurd (by decide) r⟩, fun r => absurd rfl r⟩
  have good : szs im = h.Sizes → consistency_Find_J1 h im Φ false := fun q3 => ⟨fun r => Bool.noConfusion r, fun _ => find_col hz (fun q4 => by
    have e : rgtE h im = 1 := by unfold rgtE; rw [if_neg q, if_neg q2, if_neg (fun t => t q3), if_pos q4]
    rw [e] at kE; exact kE (by decide)) (kG hz hi q3)⟩
  refine ⟨fun r => bad fun t => r (by rw [← t, szs_len]), fun r => ?_⟩
  have hl2 : im.length = h.Sizes.length := by omega
  refine LoopW.upI im.length (fun k => (k : Int)) (fun k => ∀ j, j < k → ((ix im (j : Int)).length : Int) = ix h.Sizes (j : Int)) rfl (fun j hj => absurd hj (Nat.not_lt_zero j)) (fun k rec hk hI hr => ⟨fun _ => ⟨iX (by omega) (by omega), iX (by omega) (by omega), fun t => bad fun u => t (decide_eq_true ((szs_eq_iff hl2).1 u k hk)), fun t => ⟨iI (by omega) (by omega), hr (fun j hj => ?_) _ rfl⟩⟩, fun t => absurd (show (k : Int) < (im.length : Int) by omega) t⟩) fun rec hI => ⟨fun t => absurd t (by omega), fun _ => good ((szs_eq_iff hl2).2 hI)⟩
  rcases Nat.lt_or_ge j k with c | c
  · exact hI j c
  · obtain rfl : j = k := by omega
    exact of_decide_eq_true (Classical.not_not.1 t)
theorem newest_dif {h : api_History} {im : List (List Sec)} {m : List (consistency_content × Int)} {Φ : List Int × Bool × Int → Prop} (hz : histE h = 0) (hi : imgE im = 0) (hs : szs im = h.Sizes)
    (kD : ∀ v k : Nat, v < im.length → k < szN im v → difV h im = (v : Int) → difK h im = (k : Int) → sec (ximH h im) v k ≠ sec im v k → consistency_Newest_J12 h im m Φ (true, (v : Int), (k : Int), [sec (ximH h im) v k]))
    (kN : difV h im = -1 → consistency_Newest_J12 h im m Φ (false, 0, 0, [])) : LoopW (consistency_Newest_L13 h im m false 0 0 [] (ximH h im, 0) Φ) 0 := by
  have ⟨el, es, en, sv0⟩ := xim_fact hz hi hs
  refine nestN (inn := fun v rec => consistency_Newest_L14 h im m false 0 0 [] (ximH h im, 0) (v : Int) rec Φ) im.length (szN im) (difB (ximH h im) im) (fun v rec hv hl => ⟨fun _ => ⟨iX (by omega) (by show (v : Int) < ((ximH h im).length : Int); omega), hl⟩, fun r => absurd (show (v : Int) < ((ximH h im).length : Int) by omega) r⟩) ?_ ?_ ?_
  · intro v k rec rec' hv hk hp hq hr
    have e1 := en v hv
    have sv := sv0 v hv
    have hk' : k < (ix im (v : Int)).length := hk
    refine ⟨fun _ => ⟨iX (by omega) (by show (k : Int) < ((ix (ximH h im) (v : Int)).length : Int); omega), iX (by omega) (by omega), iX (by omega) (by omega), fun q => ?_, fun q => ⟨fun r => absurd (fun t => Bool.noConfusion t) r, fun _ => ⟨iI (by omega) (by omega), hr (decide_eq_false fun t => q t)⟩⟩⟩, fun r => absurd (show (k : Int) < ((ix (ximH h im) (v : Int)).length : Int) by omega) r⟩
    have hh := fst_hit hv hk hp hq (decide_eq_true q)
    exact kD v k hv hk hh.1 hh.2 q
  · intro v rec rec' hv hr
    have e1 := en v hv
    have sv := sv0 v hv
    exact ⟨fun r => absurd r (by show ¬ ((szN im v : Int) < ((ix (ximH h im) (v : Int)).length : Int)); omega), fun _ => ⟨iI (by omega) (by omega), hr⟩⟩
  · intro rec hp
    have nl : ¬ ((im.length : Int) < ((ximH h im).length : Int)) := by omega
    have nd : difV h im = -1 := fst_none hp
    exact ⟨fun r => absurd r nl, fun _ => kN nd⟩
theorem newest_ned {h : api_History} {im : List (List Sec)} {m : List (consistency_content × Int)} {Φ : List Int × Bool × Int → Prop} {mm : List (Int × Bool)} (hh : SmallH h) (hz : histE h = 0) (hi : imgE im = 0) (hs : szs im = h.Sizes)
    (hm : ∀ w, w < h.Writes.length → (mget mm (w : Int) false = true ↔ needB h im w = true))
    (kD : ∀ v k : Nat, v < im.length → k < szN im v → difV h im = (v : Int) → difK h im = (k : Int) → sec (ximH h im) v k ≠ sec im v k → consistency_Newest_J12 h im m Φ (true, (v : Int), (k : Int), [sec (ximH h im) v k]))
    (kN : difV h im = -1 → consistency_Newest_J12 h im m Φ (false, 0, 0, [])) : LoopW (consistency_Newest_L11 h im m false 0 0 mm [] Φ) (0, []) := by
  have hw := hist_wr hz
  refine LoopW.upT h.Writes.length (fun k => ((k : Int), selL k (needB h im))) rfl (fun k rec hk hr => ⟨fun _ => ⟨fun q => ?_, fun q => ⟨iI (by omega) (by omega), hr _ ?_⟩⟩, fun r => absurd (show (k : Int) < (h.Writes.length : Int) by omega) r⟩) fun rec => ⟨fun r => absurd r (by show ¬ ((h.Writes.length : Int) < (h.Writes.length : Int)); omega), fun _ => ?_⟩
  · have sl := selL_len (n := k) (p := needB h im)
    have e : selL k (needB h im) ++ [(k : Int)] = selL (k + 1) (needB h im) := by rw [selL_succ, if_pos ((hm k hk).1 q)]
    refine ⟨⟨?_, ?_⟩, iI (by omega) (by omega), hr _ (by rw [e]; rfl)⟩
    · show (selL k (needB h im) ++ [(k : Int)]).length * 8 ≤ _
      rw [List.length_append, List.length_singleton]; omega
    · show (selL k (needB h im) ++ [(k : Int)]).length ≤ maxLen
      rw [List.length_append, List.length_singleton]; unfold maxLen; omega
  · rw [selL_succ, if_neg fun t => q ((hm k hk).2 t), List.append_nil]; rfl
  · have sl := selL_len (n := h.Writes.length) (p := needB h im)
    have er : leastR h (needL h im) = (lowH h im, 0) := by
      unfold leastR
      rw [if_neg (fun t => t hz), if_neg (by rw [needL_set]; simp)]; rfl
    refine cut_Least_eq hh (by omega) er ⟨fun r => absurd rfl r, fun _ => ?_⟩
    have ll : (lowH h im).length ≤ 1000000 := by rw [lowH_sel]; have := selL_len (n := h.Writes.length) (p := lowC h (needL h im)); omega
    exact history_Image_ok hh ll (fun _ _ => ⟨fun r => absurd rfl r, fun _ => newest_dif hz hi hs kD kN⟩) (fun r => absurd hz r) fun _ r => by rw [lowH_set] at r; exact Bool.noConfusion r
theorem newest_unk {h : api_History} {im : List (List Sec)} {m : List (consistency_content × Int)} {Φ : List Int × Bool × Int → Prop} (hh : SmallH h) (hz : histE h = 0) (hi : imgE im = 0) (hs : szs im = h.Sizes) (hm : AutM h m)
    (kU : ∀ (v k : Nat) mm, v < im.length → k < szN im v → unkV h im = (v : Int) → unkK h im = (k : Int) → unkB h im v k = true → consistency_Newest_J10 h im m Φ (true, (v : Int), (k : Int), mm, [sec im v k]))
    (kD : unkV h im = -1 → ∀ v k : Nat, v < im.length → k < szN im v → difV h im = (v : Int) → difK h im = (k : Int) → sec (ximH h im) v k ≠ sec im v k → consistency_Newest_J12 h im m Φ (true, (v : Int), (k : Int), [sec (ximH h im) v k]))
    (kN : unkV h im = -1 → difV h im = -1 → consistency_Newest_J12 h im m Φ (false, 0, 0, [])) : LoopW (consistency_Newest_L15 h im m Φ) (0, []) := by
  have sm := fit_small (im := im) (by rw [show sizesE (szs im) = 0 from hi]; simp)
  refine nestS (inn := fun v rec => consistency_Newest_L16 h im m (v : Int) rec Φ) im.length (szN im) (unkB h im) (fun v k mm => ∀ w : Nat, mget mm (w : Int) false = true ↔ NeedBy h im v k w) (fun w => ⟨fun t => Bool.noConfusion t, fun t => absurd t NeedBy.zero⟩)
    (fun v a hv ha w => (ha w).trans NeedBy.row.symm) (fun v a rec hv hl => ⟨fun _ => ⟨iX (by omega) (by omega), hl⟩, fun r => absurd (show (v : Int) < (im.length : Int) by omega) r⟩) ?_ ?_ ?_
  · intro v k mm rec rec' hv hk hp hq hI hr
    have sv := (sm.2.2 v hv).2
    have hk' : k < (ix im (v : Int)).length := hk
    refine ⟨fun _ => ⟨iX (by omega) (by omega), fun z => ⟨iI (by omega) (by omega), hr ?_ mm fun w => (hI w).trans (NeedBy.skip z).symm⟩, fun z => ⟨fun q => ?_, fun q => ?_⟩⟩, fun r => absurd (show (k : Int) < ((ix im (v : Int)).length : Int) by omega) r⟩
    · unfold unkB
      rw [decide_eq_false (fun t => t z)]; rfl
    · have hb : unkB h im v k = true := by
        unfold unkB
        rw [Bool.and_eq_true, decide_eq_true_iff, decide_eq_true_iff]
        refine ⟨z, ?_⟩
        have := fun t => q (hm.has.2 t)
        show autC h (v : Int) (k : Int) (sec im v k) < 0
        have t2 : ¬ 0 ≤ autC h (v : Int) (k : Int) (sec im v k) := this
        omega
      have hh := fst_hit hv hk hp hq hb
      exact kU v k mm hv hk hh.1 hh.2 hb
    · have q1 : 0 ≤ autC h (v : Int) (k : Int) (sec im v k) := hm.has.1 (Classical.not_not.1 q)
      have q2 : mget m ⟨⟨(v : Int), (k : Int)⟩, sec im v k⟩ 0 = autC h (v : Int) (k : Int) (sec im v k) := hm.get q1
      refine ⟨iI (by omega) (by omega), hr ?_ _ fun w => ?_⟩
      · unfold unkB
        rw [decide_eq_false (show ¬ autC h (v : Int) (k : Int) (sec im v k) < 0 by omega), Bool.and_false]
      · show mget (mput mm (mget m ⟨⟨(v : Int), (k : Int)⟩, sec im v k⟩ 0) true) (w : Int) false = true ↔ _
        rw [mget_put, q2, NeedBy.take z, ← hI w]
        by_cases e : (w : Int) = autC h (v : Int) (k : Int) (sec im v k)
        · rw [if_pos e]; exact ⟨fun _ => .inr e.symm, fun _ => rfl⟩
        · rw [if_neg e]; exact ⟨.inl, fun t => t.elim id fun u => absurd u.symm e⟩
  · intro v a rec rec' hv hr
    have sv := (sm.2.2 v hv).2
    exact ⟨fun r => absurd r (by show ¬ ((szN im v : Int) < ((ix im (v : Int)).length : Int)); unfold szN; omega), fun _ => ⟨iI (by omega) (by omega), hr⟩⟩
  · intro mm rec hp hI
    exact ⟨fun r => absurd r (by show ¬ ((im.length : Int) < (im.length : Int)); omega), fun _ => ⟨fun r => Bool.noConfusion r, fun _ => newest_ned hh hz hi hs (fun w _ => (hI w).trans NeedBy.all) (kD (fst_none hp)) (kN (fst_none hp))⟩⟩
theorem newest_col {h : api_History} {im : List (List Sec)} {Φ : List Int × Bool × Int → Prop} (hz : histE h = 0) (kB : distB h = false → Φ (([] : List Int), false, 1))
    (kG : distB h = true → ∀ m, AutM h m → LoopW (consistency_Newest_L15 h im m Φ) (0, [])) : LoopW (consistency_Newest_L2 h im Φ) (0, []) := by
  have hn := hist_wr hz
  refine LoopW.upS h.Writes.length (fun s => s.1) (fun i s => (∀ j, j < i → okW h j = true) ∧ MapOk h i 0 s.2 ∧ ValOk h i 0 s.2) ?_ 0 rfl (Nat.zero_le _) ⟨fun j hj => absurd hj (Nat.not_lt_zero j), fun c => ⟨fun t => Bool.noConfusion t, fun ⟨j, q, h1, _⟩ => by omega⟩, fun c x t => by cases t⟩
  rintro i ⟨_, m⟩ rec hi rfl ⟨hI, hm, hv⟩ hrec
  refine ⟨fun r => ?_, fun r => ?_⟩
  · have hi : i < h.Writes.length := by omega
    have bad : okW h i = false → Φ (([] : List Int), false, 1) := fun t => kB (allN_false hi t)
    have fi := hist_fit hz hi
    refine ⟨iX (by omega) (by omega), ?_⟩
    refine LoopW.upS (wr h i).Data.length (fun s => s.1) (fun k s => (∀ j, j < k → okI h i j = true) ∧ MapOk h i k s.2 ∧ ValOk h i k s.2) ?_ 0 rfl (Nat.zero_le _) ⟨fun j hj => absurd hj (Nat.not_lt_zero j), hm, hv⟩
    rintro k ⟨_, m'⟩ rec3 hk rfl ⟨hJ, hm', hv'⟩ hrec3
    refine ⟨fun r3 => ?_, fun r3 => ?_⟩
    · have hk : k < (wr h i).Data.length := by exact_mod_cast r3
      have badk : okI h i k = false → Φ (([] : List Int), false, 1) := fun t => bad (allN_false hk t)
      have hno : Φ (([] : List Int), false, 1) → consistency_Newest_J3 (i : Int) rec Φ (false, (mput m' (keyAt h i k) (i : Int))) := fun t => ⟨fun _ => ⟨fun _ => t, fun u => absurd (by decide) u⟩, fun u => absurd (fun v => Bool.noConfusion v) u⟩
      refine ⟨iX (by omega) (by exact_mod_cast hk), iI (by show _ ≤ (wr h i).Start + (k : Int); omega) (by show (wr h i).Start + (k : Int) ≤ _; omega), fun u => ⟨fun v => hno (badk ?_), fun v => ⟨iI (by omega) (by omega), hrec3 _ hk rfl ⟨fun j hj => ?_, hm'.put _, hv'.put⟩⟩⟩, fun u => hno (badk ?_)⟩
      · exact okI_zero (Classical.not_not.1 v)
      · rcases Nat.lt_or_ge j k with c | c
        · exact hJ j c
        · obtain rfl : j = k := by omega
          exact okI_iff.2 ⟨Classical.not_not.1 v, fun w => u ((hm' _).2 w)⟩
      · rw [Bool.eq_false_iff]
        exact fun w => (okI_iff.1 w).2 ((hm' _).1 (Classical.not_not.1 u))
    · have hk : k = (wr h i).Data.length := by
        have : ¬ ((k : Int) < ((wr h i).Data.length : Int)) := r3
        omega
      subst hk
      exact ⟨fun t => absurd rfl t, fun _ => ⟨iI (by omega) (by omega), hrec _ hi rfl ⟨fun j hj => by
        rcases Nat.lt_or_ge j i with c | c
        · exact hI j c
        · obtain rfl : j = i := by omega
          exact allN_true.2 hJ, hm'.next, hv'.next⟩⟩⟩
  · have e : i = h.Writes.length := by omega
    subst e
    have hd : distB h = true := allN_true.2 hI
    exact ⟨fun t => absurd rfl t, fun _ => kG hd m (AutM.of hd hm hv)⟩
theorem newest_jdg {h : api_History} {im : List (List Sec)} {Φ : List Int × Bool × Int → Prop} (hh : SmallH h) (hl : im.length ≤ 100000) (kE : rgtE h im ≠ 0 → Φ (([] : List Int), false, rgtE h im))
    (kG : histE h = 0 → imgE im = 0 → szs im = h.Sizes → distB h = true → ∀ m, AutM h m → LoopW (consistency_Newest_L15 h im m Φ) (0, [])) : consistency_Newest_W h im Φ := by
  refine history_Check_ok hh ⟨fun q => ⟨fun _ => ?_, fun r => absurd q r⟩, fun q => ?_⟩
  · have e : rgtE h im = histE h := by unfold rgtE; rw [if_pos q]
    rw [e] at kE; exact kE q
  have hz : histE h = 0 := Classical.not_not.1 q
  refine image_Check_ok hl ⟨fun q2 => ⟨fun _ => ?_, fun r => absurd q2 r⟩, fun q2 => ?_⟩
  · have e : rgtE h im = imgE im := by unfold rgtE; rw [if_neg q, if_pos q2]
    rw [e] at kE; exact kE q2
  have hi : imgE im = 0 := Classical.not_not.1 q2
  have sm := fit_small (im := im) (by rw [show sizesE (szs im) = 0 from hi]; simp)
  have bad : szs im ≠ h.Sizes → consistency_Newest_J1 h im Φ true := fun q3 => ⟨fun _ => ⟨fun _ => by
    have e : rgtE h im = 22 := by unfold rgtE; rw [if_neg q, if_neg q2, if_pos q3]
    rw [e] at kE; exact kE (by decide), fun r => absurd (by decide) r⟩, fun r => absurd rfl r⟩
  have good : szs im = h.Sizes → consistency_Newest_J1 h im Φ false := fun q3 => ⟨fun r => Bool.noConfusion r, fun _ => newest_col hz (fun q4 => by
    have e : rgtE h im = 1 := by unfold rgtE; rw [if_neg q, if_neg q2, if_neg (fun t => t q3), if_pos q4]
    rw [e] at kE; exact kE (by decide)) (kG hz hi q3)⟩
  refine ⟨fun r => bad fun t => r (by rw [← t, szs_len]), fun r => ?_⟩
  have hl2 : im.length = h.Sizes.length := by omega
  refine LoopW.upI im.length (fun k => (k : Int)) (fun k => ∀ j, j < k → ((ix im (j : Int)).length : Int) = ix h.Sizes (j : Int)) rfl (fun j hj => absurd hj (Nat.not_lt_zero j)) (fun k rec hk hI hr => ⟨fun _ => ⟨iX (by omega) (by omega), iX (by omega) (by omega), fun t => bad fun u => t (decide_eq_true ((szs_eq_iff hl2).1 u k hk)), fun t => ⟨iI (by omega) (by omega), hr (fun j hj => ?_) _ rfl⟩⟩, fun t => absurd (show (k : Int) < (im.length : Int) by omega) t⟩) fun rec hI => ⟨fun t => absurd t (by omega), fun _ => good ((szs_eq_iff hl2).2 hI)⟩
  rcases Nat.lt_or_ge j k with c | c
  · exact hI j c
  · obtain rfl : j = k := by omega
    exact of_decide_eq_true (Classical.not_not.1 t)
def fullL (n k : Nat) (a b : Int) : List Int := (List.range n).map fun w : Nat => if w < k then a else b
theorem fullL_len {n k : Nat} {a b : Int} : (fullL n k a b).length = n := by unfold fullL; rw [List.length_map, List.length_range]
theorem ix_fillL {n k w : Nat} {a b : Int} (h : w < n) : ix (fullL n k a b) (w : Int) = if w < k then a else b := by
  rw [ix_get (by rw [fullL_len]; exact h)]
  unfold fullL
  rw [List.getElem_map, List.getElem_range]
theorem ix_rep {n w : Nat} {a : Int} (h : w < n) : ix (List.replicate n a) (w : Int) = a := by rw [ix_get (by rw [List.length_replicate]; exact h), List.getElem_replicate]
theorem fullL_zero {n : Nat} {a b : Int} : List.replicate n b = fullL n 0 a b := ext_ix (by rw [fullL_len, List.length_replicate]) fun j hj => by
  rw [List.length_replicate] at hj
  rw [ix_fillL hj, ix_rep hj, if_neg (Nat.not_lt_zero j)]
theorem fullL_all {n : Nat} {a b : Int} : fullL n n a b = List.replicate n a := ext_ix (by rw [fullL_len, List.length_replicate]) fun j hj => by
  rw [fullL_len] at hj
  rw [ix_fillL hj, ix_rep hj, if_pos hj]
theorem fullL_put {n k : Nat} {a b : Int} (hk : k < n) : put (fullL n k a b) (k : Int) a = fullL n (k + 1) a b := ext_ix (by rw [put_len, fullL_len, fullL_len]) fun j hj => by
  rw [put_len, fullL_len] at hj
  rw [ix_put _ _ (by rw [fullL_len]; exact hk), ix_fillL hj, ix_fillL hj]
  by_cases e : j = k
  · rw [if_pos e, if_pos (by omega)]
  · rw [if_neg e]
    by_cases q : j < k
    · rw [if_pos q, if_pos (by omega)]
    · rw [if_neg q, if_neg (by omega)]
def rowB (n k : Nat) (p : Nat → Bool) : List Bool := (List.range n).map fun w : Nat => decide (w < k) && p w
theorem rowB_len {n k : Nat} {p : Nat → Bool} : (rowB n k p).length = n := by unfold rowB; rw [List.length_map, List.length_range]
theorem ix_rowB {n k w : Nat} {p : Nat → Bool} (h : w < n) : ix (rowB n k p) (w : Int) = (decide (w < k) && p w) := by
  rw [ix_get (by rw [rowB_len]; exact h)]
  unfold rowB
  rw [List.getElem_map, List.getElem_range]
theorem rowB_zero {n : Nat} {p : Nat → Bool} : List.replicate n false = rowB n 0 p := ext_ix (by rw [rowB_len, List.length_replicate]) fun j hj => by
  rw [List.length_replicate] at hj
  rw [ix_rowB hj, ix_get (by rw [List.length_replicate]; exact hj), List.getElem_replicate]; simp
theorem rowB_put {n k : Nat} {p : Nat → Bool} {b : Bool} (hk : k < n) (e : p k = b) : rowB n (k + 1) p = put (rowB n k p) (k : Int) b := ext_ix (by rw [put_len, rowB_len, rowB_len]) fun j hj => by
  rw [rowB_len] at hj
  rw [ix_put _ _ (by rw [rowB_len]; exact hk), ix_rowB hj, ix_rowB hj]
  by_cases q : j = k
  · subst q; rw [if_pos rfl, e, decide_eq_true (Nat.lt_succ_self j), Bool.true_and]
  · rw [if_neg q]
    have : decide (j < k + 1) = decide (j < k) := decide_eq_decide.2 (by omega)
    rw [this]
def tblK (h : api_History) (k : Nat) : List (List Bool) := (List.range k).map fun a : Nat => rowB h.Writes.length h.Writes.length fun b => befP h a b
def tblH (h : api_History) : List (List Bool) := tblK h h.Writes.length
theorem tblK_len {h : api_History} {k : Nat} : (tblK h k).length = k := by unfold tblK; rw [List.length_map, List.length_range]
theorem tblK_succ {h : api_History} {k : Nat} : tblK h (k + 1) = tblK h k ++ [rowB h.Writes.length h.Writes.length fun b => befP h k b] := by unfold tblK; rw [List.range_succ, List.map_append]; rfl
theorem ix_tblH {h : api_History} {a : Nat} (ha : a < h.Writes.length) : ix (tblH h) (a : Int) = rowB h.Writes.length h.Writes.length fun b => befP h a b := by
  rw [ix_get (by unfold tblH; rw [tblK_len]; exact ha)]
  unfold tblH tblK
  rw [List.getElem_map, List.getElem_range]
theorem ix_tbl {h : api_History} {a b : Nat} (ha : a < h.Writes.length) (hb : b < h.Writes.length) : ix (ix (tblH h) (a : Int)) (b : Int) = befP h a b := by
  rw [ix_tblH ha, ix_rowB hb, decide_eq_true hb, Bool.true_and]
def ackP (h : api_History) : List Int := relL h.Events 1 h.Writes.length (-1) h.Events.length
def issP (h : api_History) : List Int := relL h.Events 0 h.Writes.length 0 h.Events.length
theorem ackP_at {h : api_History} {a : Nat} (ha : a < h.Writes.length) : ix (ackP h) (a : Int) = atN h.Events h.Events.length ⟨1, (a : Int)⟩ := by
  unfold ackP
  rw [ix_relL ha]
  by_cases q : 0 ≤ atN h.Events h.Events.length ⟨1, (a : Int)⟩
  · rw [if_pos q]
  · rw [if_neg q, atN_neg q]
theorem issP_at {h : api_History} (hz : histE h = 0) {a : Nat} (ha : a < h.Writes.length) : ix (issP h) (a : Int) = atN h.Events h.Events.length ⟨0, (a : Int)⟩ := by
  unfold issP
  rw [ix_relL ha, if_pos (iss_nn hz ha)]
theorem table_L4 {h : api_History} {a : Nat} {t : List (List Bool)} {rec3 : (Int × List (List Bool)) → Prop} {Φ : List (List Bool) → Prop} (hz : histE h = 0) (ha : a < h.Writes.length) (ht : t = tblK h a) (hr : rec3 ((a : Int) + 1, tblK h (a + 1))) : LoopW (ref16_Table_L4 h (ackP h) (issP h) (a : Int) t rec3 Φ) (0, List.replicate h.Writes.length false) := by
  have hw := hist_wr hz
  have la : (ackP h).length = h.Writes.length := relL_len
  have li : (issP h).length = h.Writes.length := relL_len
  have ea := ackP_at ha
  refine LoopW.upT h.Writes.length (fun k => ((k : Int), rowB h.Writes.length k fun b => befP h a b)) (by rw [rowB_zero (p := fun b => befP h a b)]; rfl) (fun k rec hk hrec => ⟨fun _ => ⟨iX (by omega) (by omega), fun q => ⟨iX (by omega) (by omega), iX (by omega) (by omega), iX (by omega) (by rw [rowB_len]; omega), iI (by omega) (by omega), hrec _ ?_⟩, fun q => ⟨iX (by omega) (by rw [rowB_len]; omega), iI (by omega) (by omega), hrec _ ?_⟩⟩, fun r => absurd (show (k : Int) < (h.Writes.length : Int) by omega) r⟩) fun rec => ⟨fun r => absurd r (by show ¬ ((h.Writes.length : Int) < (h.Writes.length : Int)); omega), fun _ => ?_⟩
  · rw [ea] at q
    rw [ea, issP_at hz hk, rowB_put hk (b := decide (atN h.Events h.Events.length ⟨1, (a : Int)⟩ < atN h.Events h.Events.length ⟨0, (k : Int)⟩)) (decide_eq_decide.2 ⟨fun t => t.2, fun t => ⟨q, t⟩⟩)]; rfl
  · rw [ea] at q
    rw [rowB_put hk (b := false) (decide_eq_false fun t => q t.1)]; rfl
  · subst ht
    rw [← tblK_succ]
    have l1 : (tblK h (a + 1)).length = a + 1 := tblK_len
    exact ⟨⟨by rw [l1]; omega, by rw [l1]; unfold maxLen; omega⟩, iI (by omega) (by omega), hr⟩
theorem ref16_Table_ok {h : api_History} {Φ : List (List Bool) → Prop} (hh : SmallH h) (hz : histE h = 0) (hΦ : Φ (tblH h)) : ref16_Table_W h Φ := by
  have hw := hist_wr hz
  have hev := hh.ev
  refine ⟨by omega, ⟨by rw [Int.toNat_natCast]; omega, by rw [Int.toNat_natCast]; unfold maxLen; omega⟩, by omega, ⟨by rw [Int.toNat_natCast]; omega, by rw [Int.toNat_natCast]; unfold maxLen; omega⟩, ?_⟩
  rw [Int.toNat_natCast, fullL_zero (a := -1)]
  refine LoopW.upT h.Writes.length (fun k => ((k : Int), fullL h.Writes.length k (-1) 0)) rfl (fun k rec hk hrec => ⟨fun _ => ⟨iX (by omega) (by rw [fullL_len]; omega), iI (by omega) (by omega), hrec _ (by rw [fullL_put hk]; rfl)⟩, fun r => absurd (show (k : Int) < (h.Writes.length : Int) by omega) r⟩) fun rec => ⟨fun r => absurd r (by show ¬ ((h.Writes.length : Int) < (h.Writes.length : Int)); omega), fun _ => ?_⟩
  rw [fullL_all, Int.toNat_natCast]
  refine LoopW.upT h.Events.length (fun k => ((k : Int), relL h.Events 1 h.Writes.length (-1) k, relL h.Events 0 h.Writes.length 0 k)) (by rw [relL_zero, relL_zero]; rfl) (fun k rec hk hr => ⟨fun _ => ⟨iX (by omega) (by omega), fun q => ?_, fun q => ?_⟩, fun r => absurd (show (k : Int) < (h.Events.length : Int) by omega) r⟩) fun rec => ⟨fun r => absurd r (by show ¬ ((h.Events.length : Int) < (h.Events.length : Int)); omega), fun _ => ?_⟩
  · have q' : (ix h.Events (k : Int)).Kind ≠ 0 := by rw [q]; decide
    obtain ⟨w, e1, e2, e3, e4⟩ := (ev_put hz (N := -1) hk).2 q'
    obtain ⟨_, _, _, _, e5⟩ := (ev_put hz (N := 0) hk).2 q'
    refine ⟨iX (by omega) (by omega), iX (by rw [e1]; omega) (by rw [e1, relL_len]; omega), iI (by omega) (by omega), hr _ ?_⟩
    rw [e1, e3, e5]; rfl
  · have q' : (ix h.Events (k : Int)).Kind = 0 := by
      by_cases z : (ix h.Events (k : Int)).Kind = 0
      · exact z
      · have e := (evErr_ack (hist_ev hz hk) z).1
        rw [e] at q; exact absurd rfl q
    obtain ⟨w, e1, e2, e3, e4⟩ := (ev_put hz (N := 0) hk).1 q'
    obtain ⟨_, _, _, _, e5⟩ := (ev_put hz (N := -1) hk).1 q'
    refine ⟨iX (by omega) (by omega), iX (by rw [e1]; omega) (by rw [e1, relL_len]; omega), iI (by omega) (by omega), hr _ ?_⟩
    rw [e1, e3, e5]; rfl
  · refine LoopW.upT h.Writes.length (fun k => ((k : Int), tblK h k)) rfl (fun k rec hk hrec => ⟨fun _ => ⟨by omega, ⟨by rw [Int.toNat_natCast]; omega, by rw [Int.toNat_natCast]; unfold maxLen; omega⟩, ?_⟩, fun r => absurd (show (k : Int) < (h.Writes.length : Int) by omega) r⟩) fun rec => ⟨fun r => absurd r (by show ¬ ((h.Writes.length : Int) < (h.Writes.length : Int)); omega), fun _ => hΦ⟩
    rw [Int.toNat_natCast]
    exact table_L4 hz hk rfl (hrec _ rfl)
theorem ref16_right_ok {h : api_History} {l : List Int} {Φ : Int → Prop} (hh : SmallH h) (hl : l.length ≤ 1000000) (k0 : histE h ≠ 0 → Φ (histE h)) (k1 : histE h = 0 → isSetB l (h.Writes.length : Int) = false → Φ 2) (k2 : histE h = 0 → isSetB l (h.Writes.length : Int) = true → Φ 0) : ref16_right_W h l Φ :=
  ref15_Check_ok hh ⟨fun q => k0 q, fun q => ref15_Set_ok hl ⟨fun r => k1 (Classical.not_not.1 q) (Bool.eq_false_iff.2 r), fun r => k2 (Classical.not_not.1 q) (Classical.not_not.1 r)⟩⟩
def lowKI (h : api_History) (l : List Int) (a i : Nat) : Bool := decide ((a : Int) ∈ l) || (l.take i).any fun b => befP h a b.toNat
theorem lowKI_succ {h : api_History} {l : List Int} {a i : Nat} (hi : i < l.length) : lowKI h l a (i + 1) = (lowKI h l a i || befP h a (ix l (i : Int)).toNat) := by
  unfold lowKI
  rw [take_ix hi, List.any_append, List.any_cons, List.any_nil, Bool.or_false, Bool.or_assoc]
theorem lowKI_all {h : api_History} (hz : histE h = 0) {l : List Int} (hl : isSetB l (h.Writes.length : Int) = true) {a : Nat} (ha : a < h.Writes.length) : lowKI h l a l.length = lowC h l a := by
  unfold lowKI lowC
  rw [List.take_length]
  congr 1
  rw [Bool.eq_iff_iff, List.any_eq_true, List.any_eq_true]
  constructor
  · rintro ⟨x, hx, hf⟩
    have := isSetB_mem hl hx
    exact ⟨x, hx, by rw [befC_eq hz ha (by omega)]; exact hf⟩
  · rintro ⟨x, hx, hf⟩
    have := isSetB_mem hl hx
    exact ⟨x, hx, by rw [← befC_eq hz ha (by omega)]; exact hf⟩
theorem sel_room {n k : Nat} {p : Nat → Bool} (hk : k < n) (hn : n ≤ 4096) : lenOk (selL k p ++ ([(k : Int)] : List Int)).length 8 := by
  have := selL_len (n := k) (p := p)
  refine ⟨?_, ?_⟩
  · rw [List.length_append, List.length_singleton]; omega
  · rw [List.length_append, List.length_singleton]; unfold maxLen; omega
theorem ref16_Least_ok {h : api_History} {l : List Int} {Φ : List Int × Int → Prop} (hh : SmallH h) (hl : l.length ≤ 1000000) (hΦ : Φ (leastR h l)) : ref16_Least_W h l Φ := by
  unfold leastR at hΦ
  refine ref16_right_ok hh hl (fun q => ⟨fun _ => by rw [if_pos q] at hΦ; exact hΦ, fun r => absurd q r⟩) (fun hz q => ⟨fun _ => by rw [if_neg (fun t => t hz), if_pos q] at hΦ; exact hΦ, fun r => absurd (by decide) r⟩) fun hz hs => ⟨fun r => absurd rfl r, fun _ => ?_⟩
  rw [if_neg (fun t => t hz), if_neg (by rw [hs]; simp)] at hΦ
  have hw := hist_wr hz
  have ll := isSetB_le hs (by omega)
  refine ref16_Table_ok hh hz ?_
  refine LoopW.upT h.Writes.length (fun k => ((k : Int), selL k (lowC h l))) rfl (fun a rec ha hrec => ⟨fun _ => ref15_Has_ok hl ?_, fun r => absurd (show (a : Int) < (h.Writes.length : Int) by omega) r⟩) fun rec => ⟨fun r => absurd r (by show ¬ ((h.Writes.length : Int) < (h.Writes.length : Int)); omega), fun _ => by rw [leastC_sel hs] at hΦ; exact hΦ⟩
  have z0 : decide ((a : Int) ∈ l) = lowKI h l a 0 := by unfold lowKI; rw [List.take_zero, List.any_nil, Bool.or_false]
  rw [z0]
  refine LoopW.upT l.length (fun i => (lowKI h l a i, (i : Int))) rfl (fun i rec2 hi hrec2 => ⟨fun _ => ⟨fun q => ⟨iI (by omega) (by omega), hrec2 _ ?_⟩, fun q => ?_⟩, fun r => absurd (show (i : Int) < (l.length : Int) by omega) r⟩) fun rec2 => ⟨fun r => absurd r (by show ¬ ((l.length : Int) < (l.length : Int)); omega), fun _ => ⟨fun q => ?_, fun q => ?_⟩⟩
  · rw [lowKI_succ hi, q]; rfl
  · have m := isSetB_at hs hi
    have e : ((ix l (i : Int)).toNat : Int) = ix l (i : Int) := Int.toNat_of_nonneg m.1
    have t1 : (ix (tblH h) (a : Int)).length = h.Writes.length := by rw [ix_tblH ha, rowB_len]
    have t0 : (tblH h).length = h.Writes.length := tblK_len
    refine ⟨iX (by omega) (by omega), iX (by omega) (by omega), iX m.1 (by omega), iI (by omega) (by omega), hrec2 _ ?_⟩
    rw [lowKI_succ hi, Bool.eq_false_iff.2 q, Bool.false_or, ← e, ix_tbl ha (by omega), e]; rfl
  · rw [lowKI_all hz hs ha] at q
    refine ⟨sel_room ha hw, iI (by omega) (by omega), hrec _ ?_⟩
    rw [selL_succ, if_pos q]; rfl
  · rw [lowKI_all hz hs ha] at q
    refine ⟨iI (by omega) (by omega), hrec _ ?_⟩
    rw [selL_succ, if_neg q, List.append_nil]; rfl
theorem ref07_New_ok {l : List Int} {Φ : List (List Sec) × Int → Prop} (q : sizesE l = 0) (hΦ : Φ (zeroI l, 0)) : ref07_New_W l Φ := by
  refine ref07_Sizes_ok ⟨fun r => absurd q r, fun _ => ?_⟩
  have hl := sizesE_len q
  refine LoopW.upT l.length (fun k => ((k : Int), (l.take k).map fun n => List.replicate n.toNat sec0)) rfl (fun k rec hk hr => ?_) fun rec => ⟨fun r => absurd r (by omega), fun _ => by rw [take_all]; exact hΦ⟩
  have := sizesE_ix q hk
  exact ⟨fun _ => ⟨iX (by omega) (by omega), by omega, iL (by omega) (by omega), iL (by rw [len_snoc, List.length_map, lenT (by omega)]; omega) (by omega), iI (by omega) (by omega), hr _ (by rw [map_take_snoc _ hk]; rfl)⟩, fun r => absurd (show (k : Int) < (l.length : Int) by omega) r⟩
theorem ref07_CopyE_ok {im : List (List Sec)} {Φ : List (List Sec) → Prop} (h : imgE im = 0) (hΦ : Φ im) : ref07_CopyE_W im Φ := by
  have hl := sizesE_len h
  rw [szs_len] at hl
  refine LoopW.upT im.length (fun k => (im.take k, (k : Int))) rfl (fun k rec hk hr => ?_) fun rec => ⟨fun r => absurd r (by omega), fun _ => by rw [take_all]; exact hΦ⟩
  have := szs_small h k hk
  exact ⟨fun _ => ⟨iX (by omega) (by omega), iL (by rw [List.nil_append]; omega) (by omega), iL (by rw [len_snoc, lenT (by omega)]; omega) (by omega), iI (by omega) (by omega), hr _ (by rw [take_ix hk]; rfl)⟩, fun r => absurd (show (k : Int) < (im.length : Int) by omega) r⟩
theorem ref07_Fits_ok {im : List (List Sec)} {w : api_Write} {Φ : Int → Prop} (hs : imgE im = 0) (hd : w.Data.length ≤ 1000000) (hΦ : Φ (fitW (szs im) w)) : ref07_Fits_W im w Φ := by
  have hl := sizesE_len hs
  rw [szs_len] at hl
  exact ref07_Check_ok (by omega) ⟨fun q => absurd hs q, fun _ => ⟨_, ref07_SizesOf_ok (by omega) rfl, _, ref07_FitsSizes_ok hd (fun k hk => by
    have := sizesE_ix (l := szs im) hs hk
    show ix (szs im) (k : Int) ≤ 1000000; omega) rfl, hΦ⟩⟩
theorem ref07_Apply_ok {im : List (List Sec)} {l : List api_Write} {Φ : List (List Sec) × Int × Int → Prop} (hl : l.length ≤ 1000000) (hs : imgE im = 0) (hf : ∀ w ∈ l, fitW (szs im) w = 0) (hΦ : Φ (appL im l, 0, 0)) : ref07_Apply_W im l Φ := by
  have h8 := sizesE_len hs
  rw [szs_len] at h8
  refine ref07_Check_ok (by omega) ⟨fun q => absurd hs q, fun _ => ref07_CopyE_ok hs ?_⟩
  refine LoopW.upT l.length (fun k => (appL im (l.take k), (k : Int))) rfl (fun k rec hk hr => ?_) fun rec => ⟨fun r => absurd r (by omega), fun _ => by rw [take_all]; exact hΦ⟩
  have hw := hf _ (ix_mem (iX (i := (k : Int)) (n := l.length) (by omega) (by omega)))
  have e := szs_takeL hs hf k
  have hs' : imgE (appL im (l.take k)) = 0 := by unfold imgE; rw [e]; exact hs
  obtain ⟨v, s, hfw⟩ := fitW_of (by rw [show sizesE (szs im) = 0 from hs]; simp) hw
  have hv := hfw.hv
  have hle := hfw.le
  rw [← e, szs_len] at hv
  rw [← e, ix_szs hv] at hle
  have ev := hfw.vol
  have es := hfw.start
  have hsm := szs_small hs' v hv
  refine ⟨fun _ => ⟨iX (by omega) (by omega), ref07_Fits_ok hs (by have := fit_data (show sizesE (szs im) = 0 from hs) hw; omega) ?_⟩, fun r => absurd (show (k : Int) < (l.length : Int) by omega) r⟩
  rw [hw]
  refine ⟨fun q => absurd rfl q, fun _ => ?_⟩
  have happ : appL im (l.take (k + 1)) = put (appL im (l.take k)) (v : Int) (paste (ix (appL im (l.take k)) (v : Int)) (s : Int) (ix l (k : Int)).Data) := by rw [appL_take hk]; unfold apply1; rw [ev, es]
  have hrr : ∀ x, x = appL im (l.take (k + 1)) → rec (x, (k : Int) + 1) := fun x hx => hr _ (by rw [hx]; rfl)
  generalize appL im (l.take k) = X at hv hle happ hsm ⊢
  refine LoopW.upT (ix l (k : Int)).Data.length (fun m => (put X (v : Int) (paste (ix X (v : Int)) (s : Int) ((ix l (k : Int)).Data.take m)), (m : Int))) ?_ (fun m rec2 hm hr2 => ?_) fun rec2 => ⟨fun r => absurd r (by omega), fun _ => ⟨iI (by omega) (by omega), hrr _ ?_⟩⟩
  · rw [show (ix l (k : Int)).Data.take 0 = [] from rfl, paste_nil (by omega), put_ix (iX (by omega) (by omega))]; rfl
  · have hpl : (put X (v : Int) (paste (ix X (v : Int)) (s : Int) ((ix l (k : Int)).Data.take m))).length = X.length := put_len _ _ _
    have hix : ix (put X (v : Int) (paste (ix X (v : Int)) (s : Int) ((ix l (k : Int)).Data.take m))) (v : Int) = paste (ix X (v : Int)) (s : Int) ((ix l (k : Int)).Data.take m) := ix_put_self _ (iX (by omega) (by omega))
    have hpr : (paste (ix X (v : Int)) (s : Int) ((ix l (k : Int)).Data.take m)).length = (ix X (v : Int)).length := paste_len' (by omega)
    unfold ref07_Apply_L2
    rw [ev, es]
    refine ⟨fun hmlt => ⟨iX (by omega) (by omega), iI (by omega) (by omega), iX (by omega) hmlt, iX (by omega) (by rw [hix, hpr]; omega), iI (by omega) (by omega), hr2 _ ?_⟩, fun r => absurd (show (m : Int) < ((ix l (k : Int)).Data.length : Int) by omega) r⟩
    rw [hix, put_put, paste_step (by omega) (by omega)]; rfl
  · rw [List.take_length, happ]
theorem setWr_take {h : api_History} {l : List Int} {k : Nat} (hk : k < l.length) : (setWr h l).take (k + 1) = (setWr h l).take k ++ [ix h.Writes (ix l (k : Int))] := by
  unfold setWr
  rw [← List.map_take, ← List.map_take, take_ix hk, List.map_append]; rfl
theorem ref15_Image_ok {h : api_History} {l : List Int} {Φ : List (List Sec) × Int → Prop} (hh : SmallH h) (hz : histE h = 0) (hb : isSetB l (h.Writes.length : Int) = true) (hΦ : Φ (imgH h l, 0)) : ref15_Image_W h l Φ := by
  have hw := hist_wr hz
  have ll := isSetB_le hb (by omega)
  have hs := (histE_zero hz).1
  have e := szs_zeroI hs
  refine ref15_Check_ok hh ⟨fun q => absurd hz q, fun _ => ref15_Set_ok (by omega) ⟨fun r => absurd hb r, fun _ => ref07_New_ok hs ?_⟩⟩
  have sl : (setWr h l).length = l.length := by unfold setWr; rw [List.length_map]
  refine LoopW.upT l.length (fun k => ((k : Int), (setWr h l).take k)) rfl (fun k rec hk hr => ?_) fun rec => ⟨fun r => absurd r (by omega), fun _ => ?_⟩
  · have m := isSetB_at hb hk
    refine ⟨fun _ => ⟨iX (by omega) (by omega), iX m.1 m.2.1, ?_, iI (by omega) (by omega), hr _ (by rw [setWr_take hk]; rfl)⟩, fun r => absurd (show (k : Int) < (l.length : Int) by omega) r⟩
    exact iL (by rw [len_snoc, List.length_take]; omega) (by omega)
  · have ef : (setWr h l).take l.length = setWr h l := by rw [← sl, List.take_length]
    rw [ef]
    exact ref07_Apply_ok (by omega) (by unfold imgE; rw [e]; exact hs) (fun w hw2 => by rw [e]; exact setWr_fit hz hb w hw2) hΦ
theorem cont_has {w : api_Write} {v s : Int} {x : Sec} : ((contC w v s).2 = true → decide ((contC w v s).1 = x) = hasC w v s x) ∧ (¬ (contC w v s).2 = true → hasC w v s x = false) := by
  refine ⟨fun t => ?_, fun t => ?_⟩
  · have t := contC_true.1 t
    rw [contC_val t]
    exact decide_eq_decide.2 ⟨fun u => ⟨t, u⟩, fun u => u.2⟩
  · exact decide_eq_false fun u => t (contC_true.2 u.1)
theorem ref18_author_ok {h : api_History} {v s : Int} {x : Sec} {Φ : Int → Prop} (hz : histE h = 0) (hs : s ≤ 10000000) (hΦ : Φ (autC h v s x)) : ref18_author_W h v s x Φ := by
  have hw := hist_wr hz
  refine LoopW.idxL h.Writes.length (fun i => hasC (wr h i) v s x) hΦ (fun i rec hi ht hf => ⟨fun _ => ⟨iX (by omega) (by omega), ?_⟩, fun r => absurd (show (i : Int) < (h.Writes.length : Int) by omega) r⟩) fun rec h0 => ⟨fun r => absurd r (by omega), fun _ => h0⟩
  have fi := hist_fit hz hi
  have cc := cont_has (w := wr h i) (v := v) (s := s) (x := x)
  have go : ∀ b, hasC (wr h i) v s x = b → ref18_author_J2 (i : Int) rec Φ b := fun b e => ⟨fun u => ht (e.trans u), fun u => ⟨iI (by omega) (by omega), hf (e.trans (Bool.eq_false_iff.2 u))⟩⟩
  exact ref18_Content_ok fi.2.2.2.1 (by show (wr h i).Start ≤ 1000000; omega) (by show (wr h i).Data.length ≤ 1000000; omega) hs ⟨fun t => go _ (cc.1 t).symm, fun t => go _ (cc.2 t)⟩
theorem ref18_right_ok {h : api_History} {im : List (List Sec)} {Φ : Int → Prop} (hh : SmallH h) (hl : im.length ≤ 100000) (hΦ : Φ (rgtE h im)) : ref18_right_W h im Φ := by
  unfold rgtE at hΦ
  refine ref15_Check_ok hh ⟨fun q => by rw [if_pos q] at hΦ; exact hΦ, fun q => ?_⟩
  rw [if_neg q] at hΦ
  have hz : histE h = 0 := Classical.not_not.1 q
  refine ref07_Check_ok hl ⟨fun q => by rw [if_pos q] at hΦ; exact hΦ, fun q2 => ?_⟩
  rw [if_neg q2] at hΦ
  refine ⟨_, ref07_SizesOf_ok hl rfl, _, ref15_SameInts_ok (by rw [szs_len]; omega) rfl, fun r => ?_, fun r => ?_⟩
  · have r : ¬ szs im = h.Sizes := fun t => r (decide_eq_true t)
    rw [if_pos r] at hΦ; exact hΦ
  · have r : szs im = h.Sizes := of_decide_eq_true (Classical.not_not.1 r)
    rw [if_neg (fun t => t r)] at hΦ
    have ed : distH h = distB h := by unfold distH; rw [decide_eq_true hz, Bool.true_and]
    refine ref18_Distinct_ok hh ⟨fun t => ?_, fun t => ?_⟩
    · rw [if_pos (by rw [← ed]; exact Bool.eq_false_iff.2 t)] at hΦ; exact hΦ
    · rw [if_neg (by rw [← ed]; exact fun u => t (by rw [u]; simp))] at hΦ; exact hΦ
def canR (h : api_History) (im : List (List Sec)) : List Int × api_Write × Bool := if 0 ≤ unkV h im then ([], cflW h im, false) else (lowH h im, cflW h im, true)
theorem cand_dif {h : api_History} {im : List (List Sec)} {Φ : List Int × api_Write × Bool → Prop} (hz : histE h = 0) (hi : imgE im = 0) (hs : szs im = h.Sizes)
    (kD : ∀ v k : Nat, difV h im = (v : Int) → difK h im = (k : Int) → Φ (lowH h im, oneWr (v : Int) (k : Int) (sec (ximH h im) v k), true))
    (kN : difV h im = -1 → Φ (lowH h im, noW, true)) : LoopW (ref18_candidate_L4 im (lowH h im, 0) (ximH h im, 0) Φ) 0 := by
  have ⟨el, es, en, sv0⟩ := xim_fact hz hi hs
  refine nestN (inn := fun v rec => ref18_candidate_L5 im (lowH h im, 0) (ximH h im, 0) (v : Int) rec Φ) im.length (szN im) (difB (ximH h im) im) (fun v rec hv hl => ⟨fun _ => hl, fun r => absurd (show (v : Int) < (im.length : Int) by omega) r⟩) ?_ ?_ ?_
  · intro v k rec rec' hv hk hp hq hr
    have e1 := en v hv
    have sv := sv0 v hv
    have hk' : k < (ix im (v : Int)).length := hk
    have x1 : inX (v : Int) (ximH h im).length := iX (by omega) (by omega)
    have x2 : inX (k : Int) (ix (ximH h im) (v : Int)).length := iX (by omega) (by omega)
    have x3 : inX (v : Int) im.length := iX (by omega) (by omega)
    have x4 : inX (k : Int) (ix im (v : Int)).length := iX (by omega) (by omega)
    refine ⟨x3, fun _ => ⟨x1, x2, x3, x4, fun q => ⟨x1, x2, ?_⟩, fun q => ⟨iI (by omega) (by omega), hr (decide_eq_false fun t => q t)⟩⟩, fun r => absurd (show (k : Int) < ((ix im (v : Int)).length : Int) by omega) r⟩
    have hh := fst_hit hv hk hp hq (decide_eq_true q)
    exact kD v k hh.1 hh.2
  · intro v rec rec' hv hr
    have sv := sv0 v hv
    exact ⟨iX (by omega) (by omega), fun r => absurd r (by show ¬ ((szN im v : Int) < ((ix im (v : Int)).length : Int)); unfold szN; omega), fun _ => ⟨iI (by omega) (by omega), hr⟩⟩
  · intro rec hp
    have nd : difV h im = -1 := fst_none hp
    exact ⟨fun r => absurd r (by omega), fun _ => kN nd⟩
theorem cand_ned {h : api_History} {im : List (List Sec)} {Φ : List Int × api_Write × Bool → Prop} {rq : List Bool} (hh : SmallH h) (hz : histE h = 0) (hi : imgE im = 0) (hs : szs im = h.Sizes)
    (hn : rq.length = h.Writes.length) (hm : ∀ w, w < h.Writes.length → (ix rq (w : Int) = true ↔ needB h im w = true))
    (kD : ∀ v k : Nat, difV h im = (v : Int) → difK h im = (k : Int) → Φ (lowH h im, oneWr (v : Int) (k : Int) (sec (ximH h im) v k), true))
    (kN : difV h im = -1 → Φ (lowH h im, noW, true)) : LoopW (ref18_candidate_L3 h im rq Φ) (0, []) := by
  have hw := hist_wr hz
  refine LoopW.upT h.Writes.length (fun k => ((k : Int), selL k (needB h im))) rfl (fun k rec hk hr => ⟨fun _ => ⟨iX (by omega) (by omega), fun q => ?_, fun q => ⟨iI (by omega) (by omega), hr _ ?_⟩⟩, fun r => absurd (show (k : Int) < (rq.length : Int) by omega) r⟩) fun rec => ⟨fun r => absurd r (by omega), fun _ => ?_⟩
  · refine ⟨sel_room hk hw, iI (by omega) (by omega), hr _ ?_⟩
    rw [selL_succ, if_pos ((hm k hk).1 q)]; rfl
  · rw [selL_succ, if_neg fun t => q ((hm k hk).2 t), List.append_nil]; rfl
  · have sl := selL_len (n := h.Writes.length) (p := needB h im)
    have er : leastR h (needL h im) = (lowH h im, 0) := by
      unfold leastR
      rw [if_neg (fun t => t hz), if_neg (by rw [needL_set]; simp)]; rfl
    refine ref16_Least_ok hh (by omega) ?_
    have go : ref15_Image_W h (lowH h im) fun v9 => LoopW (ref18_candidate_L4 im (lowH h im, 0) v9 Φ) 0 := ref15_Image_ok hh hz lowH_set (cand_dif hz hi hs kD kN)
    rw [← show (leastR h (selL h.Writes.length (needB h im))) = (lowH h im, 0) from er] at go
    have e1 : (leastR h (selL h.Writes.length (needB h im))).1 = lowH h im := by rw [show (leastR h (selL h.Writes.length (needB h im))) = (lowH h im, 0) from er]
    rw [e1]; exact go
theorem ref18_candidate_ok {h : api_History} {im : List (List Sec)} {Φ : List Int × api_Write × Bool → Prop} (hh : SmallH h) (hz : histE h = 0) (hi : imgE im = 0) (hs : szs im = h.Sizes) (hΦ : Φ (canR h im)) : ref18_candidate_W h im Φ := by
  have hw := hist_wr hz
  have sm := fit_small (im := im) (by rw [show sizesE (szs im) = 0 from hi]; simp)
  refine ⟨by omega, ⟨by rw [Int.toNat_natCast]; omega, by rw [Int.toNat_natCast]; unfold maxLen; omega⟩, ?_⟩
  rw [Int.toNat_natCast]
  unfold canR cflW at hΦ
  refine nestS (inn := fun v rec => ref18_candidate_L2 h im (v : Int) rec Φ) im.length (szN im) (unkB h im) (fun v k rq => rq.length = h.Writes.length ∧ ∀ w : Nat, w < h.Writes.length → (ix rq (w : Int) = true ↔ NeedBy h im v k w)) ⟨List.length_replicate, fun w hw => by
    rw [ix_get (by rw [List.length_replicate]; exact hw), List.getElem_replicate]
    exact ⟨fun t => Bool.noConfusion t, fun t => absurd t NeedBy.zero⟩⟩
    (fun v a hv ha => ⟨ha.1, fun w hw => (ha.2 w hw).trans NeedBy.row.symm⟩) (fun v a rec hv hl => ⟨fun _ => hl, fun r => absurd (show (v : Int) < (im.length : Int) by omega) r⟩) ?_ ?_ ?_
  · intro v k rq rec rec' hv hk hp hq hI hr
    have sv := (sm.2.2 v hv).2
    have hk' : k < (ix im (v : Int)).length := hk
    have x3 : inX (v : Int) im.length := iX (by omega) (by omega)
    have x4 : inX (k : Int) (ix im (v : Int)).length := iX (by omega) (by omega)
    refine ⟨x3, fun _ => ⟨x3, x4, fun z => ⟨iI (by omega) (by omega), hr ?_ rq ⟨hI.1, fun w hw => (hI.2 w hw).trans (NeedBy.skip z).symm⟩⟩, fun z => ⟨x3, x4, _, ref18_author_ok hz (by omega) rfl, fun q => ⟨x3, x4, ?_⟩, fun q => ?_⟩⟩, fun r => absurd (show (k : Int) < ((ix im (v : Int)).length : Int) by omega) r⟩
    · unfold unkB
      rw [decide_eq_false (fun t => t z)]; rfl
    · have hb : unkB h im v k = true := by
        unfold unkB
        rw [Bool.and_eq_true, decide_eq_true_iff, decide_eq_true_iff]
        exact ⟨z, q⟩
      have ⟨e1, e2⟩ := fst_hit hv hk hp hq hb
      have e1 : unkV h im = (v : Int) := e1
      have e2 : unkK h im = (k : Int) := e2
      rw [e1, e2, if_pos (by omega), if_pos (by omega)] at hΦ
      exact hΦ
    · have q1 : ¬ autC h (v : Int) (k : Int) (sec im v k) < 0 := q
      rcases autC_cases h (v : Int) (k : Int) (sec im v k) with ⟨a, _⟩ | ⟨i, hi2, a, _⟩
      · omega
      · show inX (autC h (v : Int) (k : Int) (sec im v k)) rq.length ∧ inI ((k : Int) + 1) ∧ rec' ((k : Int) + 1, put rq (autC h (v : Int) (k : Int) (sec im v k)) true)
        rw [a]
        refine ⟨iX (by omega) (by rw [hI.1]; omega), iI (by omega) (by omega), hr ?_ _ ⟨by rw [put_len]; exact hI.1, fun w hw => ?_⟩⟩
        · unfold unkB
          rw [decide_eq_false q1, Bool.and_false]
        · rw [ix_put _ _ (by rw [hI.1]; exact hi2), NeedBy.take z, ← hI.2 w hw, a]
          by_cases e : w = i
          · rw [if_pos e, e]; exact ⟨fun _ => .inr rfl, fun _ => rfl⟩
          · rw [if_neg e]; exact ⟨.inl, fun t => t.elim id fun u => absurd (Int.ofNat.inj u).symm e⟩
  · intro v a rec rec' hv hr
    have sv := (sm.2.2 v hv).2
    exact ⟨iX (by omega) (by omega), fun r => absurd r (by show ¬ ((szN im v : Int) < ((ix im (v : Int)).length : Int)); unfold szN; omega), fun _ => ⟨iI (by omega) (by omega), hr⟩⟩
  · intro rq rec hp hI
    have nu : unkV h im = -1 := fst_none hp
    rw [if_neg (by omega), if_neg (by omega)] at hΦ
    refine ⟨fun r => absurd r (by omega), fun _ => cand_ned hh hz hi hs hI.1 (fun w hw => (hI.2 w hw).trans NeedBy.all) (fun v k e1 e2 => ?_) fun e1 => ?_⟩
    · rw [e1, e2, if_pos (by omega)] at hΦ; exact hΦ
    · rw [if_neg (by omega)] at hΦ; exact hΦ
theorem rgtE_zero {h : api_History} {im : List (List Sec)} (e : rgtE h im = 0) : histE h = 0 ∧ imgE im = 0 ∧ szs im = h.Sizes ∧ distB h = true := by
  unfold rgtE at e
  by_cases q : histE h ≠ 0
  · rw [if_pos q] at e; exact absurd e q
  rw [if_neg q] at e
  by_cases q2 : imgE im ≠ 0
  · rw [if_pos q2] at e; exact absurd e q2
  rw [if_neg q2] at e
  by_cases q3 : szs im ≠ h.Sizes
  · rw [if_pos q3] at e; exact absurd e (by decide)
  rw [if_neg q3] at e
  by_cases q4 : distB h = false
  · rw [if_pos q4] at e; exact absurd e (by decide)
  · exact ⟨Classical.not_not.1 q, Classical.not_not.1 q2, Classical.not_not.1 q3, Bool.of_not_eq_false q4⟩
theorem consistency_Find_ok {h : api_History} {im : List (List Sec)} {Φ : List Int × Bool × Int → Prop} (hh : SmallH h) (hl : im.length ≤ 100000) (hΦ : Φ (findR h im)) : consistency_Find_W h im Φ := by
  unfold findR at hΦ
  refine find_jdg hh hl (fun q => by rw [if_pos q] at hΦ; exact hΦ) fun hz hi hs hd m hm => ?_
  have e0 : rgtE h im = 0 := by unfold rgtE; rw [if_neg (fun t => t hz), if_neg (fun t => t hi), if_neg (fun t => t hs), if_neg (by rw [hd]; simp)]
  rw [if_neg (fun t => t e0)] at hΦ
  unfold cflB at hΦ
  refine find_unk hh hz hi hs hm (fun v k mm _ _ e1 e2 _ => ⟨fun _ => ⟨fun r => absurd rfl r, fun _ => ⟨fun _ => ?_, fun r => absurd rfl r⟩⟩, fun r => absurd rfl r⟩) (fun n v k _ _ e1 e2 _ => ⟨fun r => absurd rfl r, fun _ => ⟨fun _ => ?_, fun r => absurd rfl r⟩⟩) fun n d => ⟨fun r => absurd rfl r, fun _ => ⟨fun r => Bool.noConfusion r, fun _ => ?_⟩⟩
  · rw [if_pos (decide_eq_true (.inl (by omega)))] at hΦ; exact hΦ
  · rw [if_pos (decide_eq_true (.inr (by omega)))] at hΦ; exact hΦ
  · rw [if_neg (by rw [decide_eq_false (by omega)]; simp)] at hΦ; exact hΦ
theorem ref07_Few_ok {im : List (List Sec)} {Φ : Bool → Prop} (hF : Φ false) (hT : im.length ≤ 9 → Φ true) : ref07_Few_W im Φ := by
  refine ⟨fun _ => hF, fun h9 => ?_⟩
  exact LoopW.upT im.length (fun k => (k : Int)) rfl (fun k rec hk hr => ⟨fun hlt => ⟨iX (by omega) hlt, fun _ => hF, fun q => ⟨iI (by omega) (by omega), hr _ rfl⟩⟩, fun r => absurd (show (k : Int) < (im.length : Int) by omega) r⟩) fun rec => ⟨fun r => absurd r (by omega), fun _ => hT (by omega)⟩
theorem law18_few_ok {h : api_History} {im : List (List Sec)} {Φ : Bool → Prop} (hF : Φ false) (hT : SmallH h → h.Writes.length ≤ 40 → im.length ≤ 9 → Φ true) : law18_few_W h im Φ :=
  ref15_Few_ok ⟨fun q => by
    have hf := fewH_small q
    exact ref07_Few_ok hF fun h9 => hT hf.1 hf.2 h9, fun _ => hF⟩
theorem allN_succ {p : Nat → Bool} {k : Nat} : allN p (k + 1) = (allN p k && p k) := by
  unfold allN
  rw [List.range_succ, List.all_append, List.all_cons, List.all_nil, Bool.and_true]
theorem great_relate {h : api_History} {l : List Int} {Φ : List Int × Int → Prop} (hh : SmallH h) (hz : histE h = 0) (he : LoopW (cut_Greatest_L3 h l (issW h) (ackW h) Φ) (0, [])) :
    LoopW (cut_Greatest_L2 h l Φ) (0, List.replicate h.Writes.length (h.Events.length : Int), List.replicate h.Writes.length (h.Events.length : Int)) := by
  have hev := hh.ev
  refine LoopW.upT h.Events.length (fun k => ((k : Int), relL h.Events 0 h.Writes.length h.Events.length k, relL h.Events 1 h.Writes.length h.Events.length k)) (by rw [relL_zero, relL_zero]; rfl) (fun k rec hk hr => ⟨fun _ => ⟨iX (by omega) (by omega), fun q => ?_, fun q => ?_⟩, fun r => by omega⟩) fun rec => ⟨fun r => by omega, fun _ => ⟨fun r => absurd rfl r, fun _ => he⟩⟩
  · obtain ⟨w, e1, e2, e3, e4⟩ := (ev_put hz (N := (h.Events.length : Int)) hk).1 q
    refine ⟨iX (by rw [e1]; omega) (by rw [e1, relL_len]; omega), iI (by omega) (by omega), hr _ ?_⟩
    rw [e1, e3, e4]; rfl
  · obtain ⟨w, e1, e2, e3, e4⟩ := (ev_put hz (N := (h.Events.length : Int)) hk).2 q
    refine ⟨iX (by rw [e1]; omega) (by rw [e1, relL_len]; omega), iI (by omega) (by omega), hr _ ?_⟩
    rw [e1, e3, e4]; rfl
def goodB (h : api_History) (ms : List Bool) (b : Nat) (k : Nat) : Bool := allN (fun a => ix ms (a : Int) || !befC h a b) k
def trimL (h : api_History) (ms o : List Bool) (b k : Nat) : List Bool := put o (b : Int) (ix o (b : Int) && goodB h ms b k)
theorem trimL_len {h : api_History} {ms o : List Bool} {b k : Nat} : (trimL h ms o b k).length = o.length := put_len _ _ _
theorem great_L5 {h : api_History} {ms o : List Bool} {b : Nat} {rec4 : (List (Int × Unit) × List Bool) → Prop} {r : List (Int × Unit)} {Φ : List Int × Int → Prop} (hw : h.Writes.length ≤ 4096) (hm : ms.length = h.Writes.length) (ho : o.length = h.Writes.length) (hb : b < h.Writes.length) (hr : rec4 (r, trimL h ms o b h.Writes.length)) :
    LoopW (cut_Greatest_L5 h (issW h) (ackW h) [ms] rec4 ((b : Int), ()) r Φ) (0, o) := by
  have xb : ∀ q : List Bool, q.length = o.length → inX (b : Int) q.length := fun q e => iX (by omega) (by rw [e, ho]; omega)
  refine LoopW.upT h.Writes.length (fun k => ((k : Int), trimL h ms o b k)) (by
    show _ = ((0 : Int), put o (b : Int) (ix o (b : Int) && true))
    rw [Bool.and_true, put_ix (xb o rfl)]) (fun k rec hk hrec => ?_) fun rec => ⟨fun q => by omega, fun _ => hr⟩
  have hx : ix (trimL h ms o b k) (b : Int) = (ix o (b : Int) && goodB h ms b k) := ix_put_self _ (xb o rfl)
  have hi := xb _ (trimL_len (h := h) (ms := ms) (o := o) (b := b) (k := k))
  have st : ∀ c, (ix o (b : Int) && goodB h ms b (k + 1)) = c → put (trimL h ms o b k) (b : Int) c = trimL h ms o b (k + 1) := fun c e => by unfold trimL; rw [put_put, e]
  have gs : goodB h ms b (k + 1) = (goodB h ms b k && (ix ms (k : Int) || !befC h k b)) := allN_succ
  refine ⟨fun _ => ⟨hi, fun q => ⟨iX (by omega) (by show (0 : Int) < ((1 : Nat) : Int); omega), iX (by omega) (by show (k : Int) < (ms.length : Int); omega), fun q2 => ⟨hi, iI (by omega) (by omega), hrec _ ?_⟩, fun q2 => ⟨_, cut_before_ok hk hb rfl, hi, iI (by omega) (by omega), hrec _ ?_⟩⟩, fun q => ⟨hi, iI (by omega) (by omega), hrec _ ?_⟩⟩, fun q => by omega⟩
  · have q2 : ix ms (k : Int) = true := q2
    rw [hx] at q
    rw [st true (by rw [gs, q2, Bool.true_or, Bool.and_true]; exact q)]; rfl
  · have q2 : ix ms (k : Int) = false := Bool.eq_false_iff.2 q2
    rw [hx, Bool.and_eq_true] at q
    rw [st _ (show _ = decide (¬ (befC h k b = true)) by rw [gs, q2, q.1, q.2, Bool.false_or, Bool.true_and, Bool.true_and]; cases befC h k b <;> rfl)]; rfl
  · rw [hx] at q
    have q : (ix o (b : Int) && goodB h ms b k) = false := Bool.eq_false_iff.2 q
    rw [st false (by rw [gs, ← Bool.and_assoc, q, Bool.false_and])]; rfl
def trimsL (h : api_History) (ms : List Bool) (o : List Bool) : List (Int × Unit) → List Bool
  | [] => o
  | p :: l => trimsL h ms (trimL h ms o p.1.toNat h.Writes.length) l
theorem trimsL_len {h : api_History} {ms : List Bool} : ∀ {l : List (Int × Unit)} {o : List Bool}, (trimsL h ms o l).length = o.length
  | [], _ => rfl
  | _ :: l, _ => (trimsL_len (l := l)).trans trimL_len
theorem great_L4 {h : api_History} {ms : List Bool} {Φ : List Int × Int → Prop} (hw : h.Writes.length ≤ 4096) (hm : ms.length = h.Writes.length) : ∀ {l : List (Int × Unit)} {o : List Bool}, o.length = h.Writes.length → (∀ p ∈ l, 0 ≤ p.1 ∧ p.1 < (h.Writes.length : Int)) → Φ ((memL (trimsL h ms o l) 0).map Prod.fst, 0) → LoopW (cut_Greatest_L4 h (issW h) (ackW h) [ms] Φ) (l, o) := by
  intro l o ho hl hΦ
  refine LoopW.of_inv (fun s => s.2.length = h.Writes.length ∧ (∀ p ∈ s.1, 0 ≤ p.1 ∧ p.1 < (h.Writes.length : Int)) ∧ Φ ((memL (trimsL h ms s.2 s.1) 0).map Prod.fst, 0)) (fun s => s.1.length) ?_ ⟨ho, hl, hΦ⟩
  rintro ⟨l, o⟩ rec ⟨ho, hl, hΦ⟩ hrec
  cases l with
  | nil => exact marks_list_ok (by show o.length ≤ 1000000; have : o.length = h.Writes.length := ho; omega) hΦ
  | cons p l =>
    obtain ⟨b, u⟩ := p
    have hb := hl (b, u) List.mem_cons_self
    have e : ((b.toNat : Nat) : Int) = b := Int.toNat_of_nonneg hb.1
    have hq := great_L5 (Φ := Φ) (rec4 := rec) (r := l) (b := b.toNat) hw hm ho (by have : b < (h.Writes.length : Int) := hb.2; omega) (hrec _ ⟨trimL_len.trans ho, fun p hp => hl p (List.mem_cons_of_mem _ hp), hΦ⟩ (by show l.length < l.length + 1; omega))
    rw [e] at hq
    exact hq
theorem ix_trimsL {h : api_History} {ms : List Bool} {w : Nat} (hw : w < h.Writes.length) : ∀ {ps : List (Int × Unit)} {o : List Bool}, o.length = h.Writes.length → (∀ p ∈ ps, 0 ≤ p.1 ∧ p.1 < (h.Writes.length : Int)) → ix (trimsL h ms o ps) (w : Int) = (ix o (w : Int) && ps.all fun p => !decide (p.1.toNat = w) || goodB h ms w h.Writes.length)
  | [], o, _, _ => by show ix o _ = _; simp
  | p :: ps, o, ho, hp => by
    have hb := hp p List.mem_cons_self
    have := ix_trimsL (ms := ms) hw (ps := ps) (o := trimL h ms o p.1.toNat h.Writes.length) (trimL_len.trans ho) fun q hq => hp q (List.mem_cons_of_mem _ hq)
    show ix (trimsL h ms (trimL h ms o p.1.toNat h.Writes.length) ps) _ = _
    rw [this, List.all_cons, ← Bool.and_assoc]
    congr 1
    unfold trimL
    rw [ix_put _ _ (by omega)]
    by_cases q : w = p.1.toNat
    · rw [if_pos q, decide_eq_true q.symm, ← q]; rfl
    · rw [if_neg q, decide_eq_false (fun t => q t.symm), Bool.not_false, Bool.true_or, Bool.and_true]
theorem great_sel {h : api_History} {l : List Int} : (memL (trimsL h (markL h.Writes.length l) (markL h.Writes.length l) (memL (markL h.Writes.length l) 0)) 0).map Prod.fst = greatC h l := by
  rw [memL_sel, trimsL_len, markL_len]
  refine selL_congr fun w hw => ?_
  rw [ix_trimsL hw markL_len fun p hp => (mem_members.1 hp).2, ix_markL hw]
  unfold topC
  have eg : goodB h (markL h.Writes.length l) w h.Writes.length = allN (fun a => decide ((a : Int) ∈ l) || !befC h a w) h.Writes.length := allN_congr fun a ha => by rw [ix_markL ha]
  rw [eg]
  by_cases q : (w : Int) ∈ l
  · rw [decide_eq_true q, Bool.true_and, Bool.true_and, Bool.eq_iff_iff, List.all_eq_true]
    constructor
    · intro t
      have := t ((w : Int), ()) (mem_members.2 ⟨q, by show (0 : Int) ≤ (w : Int); omega, by show (w : Int) < (h.Writes.length : Int); omega⟩)
      rw [show (decide ((((w : Int), ()) : Int × Unit).1.toNat = w)) = true from decide_eq_true (Int.toNat_natCast w)] at this
      exact this
    · intro t p _
      rw [t, Bool.or_true]
  · rw [decide_eq_false q, Bool.false_and, Bool.false_and]
theorem cut_Greatest_ok {h : api_History} {l : List Int} {Φ : List Int × Int → Prop} (hh : SmallH h) (hl : l.length ≤ 1000000) (hΦ : Φ (greatR h l)) : cut_Greatest_W h l Φ := by
  unfold greatR at hΦ
  refine history_Check_ok hh ⟨fun q => ⟨fun _ => ⟨fun _ => by rw [if_pos q] at hΦ; exact hΦ, fun r => absurd q r⟩, fun r => absurd q r⟩, fun q => ?_⟩
  rw [if_neg q] at hΦ
  have hz : histE h = 0 := Classical.not_not.1 q
  have hw := hist_wr hz
  refine ⟨_, slices_Repeat_int_ok (by omega) rfl, _, slices_Repeat_int_ok (by omega) rfl, great_relate hh hz ⟨2, ?_⟩⟩
  refine ⟨fun _ => ⟨iX (by omega) (by show (0 : Int) < 1; omega), cut_relation_mark_ok (r := Ptr.mk (cut_relation.mk (h.Writes.length : Int) (h.Events.length : Int) (issW h) (ackW h))) rfl (by omega) hl (fun t => ⟨fun u => absurd rfl u, fun _ => ⟨⟨(by show 1 * 24 ≤ _; omega), (by show 1 ≤ maxLen; unfold maxLen; omega)⟩, iI (by omega) (by omega), ?_⟩⟩) fun t => ⟨fun _ => ⟨fun _ => by rw [if_pos (show isSetB l (h.Writes.length : Int) = false from t)] at hΦ; exact hΦ, fun r => absurd (by decide) r⟩, fun u => absurd (fun v => Bool.noConfusion v) u⟩⟩, fun r => absurd (by show (0 : Int) < 1; omega) r⟩
  have t : isSetB l (h.Writes.length : Int) = true := t
  rw [if_neg (by rw [t]; exact fun x => Bool.noConfusion x), ← great_sel] at hΦ
  refine ⟨fun r => absurd r (by show ¬ ((0 : Int) + 1 < 1); omega), fun _ => ⟨fun r => absurd rfl r, fun _ => ⟨iX (by omega) (by show (0 : Int) < 1; omega), ?_⟩⟩⟩
  have hx : ix (([] : List (List Bool)) ++ [markL h.Writes.length l]) 0 = markL h.Writes.length l := rfl
  have tl : inX 0 (([] : List (List Bool)) ++ [markL h.Writes.length l]).length ∧ ∃ l18, cut_marks_members_1_I (ix (([] : List (List Bool)) ++ [markL h.Writes.length l]) 0) l18 ∧ LoopW (cut_Greatest_L4 h (issW h) (ackW h) [markL h.Writes.length l] Φ) (l18, markL h.Writes.length l) :=
    ⟨iX (by omega) (by show (0 : Int) < 1; omega), _, marks_members_ok (by rw [hx, markL_len]; omega), great_L4 hw markL_len markL_len (fun p hp => by have := memL_rg hp; rw [hx, markL_len] at this; exact this) hΦ⟩
  refine ⟨fun e => ?_, ⟨⟨by show (markL h.Writes.length l).length * 1 ≤ _; rw [markL_len]; omega, by show (markL h.Writes.length l).length ≤ maxLen; rw [markL_len]; unfold maxLen; omega⟩, tl⟩⟩
  have e : markL h.Writes.length l = [] := e
  obtain ⟨t1, l18, t2, t3⟩ := tl
  have t3' : LoopW (cut_Greatest_L4 h (issW h) (ackW h) [markL h.Writes.length l] Φ) (l18, []) := Eq.mp (congrArg (fun z => LoopW (cut_Greatest_L4 h (issW h) (ackW h) [markL h.Writes.length l] Φ) (l18, z)) e) t3
  exact ⟨t1, l18, t2, t3'⟩
theorem cut_Greatest_eq {h : api_History} {l : List Int} {r : List Int × Int} {Φ : List Int × Int → Prop} (hh : SmallH h) (hl : l.length ≤ 1000000) (e : greatR h l = r) (hΦ : Φ r) : cut_Greatest_W h l Φ := cut_Greatest_ok hh hl (by rw [e]; exact hΦ)
theorem alwL_set {h : api_History} {im : List (List Sec)} : isSetB (alwL h im) (h.Writes.length : Int) = true := selL_set (Nat.le_refl _) (Int.le_refl _)
theorem newest_alw {h : api_History} {im : List (List Sec)} {m : List (consistency_content × Int)} {Φ : List Int × Bool × Int → Prop} (hh : SmallH h) (hz : histE h = 0) (hi : imgE im = 0) (hs : szs im = h.Sizes) (hm : AutM h m) (hΦ : Φ (greatC h (alwL h im), true, 0)) : LoopW (consistency_Newest_L7 h im m Φ) (0, []) := by
  have hw := hist_wr hz
  have sm := fit_small (im := im) (by rw [show sizesE (szs im) = 0 from hi]; simp)
  have el : im.length = h.Sizes.length := by rw [← hs, szs_len]
  refine LoopW.upT h.Writes.length (fun k => ((k : Int), selL k (alwB h im))) rfl (fun i rec hi2 hr => ⟨fun _ => ⟨iX (by omega) (by omega), ?_⟩, fun r => absurd (show (i : Int) < (h.Writes.length : Int) by omega) r⟩) fun rec => ⟨fun r => absurd r (by omega), fun _ => ?_⟩
  · have fi := hist_fit hz hi2
    have ev : (((wr h i).Volume.toNat : Nat) : Int) = (wr h i).Volume := Int.toNat_of_nonneg fi.1
    have hvl : (wr h i).Volume.toNat < im.length := by omega
    have hrow : ((ix im (wr h i).Volume).length : Int) = ix h.Sizes (wr h i).Volume := by rw [← ev, ← ix_szs hvl, hs]
    have xv : inX (wr h i).Volume im.length := iX (by omega) (by omega)
    have cases : ∀ b, alwB h im i = b → consistency_Newest_J8 (i : Int) (selL i (alwB h im)) rec Φ b := fun b e => by
      refine ⟨fun t => ⟨sel_room hi2 hw, iI (by omega) (by omega), hr _ ?_⟩, fun t => ⟨iI (by omega) (by omega), hr _ ?_⟩⟩
      · rw [selL_succ, if_pos (e.trans t)]; rfl
      · rw [selL_succ, if_neg (by rw [e]; exact t), List.append_nil]; rfl
    refine LoopW.allL (Φ := fun b => alwB h im i = b → consistency_Newest_J8 (i : Int) (selL i (alwB h im)) rec Φ b) (wr h i).Data.length (fun k => decide ((i : Int) ≤ autC h (wr h i).Volume ((wr h i).Start + (k : Int)) (ix (ix im (wr h i).Volume) ((wr h i).Start + (k : Int))))) (fun e => cases _ e) (fun k rec2 hk _ hf ht => ?_) fun rec2 h0 ha => ⟨fun r => absurd r (by show ¬ (((wr h i).Data.length : Int) < ((wr h i).Data.length : Int)); omega), fun _ => h0 (allN_true.2 ha)⟩
    have bad : decide ((i : Int) ≤ autC h (wr h i).Volume ((wr h i).Start + (k : Int)) (ix (ix im (wr h i).Volume) ((wr h i).Start + (k : Int)))) = false → consistency_Newest_J8 (i : Int) (selL i (alwB h im)) rec Φ false := fun t => cases false (allN_false hk t)
    have hd : k < (ix h.Writes (i : Int)).Data.length := hk
    have x5 : inX ((wr h i).Start + (k : Int)) (ix im (wr h i).Volume).length := iX (by omega) (by omega)
    refine ⟨fun _ => ⟨iX (by omega) (by exact_mod_cast hk), iI (by show _ ≤ (wr h i).Start + (k : Int); omega) (by show (wr h i).Start + (k : Int) ≤ _; omega), xv, x5, fun q => ?_, fun q => bad (decide_eq_false fun t => ?_)⟩, fun r => absurd (show (k : Int) < ((ix h.Writes (i : Int)).Data.length : Int) by omega) r⟩
    · have q1 : 0 ≤ autC h (wr h i).Volume ((wr h i).Start + (k : Int)) (ix (ix im (wr h i).Volume) ((wr h i).Start + (k : Int))) := hm.has.1 q
      have q2 := hm.get q1
      refine ⟨fun t => bad (decide_eq_false fun u => t ?_), fun t => ⟨iI (by omega) (by omega), ht (decide_eq_true ?_)⟩⟩
      · rw [← q2] at u; exact u
      · have t := Classical.not_not.1 t
        rw [← q2]; exact t
    · exact q (hm.has.2 (by show 0 ≤ autC h (wr h i).Volume ((wr h i).Start + (k : Int)) (ix (ix im (wr h i).Volume) ((wr h i).Start + (k : Int))); omega))
  · have sl := selL_len (n := h.Writes.length) (p := alwB h im)
    refine cut_Greatest_eq (r := (greatC h (alwL h im), 0)) hh (by omega) ?_ hΦ
    show greatR h (alwL h im) = _
    unfold greatR
    rw [if_neg (fun t => t hz), if_neg (by rw [alwL_set]; simp)]
theorem consistency_Newest_ok {h : api_History} {im : List (List Sec)} {Φ : List Int × Bool × Int → Prop} (hh : SmallH h) (hl : im.length ≤ 100000) (hΦ : Φ (nwsR h im)) : consistency_Newest_W h im Φ := by
  unfold nwsR at hΦ
  refine newest_jdg hh hl (fun q => by rw [if_pos q] at hΦ; exact hΦ) fun hz hi hs hd m hm => ?_
  have e0 : rgtE h im = 0 := by unfold rgtE; rw [if_neg (fun t => t hz), if_neg (fun t => t hi), if_neg (fun t => t hs), if_neg (by rw [hd]; simp)]
  rw [if_neg (fun t => t e0)] at hΦ
  unfold cflB at hΦ
  refine newest_unk hh hz hi hs hm (fun v k mm _ _ e1 e2 _ => ⟨fun _ => ⟨fun r => absurd rfl r, fun _ => ⟨fun _ => ?_, fun r => absurd rfl r⟩⟩, fun r => absurd rfl r⟩) (fun n v k _ _ e1 e2 _ => ⟨fun r => absurd rfl r, fun _ => ⟨fun _ => ?_, fun r => absurd rfl r⟩⟩) fun n d => ⟨fun r => absurd rfl r, fun _ => ⟨fun r => Bool.noConfusion r, fun _ => newest_alw hh hz hi hs hm ?_⟩⟩
  · rw [if_pos (decide_eq_true (.inl (by omega)))] at hΦ; exact hΦ
  · rw [if_pos (decide_eq_true (.inr (by omega)))] at hΦ; exact hΦ
  · rw [if_neg (by rw [decide_eq_false (by omega)]; simp)] at hΦ; exact hΦ
def topK (h : api_History) (l : List Int) (b k : Nat) : Bool := allN (fun a => decide ((a : Int) ∈ l) || !befC h a b) k
theorem topK_succ {h : api_History} {l : List Int} {b k : Nat} : topK h l b (k + 1) = (topK h l b k && (decide ((k : Int) ∈ l) || !befC h k b)) := allN_succ
theorem greatF {h : api_History} {l : List Int} (hl : isSetB l (h.Writes.length : Int) = true) : l.filter (fun x => topK h l x.toNat h.Writes.length) = greatC h l := by
  rw [set_filter hl]
  refine selL_congr fun w _ => ?_
  unfold topC
  rw [Int.toNat_natCast]; rfl
theorem ref16_Greatest_ok {h : api_History} {l : List Int} {Φ : List Int × Int → Prop} (hh : SmallH h) (hl : l.length ≤ 1000000) (hΦ : Φ (greatR h l)) : ref16_Greatest_W h l Φ := by
  unfold greatR at hΦ
  refine ref16_right_ok hh hl (fun q => ⟨fun _ => by rw [if_pos q] at hΦ; exact hΦ, fun r => absurd q r⟩) (fun hz q => ⟨fun _ => by rw [if_neg (fun t => t hz), if_pos q] at hΦ; exact hΦ, fun r => absurd (by decide) r⟩) fun hz hs => ⟨fun r => absurd rfl r, fun _ => ?_⟩
  rw [if_neg (fun t => t hz), if_neg (by rw [hs]; simp), ← greatF hs] at hΦ
  have hw := hist_wr hz
  have ll := isSetB_le hs (by omega)
  refine ref16_Table_ok hh hz ?_
  refine LoopW.upT l.length (fun i => ((i : Int), (l.take i).filter fun x => topK h l x.toNat h.Writes.length)) rfl (fun i rec hi hrec => ⟨fun _ => ?_, fun r => absurd (show (i : Int) < (l.length : Int) by omega) r⟩) fun rec => ⟨fun r => absurd r (by show ¬ ((l.length : Int) < (l.length : Int)); omega), fun _ => by rw [List.take_length]; exact hΦ⟩
  have m := isSetB_at hs hi
  have e : ((ix l (i : Int)).toNat : Int) = ix l (i : Int) := Int.toNat_of_nonneg m.1
  have t0 : (tblH h).length = h.Writes.length := tblK_len
  have room : lenOk (((l.take i).filter fun x => topK h l x.toNat h.Writes.length) ++ ([(ix l (i : Int))] : List Int)).length 8 := by
    have := List.length_filter_le (fun x : Int => topK h l x.toNat h.Writes.length) (l.take i)
    rw [List.length_take] at this
    refine ⟨?_, ?_⟩
    · rw [List.length_append, List.length_singleton]; omega
    · rw [List.length_append, List.length_singleton]; unfold maxLen; omega
  have st := filter_take_snoc (fun x : Int => topK h l x.toNat h.Writes.length) hi
  refine LoopW.upT h.Writes.length (fun a => (topK h l (ix l (i : Int)).toNat a, (a : Int))) rfl (fun a rec2 ha hrec2 => ⟨fun _ => ⟨fun q => ?_, fun q => ⟨iI (by omega) (by omega), hrec2 _ ?_⟩⟩, fun r => absurd (show (a : Int) < (h.Writes.length : Int) by omega) r⟩) fun rec2 => ⟨fun r => absurd r (by show ¬ ((h.Writes.length : Int) < (h.Writes.length : Int)); omega), fun _ => ⟨fun q => ⟨iX (by omega) (by omega), room, iI (by omega) (by omega), hrec _ ?_⟩, fun q => ⟨iI (by omega) (by omega), hrec _ ?_⟩⟩⟩
  · have t1 : (ix (tblH h) (a : Int)).length = h.Writes.length := by rw [ix_tblH ha, rowB_len]
    have tb : ix (ix (tblH h) (a : Int)) (ix l (i : Int)) = befC h a (ix l (i : Int)).toNat := by rw [← e, ix_tbl ha (by omega), e, befC_eq hz ha (by omega)]
    refine ⟨iX (by omega) (by omega), iX (by omega) (by omega), iX m.1 (by omega), fun r => ⟨iI (by omega) (by omega), hrec2 _ ?_⟩, fun r => ⟨_, ref15_Has_ok hl rfl, iI (by omega) (by omega), hrec2 _ ?_⟩⟩
    · rw [tb] at r
      rw [topK_succ, q, Bool.eq_false_iff.2 r, Bool.not_false, Bool.or_true]; rfl
    · rw [tb] at r
      rw [topK_succ, q, Classical.not_not.1 r, Bool.not_true, Bool.or_false, Bool.true_and]; rfl
  · rw [topK_succ, Bool.eq_false_iff.2 q, Bool.false_and]; rfl
  · rw [st, if_pos q]; rfl
  · rw [st, if_neg q, List.append_nil]; rfl
theorem ref18_Find_ok {h : api_History} {im : List (List Sec)} {Φ : List Int × Bool × Int → Prop} (hh : SmallH h) (hl : im.length ≤ 100000) (hΦ : Φ (findR h im)) : ref18_Find_W h im Φ := by
  unfold findR at hΦ
  refine ref18_right_ok hh hl ⟨fun q => by rw [if_pos q] at hΦ; exact hΦ, fun q => ?_⟩
  rw [if_neg q] at hΦ
  obtain ⟨hz, hi, hs, hd⟩ := rgtE_zero (Classical.not_not.1 q)
  refine ref18_candidate_ok hh hz hi hs ?_
  unfold cflB at hΦ
  unfold canR
  by_cases u : 0 ≤ unkV h im
  · rw [if_pos u]
    rw [if_pos (decide_eq_true (.inl u))] at hΦ
    exact ⟨fun _ => ⟨fun _ => hΦ, fun t => absurd rfl t⟩, fun t => absurd (fun x => Bool.noConfusion x) t⟩
  · rw [if_neg u]
    refine ⟨fun t => absurd rfl t, fun _ => ?_⟩
    unfold cflW
    rw [if_neg u]
    by_cases v : 0 ≤ difV h im
    · rw [if_pos v]
      rw [if_pos (decide_eq_true (.inr v))] at hΦ
      exact ⟨fun _ => hΦ, fun t => absurd (decide_eq_true (show (0 : Int) < ((1 : Nat) : Int) by omega)) t⟩
    · rw [if_neg v]
      rw [if_neg (by rw [decide_eq_false (by omega)]; simp)] at hΦ
      exact ⟨fun t => absurd (of_decide_eq_true t) (by show ¬ (0 : Int) < ((0 : Nat) : Int); omega), fun _ => hΦ⟩
def alwK (h : api_History) (im : List (List Sec)) (i k : Nat) : Bool := allN (fun k => decide ((i : Int) ≤ autC h (wr h i).Volume ((wr h i).Start + (k : Int)) (ix (ix im (wr h i).Volume) ((wr h i).Start + (k : Int))))) k
theorem ref18_Newest_ok {h : api_History} {im : List (List Sec)} {Φ : List Int × Bool × Int → Prop} (hh : SmallH h) (hl : im.length ≤ 100000) (hΦ : Φ (nwsR h im)) : ref18_Newest_W h im Φ := by
  refine ref18_Find_ok hh hl ?_
  unfold nwsR at hΦ
  by_cases q : rgtE h im ≠ 0
  · rw [if_pos q] at hΦ
    have eF : findR h im = ([], false, rgtE h im) := by unfold findR; rw [if_pos q]
    rw [eF]
    exact ⟨fun _ => ⟨fun _ => hΦ, fun t => absurd rfl t⟩, fun t => absurd q t⟩
  rw [if_neg q] at hΦ
  obtain ⟨hz, hi, hs, hd⟩ := rgtE_zero (Classical.not_not.1 q)
  have eF : findR h im = if cflB h im = true then ([], false, 0) else (lowH h im, true, 0) := by unfold findR; rw [if_neg q]
  rw [eF]
  by_cases c : cflB h im = true
  · rw [if_pos c] at hΦ ⊢
    exact ⟨fun t => absurd rfl t, fun _ => ⟨fun _ => hΦ, fun t => absurd (decide_eq_true (fun x => Bool.noConfusion x)) t⟩⟩
  rw [if_neg c] at hΦ ⊢
  refine ⟨fun t => absurd rfl t, fun _ => ⟨fun t => absurd (of_decide_eq_true t) (fun x => x rfl), fun _ => ?_⟩⟩
  have hw := hist_wr hz
  have el : im.length = h.Sizes.length := by rw [← hs, szs_len]
  refine LoopW.upT h.Writes.length (fun k => ((k : Int), selL k (alwB h im))) rfl (fun i rec hi2 hr => ⟨fun _ => ⟨iX (by omega) (by omega), ?_⟩, fun r => absurd (show (i : Int) < (h.Writes.length : Int) by omega) r⟩) fun rec => ⟨fun r => absurd r (by omega), fun _ => ?_⟩
  · have fi := hist_fit hz hi2
    have ev : (((wr h i).Volume.toNat : Nat) : Int) = (wr h i).Volume := Int.toNat_of_nonneg fi.1
    have hvl : (wr h i).Volume.toNat < im.length := by omega
    have hrow : ((ix im (wr h i).Volume).length : Int) = ix h.Sizes (wr h i).Volume := by rw [← ev, ← ix_szs hvl, hs]
    have xv : inX (wr h i).Volume im.length := iX (by omega) (by omega)
    have ea : alwK h im i (wr h i).Data.length = alwB h im i := rfl
    refine LoopW.upT (wr h i).Data.length (fun k => (alwK h im i k, (k : Int))) rfl (fun k rec2 hk hr2 => ?_) fun rec2 => ⟨fun r => absurd r (by show ¬ (((wr h i).Data.length : Int) < ((wr h i).Data.length : Int)); omega), fun _ => ⟨fun t => ⟨sel_room hi2 hw, iI (by omega) (by omega), hr _ ?_⟩, fun t => ⟨iI (by omega) (by omega), hr _ ?_⟩⟩⟩
    · have x5 : inX ((wr h i).Start + (k : Int)) (ix im (wr h i).Volume).length := iX (by omega) (by omega)
      have x6 : inI ((wr h i).Start + (k : Int)) := iI (by omega) (by omega)
      have sk : alwK h im i (k + 1) = (alwK h im i k && decide ((i : Int) ≤ autC h (wr h i).Volume ((wr h i).Start + (k : Int)) (ix (ix im (wr h i).Volume) ((wr h i).Start + (k : Int))))) := allN_succ
      refine ⟨fun _ => ⟨xv, x6, x5, fun a => ⟨fun nz => ⟨x6, ref18_author_ok hz (by show (wr h i).Start + (k : Int) ≤ 10000000; omega) ⟨iI (by omega) (by omega), hr2 _ ?_⟩⟩, fun nz => ⟨iI (by omega) (by omega), hr2 _ ?_⟩⟩, fun a => ⟨iI (by omega) (by omega), hr2 _ ?_⟩⟩, fun r => absurd (show (k : Int) < ((wr h i).Data.length : Int) by omega) r⟩
      · rw [sk, a, Bool.true_and]; rfl
      · have nz : ix (ix im (wr h i).Volume) ((wr h i).Start + (k : Int)) = sec0 := Classical.not_not.1 nz
        rw [sk, nz, autC_zero hd, decide_eq_false (show ¬ (i : Int) ≤ -1 by omega), Bool.and_false]; rfl
      · rw [sk, Bool.eq_false_iff.2 a, Bool.false_and]; rfl
    · rw [selL_succ, if_pos (ea.symm.trans t)]; rfl
    · rw [selL_succ, if_neg (by rw [← ea]; exact t), List.append_nil]; rfl
  · have sl := selL_len (n := h.Writes.length) (p := alwB h im)
    have eg : greatR h (selL h.Writes.length (alwB h im)) = (greatC h (alwL h im), 0) := by
      show greatR h (alwL h im) = _
      unfold greatR
      rw [if_neg (fun t => t hz), if_neg (by rw [alwL_set]; simp)]
    refine ref16_Greatest_ok hh (by omega) ?_
    rw [eg]; exact hΦ
theorem equal_int_refl {l : List Int} {Φ : Bool → Prop} (hl : l.length ≤ 1000000) (hΦ : Φ true) : slices_Equal_int_int_W l l Φ :=
  ⟨fun h => absurd rfl h, fun _ => LoopW.upT l.length (fun k => (k : Int)) rfl (fun k rec hk hr => ⟨fun hlt => ⟨iX (by omega) hlt, iX (by omega) hlt, fun q => absurd rfl q, fun _ => ⟨iI (by omega) (by omega), hr _ rfl⟩⟩, fun r => absurd (show (k : Int) < (l.length : Int) by omega) r⟩) fun rec => ⟨fun r => absurd r (by omega), fun _ => hΦ⟩⟩
theorem findR_le {h : api_History} {im : List (List Sec)} (hh : h.Writes.length ≤ 4096) : (findR h im).1.length ≤ 1000000 := by
  unfold findR
  by_cases q : rgtE h im ≠ 0
  · rw [if_pos q]; exact Nat.zero_le _
  · rw [if_neg q]
    by_cases r : cflB h im = true
    · rw [if_pos r]; exact Nat.zero_le _
    · rw [if_neg r]
      show (lowH h im).length ≤ 1000000
      rw [lowH_sel]
      have := selL_len (n := h.Writes.length) (p := lowC h (needL h im))
      omega
theorem nwsR_le {h : api_History} {im : List (List Sec)} (hh : h.Writes.length ≤ 4096) : (nwsR h im).1.length ≤ 1000000 := by
  unfold nwsR
  by_cases q : rgtE h im ≠ 0
  · rw [if_pos q]; exact Nat.zero_le _
  · rw [if_neg q]
    by_cases r : cflB h im = true
    · rw [if_pos r]; exact Nat.zero_le _
    · rw [if_neg r]
      have := selL_len (n := h.Writes.length) (p := topC h (alwL h im))
      show (selL h.Writes.length (topC h (alwL h im))).length ≤ 1000000
      omega
theorem consistencyFinds_law (h : api_History) (im : List (List Sec)) (_ : Rg.rg h) (_ : Rg.rg im) : law18_ConsistencyFinds_W h im fun y => y = true := by
  refine law18_few_ok ⟨fun _ => law18_awake_ok rfl, fun q => absurd (fun t => Bool.noConfusion t) q⟩ fun hh h40 h9 => ⟨fun r => absurd rfl r, fun _ => ?_⟩
  refine consistency_Find_ok hh (by omega) (ref18_Find_ok hh (by omega) (consistency_Newest_ok hh (by omega) (ref18_Newest_ok hh (by omega) ?_)))
  exact equal_int_refl (findR_le (by omega)) ⟨fun _ => ⟨fun _ => ⟨fun _ => equal_int_refl (nwsR_le (by omega)) ⟨fun _ => ⟨fun _ => ⟨fun _ => law18_awake_ok rfl, fun t => absurd rfl t⟩, fun t => absurd rfl t⟩, fun t => absurd rfl t⟩, fun t => absurd rfl t⟩, fun t => absurd rfl t⟩, fun t => absurd rfl t⟩
end Go.Proofs.YtjjodmgmidbamaaGreat
namespace Go.Proofs.YtjjodmgmidbamaaGreat
open Go.RowKit Go.ChangeShapes Go.WideShapes Go.ChangeAt
set_option maxRecDepth 100000 in
theorem consistencyFinds_lifted (os : Os) (started : os.Started) (H : Type) (enc : TypeId × Value → H) :
    ReturnsInHanded {} Tryz.checked os 3 .any (Rows.consistencyFindsSpec.pre6 enc Tryz.prog Tryz.f3 Rows.consistencyFindsRow.domain false) (Rows.consistencyFindsSpec.post enc Tryz.prog Tryz.f3 false true false false) := by
  refine returnsInHanded_of_change (C := Tryz.checked) Tryz.own started (by kernel_rfl) Tryz.func3
    (ChangeSpec.witness6 (enc := enc) (C := Tryz.checked) false ⟨#[], #[.agg #[.slice none 0 0, .slice none 0 0, .slice none 0 0], .slice none 0 0], []⟩ 8 (by kernel_rfl) (by kernel_rfl) (by kernel_rfl) (by kernel_rfl)) ?_
  intro W base args ds gs before hval0 hW _ _
  have hval : ∀ (j : Nat) t v, Tryz.f3.params[j]? = some t → args[j]? = some v → Value.okWide Tryz.prog W .any base t v := hval0
  have hW' := hW
  obtain ⟨p, q, hA0, hV, hpq, _, _⟩ := hW
  have hA : DataW.TrodAll enc Tryz.prog W 0 (fun _ => true) true Tryz.f3.params.toList args.toList ds p := hA0
  rw [Tryz.params3] at hA hval
  obtain ⟨v0, v1, d0, d1, p0, p1, rfl, rfl, rfl, h0, h1⟩ := trodAll_two hA
  obtain ⟨rfl, rfl⟩ := trodVars_none hV
  obtain ⟨ks0, x0, rfl, hr0, hg0⟩ := open_strD Tryz.underlying26 rd26 (hval 0 26 v0 rfl rfl) h0
  obtain ⟨Az1, nz1, cz1, sz1, x1, rfl, hz1, hg1⟩ := open_slD Tryz.underlying28 rd28 (hval 1 28 v1 rfl rfl) h1
  refine Calls.mono ((RetP.toV (y := true) (F := fun z => .bool z) (RetP.mono (ok3 (x0, x1, ()) (fun y => y.1 = true) (consistencyFinds_law x0 x1 hg0 hg1) (HW W) [.agg ks0.toArray, .slice Az1 nz1 cz1] trivial ⟨_, ks0, _, rfl, by rw [pkw26], (show Dt.rd (α := api_History) (HW W) _ _ from hr0), ⟨_, [.slice Az1 nz1 cz1], _, rfl, by rw [pkw28], (show Dt.rd (α := List (List Sec)) (HW W) _ _ from ⟨Az1, nz1, cz1, sz1, rfl, hz1⟩), rfl⟩⟩) fun _ _ _ _ ⟨y, hy, hr⟩ => lawRes y hy hr)) W fun b o e => e) ?_
  rintro e W' ⟨v, _, rfl, _, _, _, hb, rfl⟩
  exact ⟨_, rfl, post_law Tryz.laidOut Tryz.underlying4 rfl (by kernel_rfl) hW' rfl rfl hb⟩
theorem consistencyFinds_holds : Rows.ConsistencyFindsSaid :=
  OpenClaim.holds_of_wide 3 Tryz.f3 rfl rfl rfl rfl rfl rfl rfl ⟨rfl, rfl, rfl, rfl, rfl⟩ rfl rfl rfl rfl rfl (by kernel_rfl) Tryz.func3 (by kernel_rfl)
    (of_decide_eq_true (by kernel_rfl)) (by unfold Func.isWrapper; first | (rw [if_pos (by decide +kernel)]; kernel_rfl) | (rw [if_neg (by decide +kernel)]; exact ⟨rfl, rfl⟩))
    (fun os started H enc _ => consistencyFinds_lifted os started H enc)
end Go.Proofs.YtjjodmgmidbamaaGreat
