/- Proved: the tied card of the statement ConsistencyRecovers: for every argument that can be read the law returns true and leaves its arguments as they were. Conditions: the row's own alone. -/
import Derived.Lib.TrailingZeros
import Derived.Test.YtjjodmgmidbamaaM6
namespace Go.Proofs.Ytjjodmgmidbamaa
open Go.RowKit
theorem find_dif {h : api_History} {im : List (List Sec)} {Φ : List Int × Bool × Int → Prop} (hz : histE h = 0) (hi : imgE im = 0) (hs : szs im = h.Sizes)
    (kD : ∀ v k : Nat, v < im.length → k < szN im v → difV h im = (v : Int) → difK h im = (k : Int) → sec (ximH h im) v k ≠ sec im v k → consistency_Find_J9 (lowH h im, 0) Φ (true, (v : Int), (k : Int), [sec (ximH h im) v k]))
    (kN : difV h im = -1 → consistency_Find_J9 (lowH h im, 0) Φ (false, 0, 0, [])) : LoopW (consistency_Find_L10 im false 0 0 [] (lowH h im, 0) (ximH h im, 0) Φ) 0 := by
  have ⟨el, es, en, sv0⟩ := xim_fact hz hi hs
  refine nestN (inn := fun v rec => consistency_Find_L11 im false 0 0 [] (lowH h im, 0) (ximH h im, 0) (v : Int) rec Φ) im.length (szN im) (difB (ximH h im) im) (fun v rec hv hl => ⟨fun _ => ⟨iX (by omega) (by show (v : Int) < ((ximH h im).length : Int); omega), hl⟩, fun r => absurd (show (v : Int) < ((ximH h im).length : Int) by omega) r⟩) ?_ ?_ ?_
  · intro v k rec rec' hv hk hp hq hr
    have e1 := en v hv
    have sv := sv0 v hv
    have hk' : k < (ix im (v : Int)).length := hk
    refine ⟨fun _ => ⟨iX (by omega) (by show (k : Int) < ((ix (ximH h im) (v : Int)).length : Int); omega), iX (by omega) (by omega), iX (by omega) (by omega), fun q => ?_, fun q => ⟨fun r => absurd (fun t => Bool.noConfusion t) r, fun _ => ⟨iI (by omega) (by omega), hr (decide_eq_false fun t => q t)⟩⟩⟩, fun r => absurd (show (k : Int) < ((ix (ximH h im) (v : Int)).length : Int) by omega) r⟩
    have hh := fst_hit hv hk hp hq (decide_eq_true q)
    exact kD v k hv hk hh.1 hh.2 q
  · intro v rec rec' hv hr
    have e1 := en v hv
    have sv := sv0 v hv
    exact ⟨fun r => absurd r (by show ¬ ((szN im v : Int) < ((ix (ximH h im) (v : Int)).length : Int)); omega), fun _ => ⟨iI (by omega) (by omega), hr⟩⟩
  · intro rec hp
    have nl : ¬ ((im.length : Int) < ((ximH h im).length : Int)) := by omega
    have nd : difV h im = -1 := fst_none hp
    exact ⟨fun r => absurd r nl, fun _ => kN nd⟩
theorem find_ned {h : api_History} {im : List (List Sec)} {Φ : List Int × Bool × Int → Prop} {mm : List (Int × Bool)} (hh : SmallH h) (hz : histE h = 0) (hi : imgE im = 0) (hs : szs im = h.Sizes)
    (hm : ∀ w, w < h.Writes.length → (mget mm (w : Int) false = true ↔ needB h im w = true))
    (kD : ∀ v k : Nat, v < im.length → k < szN im v → difV h im = (v : Int) → difK h im = (k : Int) → sec (ximH h im) v k ≠ sec im v k → consistency_Find_J9 (lowH h im, 0) Φ (true, (v : Int), (k : Int), [sec (ximH h im) v k]))
    (kN : difV h im = -1 → consistency_Find_J9 (lowH h im, 0) Φ (false, 0, 0, [])) : LoopW (consistency_Find_L8 h im false 0 0 mm [] Φ) (0, []) := by
  have hw := hist_wr hz
  refine LoopW.upT h.Writes.length (fun k => ((k : Int), selL k (needB h im))) rfl (fun k rec hk hr => ⟨fun _ => ⟨fun q => ?_, fun q => ⟨iI (by omega) (by omega), hr _ ?_⟩⟩, fun r => absurd (show (k : Int) < (h.Writes.length : Int) by omega) r⟩) fun rec => ⟨fun r => absurd r (by show ¬ ((h.Writes.length : Int) < (h.Writes.length : Int)); omega), fun _ => ?_⟩
  · have sl := selL_len (n := k) (p := needB h im)
    have e : selL k (needB h im) ++ [(k : Int)] = selL (k + 1) (needB h im) := by rw [selL_succ, if_pos ((hm k hk).1 q)]
    refine ⟨⟨?_, ?_⟩, iI (by omega) (by omega), hr _ (by rw [e]; rfl)⟩
    · show (selL k (needB h im) ++ [(k : Int)]).length * 8 ≤ _
      rw [List.length_append, List.length_singleton]; omega
    · show (selL k (needB h im) ++ [(k : Int)]).length ≤ maxLen
      rw [List.length_append, List.length_singleton]; unfold maxLen; omega
  · rw [selL_succ, if_neg fun t => q ((hm k hk).2 t), List.append_nil]; rfl
  · have sl := selL_len (n := h.Writes.length) (p := needB h im)
    have er : leastR h (needL h im) = (lowH h im, 0) := by
      unfold leastR
      rw [if_neg (fun t => t hz), if_neg (by rw [needL_set]; simp)]; rfl
    refine cut_Least_eq hh (by omega) er ⟨fun r => absurd rfl r, fun _ => ?_⟩
    have ll : (lowH h im).length ≤ 1000000 := by rw [lowH_sel]; have := selL_len (n := h.Writes.length) (p := lowC h (needL h im)); omega
    exact history_Image_ok hh ll (fun _ _ => ⟨fun r => absurd rfl r, fun _ => find_dif hz hi hs kD kN⟩) (fun r => absurd hz r) fun _ r => by rw [lowH_set] at r; exact Bool.noConfusion r
theorem find_unk {h : api_History} {im : List (List Sec)} {m : List (consistency_content × Int)} {Φ : List Int × Bool × Int → Prop} (hh : SmallH h) (hz : histE h = 0) (hi : imgE im = 0) (hs : szs im = h.Sizes) (hm : AutM h m)
    (kU : ∀ (v k : Nat) mm, v < im.length → k < szN im v → unkV h im = (v : Int) → unkK h im = (k : Int) → unkB h im v k = true → consistency_Find_J7 h im Φ (true, (v : Int), (k : Int), mm, [sec im v k]))
    (kD : unkV h im = -1 → ∀ v k : Nat, v < im.length → k < szN im v → difV h im = (v : Int) → difK h im = (k : Int) → sec (ximH h im) v k ≠ sec im v k → consistency_Find_J9 (lowH h im, 0) Φ (true, (v : Int), (k : Int), [sec (ximH h im) v k]))
    (kN : unkV h im = -1 → difV h im = -1 → consistency_Find_J9 (lowH h im, 0) Φ (false, 0, 0, [])) : LoopW (consistency_Find_L12 h im m Φ) (0, []) := by
  have sm := fit_small (im := im) (by rw [show sizesE (szs im) = 0 from hi]; simp)
  refine nestS (inn := fun v rec => consistency_Find_L13 h im m (v : Int) rec Φ) im.length (szN im) (unkB h im) (fun v k mm => ∀ w : Nat, mget mm (w : Int) false = true ↔ NeedBy h im v k w) (fun w => ⟨fun t => Bool.noConfusion t, fun t => absurd t NeedBy.zero⟩)
    (fun v a hv ha w => (ha w).trans NeedBy.row.symm) (fun v a rec hv hl => ⟨fun _ => ⟨iX (by omega) (by omega), hl⟩, fun r => absurd (show (v : Int) < (im.length : Int) by omega) r⟩) ?_ ?_ ?_
  · intro v k mm rec rec' hv hk hp hq hI hr
    have sv := (sm.2.2 v hv).2
    have hk' : k < (ix im (v : Int)).length := hk
    refine ⟨fun _ => ⟨iX (by omega) (by omega), fun z => ⟨iI (by omega) (by omega), hr ?_ mm fun w => (hI w).trans (NeedBy.skip z).symm⟩, fun z => ⟨fun q => ?_, fun q => ?_⟩⟩, fun r => absurd (show (k : Int) < ((ix im (v : Int)).length : Int) by omega) r⟩
    · unfold unkB
      rw [decide_eq_false (fun t => t z)]; rfl
    · have hb : unkB h im v k = true := by
        unfold unkB
        rw [Bool.and_eq_true, decide_eq_true_iff, decide_eq_true_iff]
        refine ⟨z, ?_⟩
        have := fun t => q (hm.has.2 t)
        show autC h (v : Int) (k : Int) (sec im v k) < 0
        have t2 : ¬ 0 ≤ autC h (v : Int) (k : Int) (sec im v k) := this
        omega
      have hh := fst_hit hv hk hp hq hb
      exact kU v k mm hv hk hh.1 hh.2 hb
    · have q1 : 0 ≤ autC h (v : Int) (k : Int) (sec im v k) := hm.has.1 (Classical.not_not.1 q)
      have q2 : mget m ⟨⟨(v : Int), (k : Int)⟩, sec im v k⟩ 0 = autC h (v : Int) (k : Int) (sec im v k) := hm.get q1
      refine ⟨iI (by omega) (by omega), hr ?_ _ fun w => ?_⟩
      · unfold unkB
        rw [decide_eq_false (show ¬ autC h (v : Int) (k : Int) (sec im v k) < 0 by omega), Bool.and_false]
      · show mget (mput mm (mget m ⟨⟨(v : Int), (k : Int)⟩, sec im v k⟩ 0) true) (w : Int) false = true ↔ _
        rw [mget_put, q2, NeedBy.take z, ← hI w]
        by_cases e : (w : Int) = autC h (v : Int) (k : Int) (sec im v k)
        · rw [if_pos e]; exact ⟨fun _ => .inr e.symm, fun _ => rfl⟩
        · rw [if_neg e]; exact ⟨.inl, fun t => t.elim id fun u => absurd u.symm e⟩
  · intro v a rec rec' hv hr
    have sv := (sm.2.2 v hv).2
    exact ⟨fun r => absurd r (by show ¬ ((szN im v : Int) < ((ix im (v : Int)).length : Int)); unfold szN; omega), fun _ => ⟨iI (by omega) (by omega), hr⟩⟩
  · intro mm rec hp hI
    exact ⟨fun r => absurd r (by show ¬ ((im.length : Int) < (im.length : Int)); omega), fun _ => ⟨fun r => Bool.noConfusion r, fun _ => find_ned hh hz hi hs (fun w _ => (hI w).trans NeedBy.all) (kD (fst_none hp)) (kN (fst_none hp))⟩⟩
theorem find_col {h : api_History} {im : List (List Sec)} {Φ : List Int × Bool × Int → Prop} (hz : histE h = 0) (kB : distB h = false → Φ (([] : List Int), false, 1))
    (kG : distB h = true → ∀ m, AutM h m → LoopW (consistency_Find_L12 h im m Φ) (0, [])) : LoopW (consistency_Find_L2 h im Φ) (0, []) := by
  have hn := hist_wr hz
  refine LoopW.upS h.Writes.length (fun s => s.1) (fun i s => (∀ j, j < i → okW h j = true) ∧ MapOk h i 0 s.2 ∧ ValOk h i 0 s.2) ?_ 0 rfl (Nat.zero_le _) ⟨fun j hj => absurd hj (Nat.not_lt_zero j), fun c => ⟨fun t => Bool.noConfusion t, fun ⟨j, q, h1, _⟩ => by omega⟩, fun c x t => by cases t⟩
  rintro i ⟨_, m⟩ rec hi rfl ⟨hI, hm, hv⟩ hrec
  refine ⟨fun r => ?_, fun r => ?_⟩
  · have hi : i < h.Writes.length := by omega
    have bad : okW h i = false → Φ (([] : List Int), false, 1) := fun t => kB (allN_false hi t)
    have fi := hist_fit hz hi
    refine ⟨iX (by omega) (by omega), ?_⟩
    refine LoopW.upS (wr h i).Data.length (fun s => s.1) (fun k s => (∀ j, j < k → okI h i j = true) ∧ MapOk h i k s.2 ∧ ValOk h i k s.2) ?_ 0 rfl (Nat.zero_le _) ⟨fun j hj => absurd hj (Nat.not_lt_zero j), hm, hv⟩
    rintro k ⟨_, m'⟩ rec3 hk rfl ⟨hJ, hm', hv'⟩ hrec3
    refine ⟨fun r3 => ?_, fun r3 => ?_⟩
    · have hk : k < (wr h i).Data.length := by exact_mod_cast r3
      have badk : okI h i k = false → Φ (([] : List Int), false, 1) := fun t => bad (allN_false hk t)
      have hno : Φ (([] : List Int), false, 1) → consistency_Find_J3 (i : Int) rec Φ (false, (mput m' (keyAt h i k) (i : Int))) := fun t => ⟨fun _ => ⟨fun _ => t, fun u => absurd (by decide) u⟩, fun u => absurd (fun v => Bool.noConfusion v) u⟩
      refine ⟨iX (by omega) (by exact_mod_cast hk), iI (by show _ ≤ (wr h i).Start + (k : Int); omega) (by show (wr h i).Start + (k : Int) ≤ _; omega), fun u => ⟨fun v => hno (badk ?_), fun v => ⟨iI (by omega) (by omega), hrec3 _ hk rfl ⟨fun j hj => ?_, hm'.put _, hv'.put⟩⟩⟩, fun u => hno (badk ?_)⟩
      · exact okI_zero (Classical.not_not.1 v)
      · rcases Nat.lt_or_ge j k with c | c
        · exact hJ j c
        · obtain rfl : j = k := by omega
          exact okI_iff.2 ⟨Classical.not_not.1 v, fun w => u ((hm' _).2 w)⟩
      · rw [Bool.eq_false_iff]
        exact fun w => (okI_iff.1 w).2 ((hm' _).1 (Classical.not_not.1 u))
    · have hk : k = (wr h i).Data.length := by
        have : ¬ ((k : Int) < ((wr h i).Data.length : Int)) := r3
        omega
      subst hk
      exact ⟨fun t => absurd rfl t, fun _ => ⟨iI (by omega) (by omega), hrec _ hi rfl ⟨fun j hj => by
        rcases Nat.lt_or_ge j i with c | c
        · exact hI j c
        · obtain rfl : j = i := by omega
          exact allN_true.2 hJ, hm'.next, hv'.next⟩⟩⟩
  · have e : i = h.Writes.length := by omega
    subst e
    have hd : distB h = true := allN_true.2 hI
    exact ⟨fun t => absurd rfl t, fun _ => kG hd m (AutM.of hd hm hv)⟩
theorem find_jdg {h : api_History} {im : List (List Sec)} {Φ : List Int × Bool × Int → Prop} (hh : SmallH h) (hl : im.length ≤ 100000) (kE : rgtE h im ≠ 0 → Φ (([] : List Int), false, rgtE h im))
    (kG : histE h = 0 → imgE im = 0 → szs im = h.Sizes → distB h = true → ∀ m, AutM h m → LoopW (consistency_Find_L12 h im m Φ) (0, [])) : consistency_Find_W h im Φ := by
  refine history_Check_ok hh ⟨fun q => ⟨fun _ => ?_, fun r => absurd q r⟩, fun q => ?_⟩
  · have e : rgtE h im = histE h := by unfold rgtE; rw [if_pos q]
    rw [e] at kE; exact kE q
  have hz : histE h = 0 := Classical.not_not.1 q
  refine image_Check_ok hl ⟨fun q2 => ⟨fun _ => ?_, fun r => absurd q2 r⟩, fun q2 => ?_⟩
  · have e : rgtE h im = imgE im := by unfold rgtE; rw [if_neg q, if_pos q2]
    rw [e] at kE; exact kE q2
  have hi : imgE im = 0 := Classical.not_not.1 q2
  have sm := fit_small (im := im) (by rw [show sizesE (szs im) = 0 from hi]; simp)
  have bad : szs im ≠ h.Sizes → consistency_Find_J1 h im Φ true := fun q3 => ⟨fun _ => ⟨fun _ => by
    have e : rgtE h im = 22 := by unfold rgtE; rw [if_neg q, if_neg q2, if_pos q3]
    rw [e] at kE; exact kE (by decide), fun r => absurd (by decide) r⟩, fun r => absurd rfl r⟩
  have good : szs im = h.Sizes → consistency_Find_J1 h im Φ false := fun q3 => ⟨fun r => Bool.noConfusion r, fun _ => find_col hz (fun q4 => by
    have e : rgtE h im = 1 := by unfold rgtE; rw [if_neg q, if_neg q2, if_neg (fun t => t q3), if_pos q4]
    rw [e] at kE; exact kE (by decide)) (kG hz hi q3)⟩
  refine ⟨fun r => bad fun t => r (by rw [← t, szs_len]), fun r => ?_⟩
  have hl2 : im.length = h.Sizes.length := by omega
  refine LoopW.upI im.length (fun k => (k : Int)) (fun k => ∀ j, j < k → ((ix im (j : Int)).length : Int) = ix h.Sizes (j : Int)) rfl (fun j hj => absurd hj (Nat.not_lt_zero j)) (fun k rec hk hI hr => ⟨fun _ => ⟨iX (by omega) (by omega), iX (by omega) (by omega), fun t => bad fun u => t (decide_eq_true ((szs_eq_iff hl2).1 u k hk)), fun t => ⟨iI (by omega) (by omega), hr (fun j hj => ?_) _ rfl⟩⟩, fun t => absurd (show (k : Int) < (im.length : Int) by omega) t⟩) fun rec hI => ⟨fun t => absurd t (by omega), fun _ => good ((szs_eq_iff hl2).2 hI)⟩
  rcases Nat.lt_or_ge j k with c | c
  · exact hI j c
  · obtain rfl : j = k := by omega
    exact of_decide_eq_true (Classical.not_not.1 t)
theorem newest_dif {h : api_History} {im : List (List Sec)} {m : List (consistency_content × Int)} {Φ : List Int × Bool × Int → Prop} (hz : histE h = 0) (hi : imgE im = 0) (hs : szs im = h.Sizes)
    (kD : ∀ v k : Nat, v < im.length → k < szN im v → difV h im = (v : Int) → difK h im = (k : Int) → sec (ximH h im) v k ≠ sec im v k → consistency_Newest_J12 h im m Φ (true, (v : Int), (k : Int), [sec (ximH h im) v k]))
    (kN : difV h im = -1 → consistency_Newest_J12 h im m Φ (false, 0, 0, [])) : LoopW (consistency_Newest_L13 h im m false 0 0 [] (ximH h im, 0) Φ) 0 := by
  have ⟨el, es, en, sv0⟩ := xim_fact hz hi hs
  refine nestN (inn := fun v rec => consistency_Newest_L14 h im m false 0 0 [] (ximH h im, 0) (v : Int) rec Φ) im.length (szN im) (difB (ximH h im) im) (fun v rec hv hl => ⟨fun _ => ⟨iX (by omega) (by show (v : Int) < ((ximH h im).length : Int); omega), hl⟩, fun r => absurd (show (v : Int) < ((ximH h im).length : Int) by omega) r⟩) ?_ ?_ ?_
  · intro v k rec rec' hv hk hp hq hr
    have e1 := en v hv
    have sv := sv0 v hv
    have hk' : k < (ix im (v : Int)).length := hk
    refine ⟨fun _ => ⟨iX (by omega) (by show (k : Int) < ((ix (ximH h im) (v : Int)).length : Int); omega), iX (by omega) (by omega), iX (by omega) (by omega), fun q => ?_, fun q => ⟨fun r => absurd (fun t => Bool.noConfusion t) r, fun _ => ⟨iI (by omega) (by omega), hr (decide_eq_false fun t => q t)⟩⟩⟩, fun r => absurd (show (k : Int) < ((ix (ximH h im) (v : Int)).length : Int) by omega) r⟩
    have hh := fst_hit hv hk hp hq (decide_eq_true q)
    exact kD v k hv hk hh.1 hh.2 q
  · intro v rec rec' hv hr
    have e1 := en v hv
    have sv := sv0 v hv
    exact ⟨fun r => absurd r (by show ¬ ((szN im v : Int) < ((ix (ximH h im) (v : Int)).length : Int)); omega), fun _ => ⟨iI (by omega) (by omega), hr⟩⟩
  · intro rec hp
    have nl : ¬ ((im.length : Int) < ((ximH h im).length : Int)) := by omega
    have nd : difV h im = -1 := fst_none hp
    exact ⟨fun r => absurd r nl, fun _ => kN nd⟩
theorem newest_ned {h : api_History} {im : List (List Sec)} {m : List (consistency_content × Int)} {Φ : List Int × Bool × Int → Prop} {mm : List (Int × Bool)} (hh : SmallH h) (hz : histE h = 0) (hi : imgE im = 0) (hs : szs im = h.Sizes)
    (hm : ∀ w, w < h.Writes.length → (mget mm (w : Int) false = true ↔ needB h im w = true))
    (kD : ∀ v k : Nat, v < im.length → k < szN im v → difV h im = (v : Int) → difK h im = (k : Int) → sec (ximH h im) v k ≠ sec im v k → consistency_Newest_J12 h im m Φ (true, (v : Int), (k : Int), [sec (ximH h im) v k]))
    (kN : difV h im = -1 → consistency_Newest_J12 h im m Φ (false, 0, 0, [])) : LoopW (consistency_Newest_L11 h im m false 0 0 mm [] Φ) (0, []) := by
  have hw := hist_wr hz
  refine LoopW.upT h.Writes.length (fun k => ((k : Int), selL k (needB h im))) rfl (fun k rec hk hr => ⟨fun _ => ⟨fun q => ?_, fun q => ⟨iI (by omega) (by omega), hr _ ?_⟩⟩, fun r => absurd (show (k : Int) < (h.Writes.length : Int) by omega) r⟩) fun rec => ⟨fun r => absurd r (by show ¬ ((h.Writes.length : Int) < (h.Writes.length : Int)); omega), fun _ => ?_⟩
  · have sl := selL_len (n := k) (p := needB h im)
    have e : selL k (needB h im) ++ [(k : Int)] = selL (k + 1) (needB h im) := by rw [selL_succ, if_pos ((hm k hk).1 q)]
    refine ⟨⟨?_, ?_⟩, iI (by omega) (by omega), hr _ (by rw [e]; rfl)⟩
    · show (selL k (needB h im) ++ [(k : Int)]).length * 8 ≤ _
      rw [List.length_append, List.length_singleton]; omega
    · show (selL k (needB h im) ++ [(k : Int)]).length ≤ maxLen
      rw [List.length_append, List.length_singleton]; unfold maxLen; omega
  · rw [selL_succ, if_neg fun t => q ((hm k hk).2 t), List.append_nil]; rfl
  · have sl := selL_len (n := h.Writes.length) (p := needB h im)
    have er : leastR h (needL h im) = (lowH h im, 0) := by
      unfold leastR
      rw [if_neg (fun t => t hz), if_neg (by rw [needL_set]; simp)]; rfl
    refine cut_Least_eq hh (by omega) er ⟨fun r => absurd rfl r, fun _ => ?_⟩
    have ll : (lowH h im).length ≤ 1000000 := by rw [lowH_sel]; have := selL_len (n := h.Writes.length) (p := lowC h (needL h im)); omega
    exact history_Image_ok hh ll (fun _ _ => ⟨fun r => absurd rfl r, fun _ => newest_dif hz hi hs kD kN⟩) (fun r => absurd hz r) fun _ r => by rw [lowH_set] at r; exact Bool.noConfusion r
theorem newest_unk {h : api_History} {im : List (List Sec)} {m : List (consistency_content × Int)} {Φ : List Int × Bool × Int → Prop} (hh : SmallH h) (hz : histE h = 0) (hi : imgE im = 0) (hs : szs im = h.Sizes) (hm : AutM h m)
    (kU : ∀ (v k : Nat) mm, v < im.length → k < szN im v → unkV h im = (v : Int) → unkK h im = (k : Int) → unkB h im v k = true → consistency_Newest_J10 h im m Φ (true, (v : Int), (k : Int), mm, [sec im v k]))
    (kD : unkV h im = -1 → ∀ v k : Nat, v < im.length → k < szN im v → difV h im = (v : Int) → difK h im = (k : Int) → sec (ximH h im) v k ≠ sec im v k → consistency_Newest_J12 h im m Φ (true, (v : Int), (k : Int), [sec (ximH h im) v k]))
    (kN : unkV h im = -1 → difV h im = -1 → consistency_Newest_J12 h im m Φ (false, 0, 0, [])) : LoopW (consistency_Newest_L15 h im m Φ) (0, []) := by
  have sm := fit_small (im := im) (by rw [show sizesE (szs im) = 0 from hi]; simp)
  refine nestS (inn := fun v rec => consistency_Newest_L16 h im m (v : Int) rec Φ) im.length (szN im) (unkB h im) (fun v k mm => ∀ w : Nat, mget mm (w : Int) false = true ↔ NeedBy h im v k w) (fun w => ⟨fun t => Bool.noConfusion t, fun t => absurd t NeedBy.zero⟩)
    (fun v a hv ha w => (ha w).trans NeedBy.row.symm) (fun v a rec hv hl => ⟨fun _ => ⟨iX (by omega) (by omega), hl⟩, fun r => absurd (show (v : Int) < (im.length : Int) by omega) r⟩) ?_ ?_ ?_
  · intro v k mm rec rec' hv hk hp hq hI hr
    have sv := (sm.2.2 v hv).2
    have hk' : k < (ix im (v : Int)).length := hk
    refine ⟨fun _ => ⟨iX (by omega) (by omega), fun z => ⟨iI (by omega) (by omega), hr ?_ mm fun w => (hI w).trans (NeedBy.skip z).symm⟩, fun z => ⟨fun q => ?_, fun q => ?_⟩⟩, fun r => absurd (show (k : Int) < ((ix im (v : Int)).length : Int) by omega) r⟩
    · unfold unkB
      rw [decide_eq_false (fun t => t z)]; rfl
    · have hb : unkB h im v k = true := by
        unfold unkB
        rw [Bool.and_eq_true, decide_eq_true_iff, decide_eq_true_iff]
        refine ⟨z, ?_⟩
        have := fun t => q (hm.has.2 t)
        show autC h (v : Int) (k : Int) (sec im v k) < 0
        have t2 : ¬ 0 ≤ autC h (v : Int) (k : Int) (sec im v k) := this
        omega
      have hh := fst_hit hv hk hp hq hb
      exact kU v k mm hv hk hh.1 hh.2 hb
    · have q1 : 0 ≤ autC h (v : Int) (k : Int) (sec im v k) := hm.has.1 (Classical.not_not.1 q)
      have q2 : mget m ⟨⟨(v : Int), (k : Int)⟩, sec im v k⟩ 0 = autC h (v : Int) (k : Int) (sec im v k) := hm.get q1
      refine ⟨iI (by omega) (by omega), hr ?_ _ fun w => ?_⟩
      · unfold unkB
        rw [decide_eq_false (show ¬ autC h (v : Int) (k : Int) (sec im v k) < 0 by omega), Bool.and_false]
      · show mget (mput mm (mget m ⟨⟨(v : Int), (k : Int)⟩, sec im v k⟩ 0) true) (w : Int) false = true ↔ _
        rw [mget_put, q2, NeedBy.take z, ← hI w]
        by_cases e : (w : Int) = autC h (v : Int) (k : Int) (sec im v k)
        · rw [if_pos e]; exact ⟨fun _ => .inr e.symm, fun _ => rfl⟩
        · rw [if_neg e]; exact ⟨.inl, fun t => t.elim id fun u => absurd u.symm e⟩
  · intro v a rec rec' hv hr
    have sv := (sm.2.2 v hv).2
    exact ⟨fun r => absurd r (by show ¬ ((szN im v : Int) < ((ix im (v : Int)).length : Int)); unfold szN; omega), fun _ => ⟨iI (by omega) (by omega), hr⟩⟩
  · intro mm rec hp hI
    exact ⟨fun r => absurd r (by show ¬ ((im.length : Int) < (im.length : Int)); omega), fun _ => ⟨fun r => Bool.noConfusion r, fun _ => newest_ned hh hz hi hs (fun w _ => (hI w).trans NeedBy.all) (kD (fst_none hp)) (kN (fst_none hp))⟩⟩
theorem newest_col {h : api_History} {im : List (List Sec)} {Φ : List Int × Bool × Int → Prop} (hz : histE h = 0) (kB : distB h = false → Φ (([] : List Int), false, 1))
    (kG : distB h = true → ∀ m, AutM h m → LoopW (consistency_Newest_L15 h im m Φ) (0, [])) : LoopW (consistency_Newest_L2 h im Φ) (0, []) := by
  have hn := hist_wr hz
  refine LoopW.upS h.Writes.length (fun s => s.1) (fun i s => (∀ j, j < i → okW h j = true) ∧ MapOk h i 0 s.2 ∧ ValOk h i 0 s.2) ?_ 0 rfl (Nat.zero_le _) ⟨fun j hj => absurd hj (Nat.not_lt_zero j), fun c => ⟨fun t => Bool.noConfusion t, fun ⟨j, q, h1, _⟩ => by omega⟩, fun c x t => by cases t⟩
  rintro i ⟨_, m⟩ rec hi rfl ⟨hI, hm, hv⟩ hrec
  refine ⟨fun r => ?_, fun r => ?_⟩
  · have hi : i < h.Writes.length := by omega
    have bad : okW h i = false → Φ (([] : List Int), false, 1) := fun t => kB (allN_false hi t)
    have fi := hist_fit hz hi
    refine ⟨iX (by omega) (by omega), ?_⟩
    refine LoopW.upS (wr h i).Data.length (fun s => s.1) (fun k s => (∀ j, j < k → okI h i j = true) ∧ MapOk h i k s.2 ∧ ValOk h i k s.2) ?_ 0 rfl (Nat.zero_le _) ⟨fun j hj => absurd hj (Nat.not_lt_zero j), hm, hv⟩
    rintro k ⟨_, m'⟩ rec3 hk rfl ⟨hJ, hm', hv'⟩ hrec3
    refine ⟨fun r3 => ?_, fun r3 => ?_⟩
    · have hk : k < (wr h i).Data.length := by exact_mod_cast r3
      have badk : okI h i k = false → Φ (([] : List Int), false, 1) := fun t => bad (allN_false hk t)
      have hno : Φ (([] : List Int), false, 1) → consistency_Newest_J3 (i : Int) rec Φ (false, (mput m' (keyAt h i k) (i : Int))) := fun t => ⟨fun _ => ⟨fun _ => t, fun u => absurd (by decide) u⟩, fun u => absurd (fun v => Bool.noConfusion v) u⟩
      refine ⟨iX (by omega) (by exact_mod_cast hk), iI (by show _ ≤ (wr h i).Start + (k : Int); omega) (by show (wr h i).Start + (k : Int) ≤ _; omega), fun u => ⟨fun v => hno (badk ?_), fun v => ⟨iI (by omega) (by omega), hrec3 _ hk rfl ⟨fun j hj => ?_, hm'.put _, hv'.put⟩⟩⟩, fun u => hno (badk ?_)⟩
      · exact okI_zero (Classical.not_not.1 v)
      · rcases Nat.lt_or_ge j k with c | c
        · exact hJ j c
        · obtain rfl : j = k := by omega
          exact okI_iff.2 ⟨Classical.not_not.1 v, fun w => u ((hm' _).2 w)⟩
      · rw [Bool.eq_false_iff]
        exact fun w => (okI_iff.1 w).2 ((hm' _).1 (Classical.not_not.1 u))
    · have hk : k = (wr h i).Data.length := by
        have : ¬ ((k : Int) < ((wr h i).Data.length : Int)) := r3
        omega
      subst hk
      exact ⟨fun t => absurd rfl t, fun _ => ⟨iI (by omega) (by omega), hrec _ hi rfl ⟨fun j hj => by
        rcases Nat.lt_or_ge j i with c | c
        · exact hI j c
        · obtain rfl : j = i := by omega
          exact allN_true.2 hJ, hm'.next, hv'.next⟩⟩⟩
  · have e : i = h.Writes.length := by omega
    subst e
    have hd : distB h = true := allN_true.2 hI
    exact ⟨fun t => absurd rfl t, fun _ => kG hd m (AutM.of hd hm hv)⟩
theorem newest_jdg {h : api_History} {im : List (List Sec)} {Φ : List Int × Bool × Int → Prop} (hh : SmallH h) (hl : im.length ≤ 100000) (kE : rgtE h im ≠ 0 → Φ (([] : List Int), false, rgtE h im))
    (kG : histE h = 0 → imgE im = 0 → szs im = h.Sizes → distB h = true → ∀ m, AutM h m → LoopW (consistency_Newest_L15 h im m Φ) (0, [])) : consistency_Newest_W h im Φ := by
  refine history_Check_ok hh ⟨fun q => ⟨fun _ => ?_, fun r => absurd q r⟩, fun q => ?_⟩
  · have e : rgtE h im = histE h := by unfold rgtE; rw [if_pos q]
    rw [e] at kE; exact kE q
  have hz : histE h = 0 := Classical.not_not.1 q
  refine image_Check_ok hl ⟨fun q2 => ⟨fun _ => ?_, fun r => absurd q2 r⟩, fun q2 => ?_⟩
  · have e : rgtE h im = imgE im := by unfold rgtE; rw [if_neg q, if_pos q2]
    rw [e] at kE; exact kE q2
  have hi : imgE im = 0 := Classical.not_not.1 q2
  have sm := fit_small (im := im) (by rw [show sizesE (szs im) = 0 from hi]; simp)
  have bad : szs im ≠ h.Sizes → consistency_Newest_J1 h im Φ true := fun q3 => ⟨fun _ => ⟨fun _ => by
    have e : rgtE h im = 22 := by unfold rgtE; rw [if_neg q, if_neg q2, if_pos q3]
    rw [e] at kE; exact kE (by decide), fun r => absurd (by decide) r⟩, fun r => absurd rfl r⟩
  have good : szs im = h.Sizes → consistency_Newest_J1 h im Φ false := fun q3 => ⟨fun r => Bool.noConfusion r, fun _ => newest_col hz (fun q4 => by
    have e : rgtE h im = 1 := by unfold rgtE; rw [if_neg q, if_neg q2, if_neg (fun t => t q3), if_pos q4]
    rw [e] at kE; exact kE (by decide)) (kG hz hi q3)⟩
  refine ⟨fun r => bad fun t => r (by rw [← t, szs_len]), fun r => ?_⟩
  have hl2 : im.length = h.Sizes.length := by omega
  refine LoopW.upI im.length (fun k => (k : Int)) (fun k => ∀ j, j < k → ((ix im (j : Int)).length : Int) = ix h.Sizes (j : Int)) rfl (fun j hj => absurd hj (Nat.not_lt_zero j)) (fun k rec hk hI hr => ⟨fun _ => ⟨iX (by omega) (by omega), iX (by omega) (by omega), fun t => bad fun u => t (decide_eq_true ((szs_eq_iff hl2).1 u k hk)), fun t => ⟨iI (by omega) (by omega), hr (fun j hj => ?_) _ rfl⟩⟩, fun t => absurd (show (k : Int) < (im.length : Int) by omega) t⟩) fun rec hI => ⟨fun t => absurd t (by omega), fun _ => good ((szs_eq_iff hl2).2 hI)⟩
  rcases Nat.lt_or_ge j k with c | c
  · exact hI j c
  · obtain rfl : j = k := by omega
    exact of_decide_eq_true (Classical.not_not.1 t)
theorem conflict_dif {h : api_History} {im : List (List Sec)} {Φ : api_Write × Bool × Int → Prop} (hz : histE h = 0) (hi : imgE im = 0) (hs : szs im = h.Sizes)
    (kD : ∀ v k : Nat, v < im.length → k < szN im v → difV h im = (v : Int) → difK h im = (k : Int) → sec (ximH h im) v k ≠ sec im v k → consistency_Conflict_J7 Φ (true, (v : Int), (k : Int), [sec (ximH h im) v k]))
    (kN : difV h im = -1 → consistency_Conflict_J7 Φ (false, 0, 0, [])) : LoopW (consistency_Conflict_L8 im false 0 0 [] (ximH h im, 0) Φ) 0 := by
  have ⟨el, es, en, sv0⟩ := xim_fact hz hi hs
  refine nestN (inn := fun v rec => consistency_Conflict_L9 im false 0 0 [] (ximH h im, 0) (v : Int) rec Φ) im.length (szN im) (difB (ximH h im) im) (fun v rec hv hl => ⟨fun _ => ⟨iX (by omega) (by show (v : Int) < ((ximH h im).length : Int); omega), hl⟩, fun r => absurd (show (v : Int) < ((ximH h im).length : Int) by omega) r⟩) ?_ ?_ ?_
  · intro v k rec rec' hv hk hp hq hr
    have e1 := en v hv
    have sv := sv0 v hv
    have hk' : k < (ix im (v : Int)).length := hk
    refine ⟨fun _ => ⟨iX (by omega) (by show (k : Int) < ((ix (ximH h im) (v : Int)).length : Int); omega), iX (by omega) (by omega), iX (by omega) (by omega), fun q => ?_, fun q => ⟨fun r => absurd (fun t => Bool.noConfusion t) r, fun _ => ⟨iI (by omega) (by omega), hr (decide_eq_false fun t => q t)⟩⟩⟩, fun r => absurd (show (k : Int) < ((ix (ximH h im) (v : Int)).length : Int) by omega) r⟩
    have hh := fst_hit hv hk hp hq (decide_eq_true q)
    exact kD v k hv hk hh.1 hh.2 q
  · intro v rec rec' hv hr
    have e1 := en v hv
    have sv := sv0 v hv
    exact ⟨fun r => absurd r (by show ¬ ((szN im v : Int) < ((ix (ximH h im) (v : Int)).length : Int)); omega), fun _ => ⟨iI (by omega) (by omega), hr⟩⟩
  · intro rec hp
    have nl : ¬ ((im.length : Int) < ((ximH h im).length : Int)) := by omega
    have nd : difV h im = -1 := fst_none hp
    exact ⟨fun r => absurd r nl, fun _ => kN nd⟩
theorem conflict_ned {h : api_History} {im : List (List Sec)} {Φ : api_Write × Bool × Int → Prop} {mm : List (Int × Bool)} (hh : SmallH h) (hz : histE h = 0) (hi : imgE im = 0) (hs : szs im = h.Sizes)
    (hm : ∀ w, w < h.Writes.length → (mget mm (w : Int) false = true ↔ needB h im w = true))
    (kD : ∀ v k : Nat, v < im.length → k < szN im v → difV h im = (v : Int) → difK h im = (k : Int) → sec (ximH h im) v k ≠ sec im v k → consistency_Conflict_J7 Φ (true, (v : Int), (k : Int), [sec (ximH h im) v k]))
    (kN : difV h im = -1 → consistency_Conflict_J7 Φ (false, 0, 0, [])) : LoopW (consistency_Conflict_L6 h im false 0 0 mm [] Φ) (0, []) := by
  have hw := hist_wr hz
  refine LoopW.upT h.Writes.length (fun k => ((k : Int), selL k (needB h im))) rfl (fun k rec hk hr => ⟨fun _ => ⟨fun q => ?_, fun q => ⟨iI (by omega) (by omega), hr _ ?_⟩⟩, fun r => absurd (show (k : Int) < (h.Writes.length : Int) by omega) r⟩) fun rec => ⟨fun r => absurd r (by show ¬ ((h.Writes.length : Int) < (h.Writes.length : Int)); omega), fun _ => ?_⟩
  · have sl := selL_len (n := k) (p := needB h im)
    have e : selL k (needB h im) ++ [(k : Int)] = selL (k + 1) (needB h im) := by rw [selL_succ, if_pos ((hm k hk).1 q)]
    refine ⟨⟨?_, ?_⟩, iI (by omega) (by omega), hr _ (by rw [e]; rfl)⟩
    · show (selL k (needB h im) ++ [(k : Int)]).length * 8 ≤ _
      rw [List.length_append, List.length_singleton]; omega
    · show (selL k (needB h im) ++ [(k : Int)]).length ≤ maxLen
      rw [List.length_append, List.length_singleton]; unfold maxLen; omega
  · rw [selL_succ, if_neg fun t => q ((hm k hk).2 t), List.append_nil]; rfl
  · have sl := selL_len (n := h.Writes.length) (p := needB h im)
    have er : leastR h (needL h im) = (lowH h im, 0) := by
      unfold leastR
      rw [if_neg (fun t => t hz), if_neg (by rw [needL_set]; simp)]; rfl
    refine cut_Least_eq hh (by omega) er ⟨fun r => absurd rfl r, fun _ => ?_⟩
    have ll : (lowH h im).length ≤ 1000000 := by rw [lowH_sel]; have := selL_len (n := h.Writes.length) (p := lowC h (needL h im)); omega
    exact history_Image_ok hh ll (fun _ _ => ⟨fun r => absurd rfl r, fun _ => conflict_dif hz hi hs kD kN⟩) (fun r => absurd hz r) fun _ r => by rw [lowH_set] at r; exact Bool.noConfusion r
theorem conflict_unk {h : api_History} {im : List (List Sec)} {m : List (consistency_content × Int)} {Φ : api_Write × Bool × Int → Prop} (hh : SmallH h) (hz : histE h = 0) (hi : imgE im = 0) (hs : szs im = h.Sizes) (hm : AutM h m)
    (kU : ∀ (v k : Nat) mm, v < im.length → k < szN im v → unkV h im = (v : Int) → unkK h im = (k : Int) → unkB h im v k = true → consistency_Conflict_J5 h im Φ (true, (v : Int), (k : Int), mm, [sec im v k]))
    (kD : unkV h im = -1 → ∀ v k : Nat, v < im.length → k < szN im v → difV h im = (v : Int) → difK h im = (k : Int) → sec (ximH h im) v k ≠ sec im v k → consistency_Conflict_J7 Φ (true, (v : Int), (k : Int), [sec (ximH h im) v k]))
    (kN : unkV h im = -1 → difV h im = -1 → consistency_Conflict_J7 Φ (false, 0, 0, [])) : LoopW (consistency_Conflict_L10 h im m Φ) (0, []) := by
  have sm := fit_small (im := im) (by rw [show sizesE (szs im) = 0 from hi]; simp)
  refine nestS (inn := fun v rec => consistency_Conflict_L11 h im m (v : Int) rec Φ) im.length (szN im) (unkB h im) (fun v k mm => ∀ w : Nat, mget mm (w : Int) false = true ↔ NeedBy h im v k w) (fun w => ⟨fun t => Bool.noConfusion t, fun t => absurd t NeedBy.zero⟩)
    (fun v a hv ha w => (ha w).trans NeedBy.row.symm) (fun v a rec hv hl => ⟨fun _ => ⟨iX (by omega) (by omega), hl⟩, fun r => absurd (show (v : Int) < (im.length : Int) by omega) r⟩) ?_ ?_ ?_
  · intro v k mm rec rec' hv hk hp hq hI hr
    have sv := (sm.2.2 v hv).2
    have hk' : k < (ix im (v : Int)).length := hk
    refine ⟨fun _ => ⟨iX (by omega) (by omega), fun z => ⟨iI (by omega) (by omega), hr ?_ mm fun w => (hI w).trans (NeedBy.skip z).symm⟩, fun z => ⟨fun q => ?_, fun q => ?_⟩⟩, fun r => absurd (show (k : Int) < ((ix im (v : Int)).length : Int) by omega) r⟩
    · unfold unkB
      rw [decide_eq_false (fun t => t z)]; rfl
    · have hb : unkB h im v k = true := by
        unfold unkB
        rw [Bool.and_eq_true, decide_eq_true_iff, decide_eq_true_iff]
        refine ⟨z, ?_⟩
        have := fun t => q (hm.has.2 t)
        show autC h (v : Int) (k : Int) (sec im v k) < 0
        have t2 : ¬ 0 ≤ autC h (v : Int) (k : Int) (sec im v k) := this
        omega
      have hh := fst_hit hv hk hp hq hb
      exact kU v k mm hv hk hh.1 hh.2 hb
    · have q1 : 0 ≤ autC h (v : Int) (k : Int) (sec im v k) := hm.has.1 (Classical.not_not.1 q)
      have q2 : mget m ⟨⟨(v : Int), (k : Int)⟩, sec im v k⟩ 0 = autC h (v : Int) (k : Int) (sec im v k) := hm.get q1
      refine ⟨iI (by omega) (by omega), hr ?_ _ fun w => ?_⟩
      · unfold unkB
        rw [decide_eq_false (show ¬ autC h (v : Int) (k : Int) (sec im v k) < 0 by omega), Bool.and_false]
      · show mget (mput mm (mget m ⟨⟨(v : Int), (k : Int)⟩, sec im v k⟩ 0) true) (w : Int) false = true ↔ _
        rw [mget_put, q2, NeedBy.take z, ← hI w]
        by_cases e : (w : Int) = autC h (v : Int) (k : Int) (sec im v k)
        · rw [if_pos e]; exact ⟨fun _ => .inr e.symm, fun _ => rfl⟩
        · rw [if_neg e]; exact ⟨.inl, fun t => t.elim id fun u => absurd u.symm e⟩
  · intro v a rec rec' hv hr
    have sv := (sm.2.2 v hv).2
    exact ⟨fun r => absurd r (by show ¬ ((szN im v : Int) < ((ix im (v : Int)).length : Int)); unfold szN; omega), fun _ => ⟨iI (by omega) (by omega), hr⟩⟩
  · intro mm rec hp hI
    exact ⟨fun r => absurd r (by show ¬ ((im.length : Int) < (im.length : Int)); omega), fun _ => ⟨fun r => Bool.noConfusion r, fun _ => conflict_ned hh hz hi hs (fun w _ => (hI w).trans NeedBy.all) (kD (fst_none hp)) (kN (fst_none hp))⟩⟩
theorem conflict_col {h : api_History} {im : List (List Sec)} {Φ : api_Write × Bool × Int → Prop} (hz : histE h = 0) (kB : distB h = false → Φ (noW, false, 1))
    (kG : distB h = true → ∀ m, AutM h m → LoopW (consistency_Conflict_L10 h im m Φ) (0, [])) : LoopW (consistency_Conflict_L2 h im Φ) (0, []) := by
  have hn := hist_wr hz
  refine LoopW.upS h.Writes.length (fun s => s.1) (fun i s => (∀ j, j < i → okW h j = true) ∧ MapOk h i 0 s.2 ∧ ValOk h i 0 s.2) ?_ 0 rfl (Nat.zero_le _) ⟨fun j hj => absurd hj (Nat.not_lt_zero j), fun c => ⟨fun t => Bool.noConfusion t, fun ⟨j, q, h1, _⟩ => by omega⟩, fun c x t => by cases t⟩
  rintro i ⟨_, m⟩ rec hi rfl ⟨hI, hm, hv⟩ hrec
  refine ⟨fun r => ?_, fun r => ?_⟩
  · have hi : i < h.Writes.length := by omega
    have bad : okW h i = false → Φ (noW, false, 1) := fun t => kB (allN_false hi t)
    have fi := hist_fit hz hi
    refine ⟨iX (by omega) (by omega), ?_⟩
    refine LoopW.upS (wr h i).Data.length (fun s => s.1) (fun k s => (∀ j, j < k → okI h i j = true) ∧ MapOk h i k s.2 ∧ ValOk h i k s.2) ?_ 0 rfl (Nat.zero_le _) ⟨fun j hj => absurd hj (Nat.not_lt_zero j), hm, hv⟩
    rintro k ⟨_, m'⟩ rec3 hk rfl ⟨hJ, hm', hv'⟩ hrec3
    refine ⟨fun r3 => ?_, fun r3 => ?_⟩
    · have hk : k < (wr h i).Data.length := by exact_mod_cast r3
      have badk : okI h i k = false → Φ (noW, false, 1) := fun t => bad (allN_false hk t)
      have hno : Φ (noW, false, 1) → consistency_Conflict_J3 (i : Int) rec Φ (false, (mput m' (keyAt h i k) (i : Int))) := fun t => ⟨fun _ => ⟨fun _ => t, fun u => absurd (by decide) u⟩, fun u => absurd (fun v => Bool.noConfusion v) u⟩
      refine ⟨iX (by omega) (by exact_mod_cast hk), iI (by show _ ≤ (wr h i).Start + (k : Int); omega) (by show (wr h i).Start + (k : Int) ≤ _; omega), fun u => ⟨fun v => hno (badk ?_), fun v => ⟨iI (by omega) (by omega), hrec3 _ hk rfl ⟨fun j hj => ?_, hm'.put _, hv'.put⟩⟩⟩, fun u => hno (badk ?_)⟩
      · exact okI_zero (Classical.not_not.1 v)
      · rcases Nat.lt_or_ge j k with c | c
        · exact hJ j c
        · obtain rfl : j = k := by omega
          exact okI_iff.2 ⟨Classical.not_not.1 v, fun w => u ((hm' _).2 w)⟩
      · rw [Bool.eq_false_iff]
        exact fun w => (okI_iff.1 w).2 ((hm' _).1 (Classical.not_not.1 u))
    · have hk : k = (wr h i).Data.length := by
        have : ¬ ((k : Int) < ((wr h i).Data.length : Int)) := r3
        omega
      subst hk
      exact ⟨fun t => absurd rfl t, fun _ => ⟨iI (by omega) (by omega), hrec _ hi rfl ⟨fun j hj => by
        rcases Nat.lt_or_ge j i with c | c
        · exact hI j c
        · obtain rfl : j = i := by omega
          exact allN_true.2 hJ, hm'.next, hv'.next⟩⟩⟩
  · have e : i = h.Writes.length := by omega
    subst e
    have hd : distB h = true := allN_true.2 hI
    exact ⟨fun t => absurd rfl t, fun _ => kG hd m (AutM.of hd hm hv)⟩
theorem conflict_jdg {h : api_History} {im : List (List Sec)} {Φ : api_Write × Bool × Int → Prop} (hh : SmallH h) (hl : im.length ≤ 100000) (kE : rgtE h im ≠ 0 → Φ (noW, false, rgtE h im))
    (kG : histE h = 0 → imgE im = 0 → szs im = h.Sizes → distB h = true → ∀ m, AutM h m → LoopW (consistency_Conflict_L10 h im m Φ) (0, [])) : consistency_Conflict_W h im Φ := by
  refine history_Check_ok hh ⟨fun q => ⟨fun _ => ?_, fun r => absurd q r⟩, fun q => ?_⟩
  · have e : rgtE h im = histE h := by unfold rgtE; rw [if_pos q]
    rw [e] at kE; exact kE q
  have hz : histE h = 0 := Classical.not_not.1 q
  refine image_Check_ok hl ⟨fun q2 => ⟨fun _ => ?_, fun r => absurd q2 r⟩, fun q2 => ?_⟩
  · have e : rgtE h im = imgE im := by unfold rgtE; rw [if_neg q, if_pos q2]
    rw [e] at kE; exact kE q2
  have hi : imgE im = 0 := Classical.not_not.1 q2
  have sm := fit_small (im := im) (by rw [show sizesE (szs im) = 0 from hi]; simp)
  have bad : szs im ≠ h.Sizes → consistency_Conflict_J1 h im Φ true := fun q3 => ⟨fun _ => ⟨fun _ => by
    have e : rgtE h im = 22 := by unfold rgtE; rw [if_neg q, if_neg q2, if_pos q3]
    rw [e] at kE; exact kE (by decide), fun r => absurd (by decide) r⟩, fun r => absurd rfl r⟩
  have good : szs im = h.Sizes → consistency_Conflict_J1 h im Φ false := fun q3 => ⟨fun r => Bool.noConfusion r, fun _ => conflict_col hz (fun q4 => by
    have e : rgtE h im = 1 := by unfold rgtE; rw [if_neg q, if_neg q2, if_neg (fun t => t q3), if_pos q4]
    rw [e] at kE; exact kE (by decide)) (kG hz hi q3)⟩
  refine ⟨fun r => bad fun t => r (by rw [← t, szs_len]), fun r => ?_⟩
  have hl2 : im.length = h.Sizes.length := by omega
  refine LoopW.upI im.length (fun k => (k : Int)) (fun k => ∀ j, j < k → ((ix im (j : Int)).length : Int) = ix h.Sizes (j : Int)) rfl (fun j hj => absurd hj (Nat.not_lt_zero j)) (fun k rec hk hI hr => ⟨fun _ => ⟨iX (by omega) (by omega), iX (by omega) (by omega), fun t => bad fun u => t (decide_eq_true ((szs_eq_iff hl2).1 u k hk)), fun t => ⟨iI (by omega) (by omega), hr (fun j hj => ?_) _ rfl⟩⟩, fun t => absurd (show (k : Int) < (im.length : Int) by omega) t⟩) fun rec hI => ⟨fun t => absurd t (by omega), fun _ => good ((szs_eq_iff hl2).2 hI)⟩
  rcases Nat.lt_or_ge j k with c | c
  · exact hI j c
  · obtain rfl : j = k := by omega
    exact of_decide_eq_true (Classical.not_not.1 t)
theorem sel_room {n k : Nat} {p : Nat → Bool} (hk : k < n) (hn : n ≤ 4096) : lenOk (selL k p ++ ([(k : Int)] : List Int)).length 8 := by
  have := selL_len (n := k) (p := p)
  refine ⟨?_, ?_⟩
  · rw [List.length_append, List.length_singleton]; omega
  · rw [List.length_append, List.length_singleton]; unfold maxLen; omega
theorem consistency_Conflict_ok {h : api_History} {im : List (List Sec)} {Φ : api_Write × Bool × Int → Prop} (hh : SmallH h) (hl : im.length ≤ 100000) (hΦ : Φ (conR h im)) : consistency_Conflict_W h im Φ := by
  unfold conR at hΦ
  refine conflict_jdg hh hl (fun q => by rw [if_pos q] at hΦ; exact hΦ) fun hz hi hs hd m hm => ?_
  have e0 : rgtE h im = 0 := by unfold rgtE; rw [if_neg (fun t => t hz), if_neg (fun t => t hi), if_neg (fun t => t hs), if_neg (by rw [hd]; simp)]
  rw [if_neg (fun t => t e0)] at hΦ
  unfold cflW cflB at hΦ
  refine conflict_unk hh hz hi hs hm (fun v k mm _ _ e1 e2 _ => ⟨fun _ => ?_, fun r => absurd rfl r⟩) (fun n v k _ _ e1 e2 _ => ?_) fun n d => ?_
  · rw [e1, e2, if_pos (by omega), decide_eq_true (.inl (by omega))] at hΦ; exact hΦ
  · rw [n, e1, e2, if_neg (by omega), if_pos (by omega), decide_eq_true (.inr (by omega))] at hΦ; exact hΦ
  · rw [n, d, if_neg (by omega), if_neg (by omega), decide_eq_false (by omega)] at hΦ; exact hΦ
theorem consistency_Find_ok {h : api_History} {im : List (List Sec)} {Φ : List Int × Bool × Int → Prop} (hh : SmallH h) (hl : im.length ≤ 100000) (hΦ : Φ (findR h im)) : consistency_Find_W h im Φ := by
  unfold findR at hΦ
  refine find_jdg hh hl (fun q => by rw [if_pos q] at hΦ; exact hΦ) fun hz hi hs hd m hm => ?_
  have e0 : rgtE h im = 0 := by unfold rgtE; rw [if_neg (fun t => t hz), if_neg (fun t => t hi), if_neg (fun t => t hs), if_neg (by rw [hd]; simp)]
  rw [if_neg (fun t => t e0)] at hΦ
  unfold cflB at hΦ
  refine find_unk hh hz hi hs hm (fun v k mm _ _ e1 e2 _ => ⟨fun _ => ⟨fun r => absurd rfl r, fun _ => ⟨fun _ => ?_, fun r => absurd rfl r⟩⟩, fun r => absurd rfl r⟩) (fun n v k _ _ e1 e2 _ => ⟨fun r => absurd rfl r, fun _ => ⟨fun _ => ?_, fun r => absurd rfl r⟩⟩) fun n d => ⟨fun r => absurd rfl r, fun _ => ⟨fun r => Bool.noConfusion r, fun _ => ?_⟩⟩
  · rw [if_pos (decide_eq_true (.inl (by omega)))] at hΦ; exact hΦ
  · rw [if_pos (decide_eq_true (.inr (by omega)))] at hΦ; exact hΦ
  · rw [if_neg (by rw [decide_eq_false (by omega)]; simp)] at hΦ; exact hΦ
theorem allN_succ {p : Nat → Bool} {k : Nat} : allN p (k + 1) = (allN p k && p k) := by
  unfold allN
  rw [List.range_succ, List.all_append, List.all_cons, List.all_nil, Bool.and_true]
theorem great_relate {h : api_History} {l : List Int} {Φ : List Int × Int → Prop} (hh : SmallH h) (hz : histE h = 0) (he : LoopW (cut_Greatest_L3 h l (issW h) (ackW h) Φ) (0, [])) :
    LoopW (cut_Greatest_L2 h l Φ) (0, List.replicate h.Writes.length (h.Events.length : Int), List.replicate h.Writes.length (h.Events.length : Int)) := by
  have hev := hh.ev
  refine LoopW.upT h.Events.length (fun k => ((k : Int), relL h.Events 0 h.Writes.length h.Events.length k, relL h.Events 1 h.Writes.length h.Events.length k)) (by rw [relL_zero, relL_zero]; rfl) (fun k rec hk hr => ⟨fun _ => ⟨iX (by omega) (by omega), fun q => ?_, fun q => ?_⟩, fun r => by omega⟩) fun rec => ⟨fun r => by omega, fun _ => ⟨fun r => absurd rfl r, fun _ => he⟩⟩
  · obtain ⟨w, e1, e2, e3, e4⟩ := (ev_put hz (N := (h.Events.length : Int)) hk).1 q
    refine ⟨iX (by rw [e1]; omega) (by rw [e1, relL_len]; omega), iI (by omega) (by omega), hr _ ?_⟩
    rw [e1, e3, e4]; rfl
  · obtain ⟨w, e1, e2, e3, e4⟩ := (ev_put hz (N := (h.Events.length : Int)) hk).2 q
    refine ⟨iX (by rw [e1]; omega) (by rw [e1, relL_len]; omega), iI (by omega) (by omega), hr _ ?_⟩
    rw [e1, e3, e4]; rfl
def goodB (h : api_History) (ms : List Bool) (b : Nat) (k : Nat) : Bool := allN (fun a => ix ms (a : Int) || !befC h a b) k
def trimL (h : api_History) (ms o : List Bool) (b k : Nat) : List Bool := put o (b : Int) (ix o (b : Int) && goodB h ms b k)
theorem trimL_len {h : api_History} {ms o : List Bool} {b k : Nat} : (trimL h ms o b k).length = o.length := put_len _ _ _
theorem great_L5 {h : api_History} {ms o : List Bool} {b : Nat} {rec4 : (List (Int × Unit) × List Bool) → Prop} {r : List (Int × Unit)} {Φ : List Int × Int → Prop} (hw : h.Writes.length ≤ 4096) (hm : ms.length = h.Writes.length) (ho : o.length = h.Writes.length) (hb : b < h.Writes.length) (hr : rec4 (r, trimL h ms o b h.Writes.length)) :
    LoopW (cut_Greatest_L5 h (issW h) (ackW h) [ms] rec4 ((b : Int), ()) r Φ) (0, o) := by
  have xb : ∀ q : List Bool, q.length = o.length → inX (b : Int) q.length := fun q e => iX (by omega) (by rw [e, ho]; omega)
  refine LoopW.upT h.Writes.length (fun k => ((k : Int), trimL h ms o b k)) (by
    show _ = ((0 : Int), put o (b : Int) (ix o (b : Int) && true))
    rw [Bool.and_true, put_ix (xb o rfl)]) (fun k rec hk hrec => ?_) fun rec => ⟨fun q => by omega, fun _ => hr⟩
  have hx : ix (trimL h ms o b k) (b : Int) = (ix o (b : Int) && goodB h ms b k) := ix_put_self _ (xb o rfl)
  have hi := xb _ (trimL_len (h := h) (ms := ms) (o := o) (b := b) (k := k))
  have st : ∀ c, (ix o (b : Int) && goodB h ms b (k + 1)) = c → put (trimL h ms o b k) (b : Int) c = trimL h ms o b (k + 1) := fun c e => by unfold trimL; rw [put_put, e]
  have gs : goodB h ms b (k + 1) = (goodB h ms b k && (ix ms (k : Int) || !befC h k b)) := allN_succ
  refine ⟨fun _ => ⟨hi, fun q => ⟨iX (by omega) (by show (0 : Int) < ((1 : Nat) : Int); omega), iX (by omega) (by show (k : Int) < (ms.length : Int); omega), fun q2 => ⟨hi, iI (by omega) (by omega), hrec _ ?_⟩, fun q2 => ⟨_, cut_before_ok hk hb rfl, hi, iI (by omega) (by omega), hrec _ ?_⟩⟩, fun q => ⟨hi, iI (by omega) (by omega), hrec _ ?_⟩⟩, fun q => by omega⟩
  · have q2 : ix ms (k : Int) = true := q2
    rw [hx] at q
    rw [st true (by rw [gs, q2, Bool.true_or, Bool.and_true]; exact q)]; rfl
  · have q2 : ix ms (k : Int) = false := Bool.eq_false_iff.2 q2
    rw [hx, Bool.and_eq_true] at q
    rw [st _ (show _ = decide (¬ (befC h k b = true)) by rw [gs, q2, q.1, q.2, Bool.false_or, Bool.true_and, Bool.true_and]; cases befC h k b <;> rfl)]; rfl
  · rw [hx] at q
    have q : (ix o (b : Int) && goodB h ms b k) = false := Bool.eq_false_iff.2 q
    rw [st false (by rw [gs, ← Bool.and_assoc, q, Bool.false_and])]; rfl
def trimsL (h : api_History) (ms : List Bool) (o : List Bool) : List (Int × Unit) → List Bool
  | [] => o
  | p :: l => trimsL h ms (trimL h ms o p.1.toNat h.Writes.length) l
theorem trimsL_len {h : api_History} {ms : List Bool} : ∀ {l : List (Int × Unit)} {o : List Bool}, (trimsL h ms o l).length = o.length
  | [], _ => rfl
  | _ :: l, _ => (trimsL_len (l := l)).trans trimL_len
theorem great_L4 {h : api_History} {ms : List Bool} {Φ : List Int × Int → Prop} (hw : h.Writes.length ≤ 4096) (hm : ms.length = h.Writes.length) : ∀ {l : List (Int × Unit)} {o : List Bool}, o.length = h.Writes.length → (∀ p ∈ l, 0 ≤ p.1 ∧ p.1 < (h.Writes.length : Int)) → Φ ((memL (trimsL h ms o l) 0).map Prod.fst, 0) → LoopW (cut_Greatest_L4 h (issW h) (ackW h) [ms] Φ) (l, o) := by
  intro l o ho hl hΦ
  refine LoopW.of_inv (fun s => s.2.length = h.Writes.length ∧ (∀ p ∈ s.1, 0 ≤ p.1 ∧ p.1 < (h.Writes.length : Int)) ∧ Φ ((memL (trimsL h ms s.2 s.1) 0).map Prod.fst, 0)) (fun s => s.1.length) ?_ ⟨ho, hl, hΦ⟩
  rintro ⟨l, o⟩ rec ⟨ho, hl, hΦ⟩ hrec
  cases l with
  | nil => exact marks_list_ok (by show o.length ≤ 1000000; have : o.length = h.Writes.length := ho; omega) hΦ
  | cons p l =>
    obtain ⟨b, u⟩ := p
    have hb := hl (b, u) List.mem_cons_self
    have e : ((b.toNat : Nat) : Int) = b := Int.toNat_of_nonneg hb.1
    have hq := great_L5 (Φ := Φ) (rec4 := rec) (r := l) (b := b.toNat) hw hm ho (by have : b < (h.Writes.length : Int) := hb.2; omega) (hrec _ ⟨trimL_len.trans ho, fun p hp => hl p (List.mem_cons_of_mem _ hp), hΦ⟩ (by show l.length < l.length + 1; omega))
    rw [e] at hq
    exact hq
theorem ix_trimsL {h : api_History} {ms : List Bool} {w : Nat} (hw : w < h.Writes.length) : ∀ {ps : List (Int × Unit)} {o : List Bool}, o.length = h.Writes.length → (∀ p ∈ ps, 0 ≤ p.1 ∧ p.1 < (h.Writes.length : Int)) → ix (trimsL h ms o ps) (w : Int) = (ix o (w : Int) && ps.all fun p => !decide (p.1.toNat = w) || goodB h ms w h.Writes.length)
  | [], o, _, _ => by show ix o _ = _; simp
  | p :: ps, o, ho, hp => by
    have hb := hp p List.mem_cons_self
    have := ix_trimsL (ms := ms) hw (ps := ps) (o := trimL h ms o p.1.toNat h.Writes.length) (trimL_len.trans ho) fun q hq => hp q (List.mem_cons_of_mem _ hq)
    show ix (trimsL h ms (trimL h ms o p.1.toNat h.Writes.length) ps) _ = _
    rw [this, List.all_cons, ← Bool.and_assoc]
    congr 1
    unfold trimL
    rw [ix_put _ _ (by omega)]
    by_cases q : w = p.1.toNat
    · rw [if_pos q, decide_eq_true q.symm, ← q]; rfl
    · rw [if_neg q, decide_eq_false (fun t => q t.symm), Bool.not_false, Bool.true_or, Bool.and_true]
theorem great_sel {h : api_History} {l : List Int} : (memL (trimsL h (markL h.Writes.length l) (markL h.Writes.length l) (memL (markL h.Writes.length l) 0)) 0).map Prod.fst = greatC h l := by
  rw [memL_sel, trimsL_len, markL_len]
  refine selL_congr fun w hw => ?_
  rw [ix_trimsL hw markL_len fun p hp => (mem_members.1 hp).2, ix_markL hw]
  unfold topC
  have eg : goodB h (markL h.Writes.length l) w h.Writes.length = allN (fun a => decide ((a : Int) ∈ l) || !befC h a w) h.Writes.length := allN_congr fun a ha => by rw [ix_markL ha]
  rw [eg]
  by_cases q : (w : Int) ∈ l
  · rw [decide_eq_true q, Bool.true_and, Bool.true_and, Bool.eq_iff_iff, List.all_eq_true]
    constructor
    · intro t
      have := t ((w : Int), ()) (mem_members.2 ⟨q, by show (0 : Int) ≤ (w : Int); omega, by show (w : Int) < (h.Writes.length : Int); omega⟩)
      rw [show (decide ((((w : Int), ()) : Int × Unit).1.toNat = w)) = true from decide_eq_true (Int.toNat_natCast w)] at this
      exact this
    · intro t p _
      rw [t, Bool.or_true]
  · rw [decide_eq_false q, Bool.false_and, Bool.false_and]
theorem cut_Greatest_ok {h : api_History} {l : List Int} {Φ : List Int × Int → Prop} (hh : SmallH h) (hl : l.length ≤ 1000000) (hΦ : Φ (greatR h l)) : cut_Greatest_W h l Φ := by
  unfold greatR at hΦ
  refine history_Check_ok hh ⟨fun q => ⟨fun _ => ⟨fun _ => by rw [if_pos q] at hΦ; exact hΦ, fun r => absurd q r⟩, fun r => absurd q r⟩, fun q => ?_⟩
  rw [if_neg q] at hΦ
  have hz : histE h = 0 := Classical.not_not.1 q
  have hw := hist_wr hz
  refine ⟨_, slices_Repeat_int_ok (by omega) rfl, _, slices_Repeat_int_ok (by omega) rfl, great_relate hh hz ⟨2, ?_⟩⟩
  refine ⟨fun _ => ⟨iX (by omega) (by show (0 : Int) < 1; omega), cut_relation_mark_ok (r := Ptr.mk (cut_relation.mk (h.Writes.length : Int) (h.Events.length : Int) (issW h) (ackW h))) rfl (by omega) hl (fun t => ⟨fun u => absurd rfl u, fun _ => ⟨⟨(by show 1 * 24 ≤ _; omega), (by show 1 ≤ maxLen; unfold maxLen; omega)⟩, iI (by omega) (by omega), ?_⟩⟩) fun t => ⟨fun _ => ⟨fun _ => by rw [if_pos (show isSetB l (h.Writes.length : Int) = false from t)] at hΦ; exact hΦ, fun r => absurd (by decide) r⟩, fun u => absurd (fun v => Bool.noConfusion v) u⟩⟩, fun r => absurd (by show (0 : Int) < 1; omega) r⟩
  have t : isSetB l (h.Writes.length : Int) = true := t
  rw [if_neg (by rw [t]; exact fun x => Bool.noConfusion x), ← great_sel] at hΦ
  refine ⟨fun r => absurd r (by show ¬ ((0 : Int) + 1 < 1); omega), fun _ => ⟨fun r => absurd rfl r, fun _ => ⟨iX (by omega) (by show (0 : Int) < 1; omega), ?_⟩⟩⟩
  have hx : ix (([] : List (List Bool)) ++ [markL h.Writes.length l]) 0 = markL h.Writes.length l := rfl
  have tl : inX 0 (([] : List (List Bool)) ++ [markL h.Writes.length l]).length ∧ ∃ l18, cut_marks_members_1_I (ix (([] : List (List Bool)) ++ [markL h.Writes.length l]) 0) l18 ∧ LoopW (cut_Greatest_L4 h (issW h) (ackW h) [markL h.Writes.length l] Φ) (l18, markL h.Writes.length l) :=
    ⟨iX (by omega) (by show (0 : Int) < 1; omega), _, marks_members_ok (by rw [hx, markL_len]; omega), great_L4 hw markL_len markL_len (fun p hp => by have := memL_rg hp; rw [hx, markL_len] at this; exact this) hΦ⟩
  refine ⟨fun e => ?_, ⟨⟨by show (markL h.Writes.length l).length * 1 ≤ _; rw [markL_len]; omega, by show (markL h.Writes.length l).length ≤ maxLen; rw [markL_len]; unfold maxLen; omega⟩, tl⟩⟩
  have e : markL h.Writes.length l = [] := e
  obtain ⟨t1, l18, t2, t3⟩ := tl
  have t3' : LoopW (cut_Greatest_L4 h (issW h) (ackW h) [markL h.Writes.length l] Φ) (l18, []) := Eq.mp (congrArg (fun z => LoopW (cut_Greatest_L4 h (issW h) (ackW h) [markL h.Writes.length l] Φ) (l18, z)) e) t3
  exact ⟨t1, l18, t2, t3'⟩
theorem cut_Greatest_eq {h : api_History} {l : List Int} {r : List Int × Int} {Φ : List Int × Int → Prop} (hh : SmallH h) (hl : l.length ≤ 1000000) (e : greatR h l = r) (hΦ : Φ r) : cut_Greatest_W h l Φ := cut_Greatest_ok hh hl (by rw [e]; exact hΦ)
theorem alwL_set {h : api_History} {im : List (List Sec)} : isSetB (alwL h im) (h.Writes.length : Int) = true := selL_set (Nat.le_refl _) (Int.le_refl _)
theorem newest_alw {h : api_History} {im : List (List Sec)} {m : List (consistency_content × Int)} {Φ : List Int × Bool × Int → Prop} (hh : SmallH h) (hz : histE h = 0) (hi : imgE im = 0) (hs : szs im = h.Sizes) (hm : AutM h m) (hΦ : Φ (greatC h (alwL h im), true, 0)) : LoopW (consistency_Newest_L7 h im m Φ) (0, []) := by
  have hw := hist_wr hz
  have sm := fit_small (im := im) (by rw [show sizesE (szs im) = 0 from hi]; simp)
  have el : im.length = h.Sizes.length := by rw [← hs, szs_len]
  refine LoopW.upT h.Writes.length (fun k => ((k : Int), selL k (alwB h im))) rfl (fun i rec hi2 hr => ⟨fun _ => ⟨iX (by omega) (by omega), ?_⟩, fun r => absurd (show (i : Int) < (h.Writes.length : Int) by omega) r⟩) fun rec => ⟨fun r => absurd r (by omega), fun _ => ?_⟩
  · have fi := hist_fit hz hi2
    have ev : (((wr h i).Volume.toNat : Nat) : Int) = (wr h i).Volume := Int.toNat_of_nonneg fi.1
    have hvl : (wr h i).Volume.toNat < im.length := by omega
    have hrow : ((ix im (wr h i).Volume).length : Int) = ix h.Sizes (wr h i).Volume := by rw [← ev, ← ix_szs hvl, hs]
    have xv : inX (wr h i).Volume im.length := iX (by omega) (by omega)
    have cases : ∀ b, alwB h im i = b → consistency_Newest_J8 (i : Int) (selL i (alwB h im)) rec Φ b := fun b e => by
      refine ⟨fun t => ⟨sel_room hi2 hw, iI (by omega) (by omega), hr _ ?_⟩, fun t => ⟨iI (by omega) (by omega), hr _ ?_⟩⟩
      · rw [selL_succ, if_pos (e.trans t)]; rfl
      · rw [selL_succ, if_neg (by rw [e]; exact t), List.append_nil]; rfl
    refine LoopW.allL (Φ := fun b => alwB h im i = b → consistency_Newest_J8 (i : Int) (selL i (alwB h im)) rec Φ b) (wr h i).Data.length (fun k => decide ((i : Int) ≤ autC h (wr h i).Volume ((wr h i).Start + (k : Int)) (ix (ix im (wr h i).Volume) ((wr h i).Start + (k : Int))))) (fun e => cases _ e) (fun k rec2 hk _ hf ht => ?_) fun rec2 h0 ha => ⟨fun r => absurd r (by show ¬ (((wr h i).Data.length : Int) < ((wr h i).Data.length : Int)); omega), fun _ => h0 (allN_true.2 ha)⟩
    have bad : decide ((i : Int) ≤ autC h (wr h i).Volume ((wr h i).Start + (k : Int)) (ix (ix im (wr h i).Volume) ((wr h i).Start + (k : Int)))) = false → consistency_Newest_J8 (i : Int) (selL i (alwB h im)) rec Φ false := fun t => cases false (allN_false hk t)
    have hd : k < (ix h.Writes (i : Int)).Data.length := hk
    have x5 : inX ((wr h i).Start + (k : Int)) (ix im (wr h i).Volume).length := iX (by omega) (by omega)
    refine ⟨fun _ => ⟨iX (by omega) (by exact_mod_cast hk), iI (by show _ ≤ (wr h i).Start + (k : Int); omega) (by show (wr h i).Start + (k : Int) ≤ _; omega), xv, x5, fun q => ?_, fun q => bad (decide_eq_false fun t => ?_)⟩, fun r => absurd (show (k : Int) < ((ix h.Writes (i : Int)).Data.length : Int) by omega) r⟩
    · have q1 : 0 ≤ autC h (wr h i).Volume ((wr h i).Start + (k : Int)) (ix (ix im (wr h i).Volume) ((wr h i).Start + (k : Int))) := hm.has.1 q
      have q2 := hm.get q1
      refine ⟨fun t => bad (decide_eq_false fun u => t ?_), fun t => ⟨iI (by omega) (by omega), ht (decide_eq_true ?_)⟩⟩
      · rw [← q2] at u; exact u
      · have t := Classical.not_not.1 t
        rw [← q2]; exact t
    · exact q (hm.has.2 (by show 0 ≤ autC h (wr h i).Volume ((wr h i).Start + (k : Int)) (ix (ix im (wr h i).Volume) ((wr h i).Start + (k : Int))); omega))
  · have sl := selL_len (n := h.Writes.length) (p := alwB h im)
    refine cut_Greatest_eq (r := (greatC h (alwL h im), 0)) hh (by omega) ?_ hΦ
    show greatR h (alwL h im) = _
    unfold greatR
    rw [if_neg (fun t => t hz), if_neg (by rw [alwL_set]; simp)]
theorem consistency_Newest_ok {h : api_History} {im : List (List Sec)} {Φ : List Int × Bool × Int → Prop} (hh : SmallH h) (hl : im.length ≤ 100000) (hΦ : Φ (nwsR h im)) : consistency_Newest_W h im Φ := by
  unfold nwsR at hΦ
  refine newest_jdg hh hl (fun q => by rw [if_pos q] at hΦ; exact hΦ) fun hz hi hs hd m hm => ?_
  have e0 : rgtE h im = 0 := by unfold rgtE; rw [if_neg (fun t => t hz), if_neg (fun t => t hi), if_neg (fun t => t hs), if_neg (by rw [hd]; simp)]
  rw [if_neg (fun t => t e0)] at hΦ
  unfold cflB at hΦ
  refine newest_unk hh hz hi hs hm (fun v k mm _ _ e1 e2 _ => ⟨fun _ => ⟨fun r => absurd rfl r, fun _ => ⟨fun _ => ?_, fun r => absurd rfl r⟩⟩, fun r => absurd rfl r⟩) (fun n v k _ _ e1 e2 _ => ⟨fun r => absurd rfl r, fun _ => ⟨fun _ => ?_, fun r => absurd rfl r⟩⟩) fun n d => ⟨fun r => absurd rfl r, fun _ => ⟨fun r => Bool.noConfusion r, fun _ => newest_alw hh hz hi hs hm ?_⟩⟩
  · rw [if_pos (decide_eq_true (.inl (by omega)))] at hΦ; exact hΦ
  · rw [if_pos (decide_eq_true (.inr (by omega)))] at hΦ; exact hΦ
  · rw [if_neg (by rw [decide_eq_false (by omega)]; simp)] at hΦ; exact hΦ
theorem atN_mono {l : List api_HistoryEvent} {e : api_HistoryEvent} {k : Nat} (h : 0 ≤ atN l k e) : ∀ m, atN l (k + m) e = atN l k e
  | 0 => rfl
  | m + 1 => by
    have ih := atN_mono h m
    rw [show k + (m + 1) = (k + m) + 1 by omega, atN_old (by rw [ih]; exact h), ih]
theorem atN_at {l : List api_HistoryEvent} {e : api_HistoryEvent} {n : Nat} (h : 0 ≤ atN l n e) : ∃ k : Nat, k < n ∧ atN l n e = (k : Int) ∧ ix l (k : Int) = e := by
  rcases idxN_cases (fun k => decide (ix l (k : Int) = e)) n with ⟨h1, _⟩ | ⟨k, hk, h1, h2, _⟩
  · have h1 : atN l n e = -1 := h1
    omega
  · exact ⟨k, hk, h1, of_decide_eq_true h2⟩
theorem ack_issue {h : api_History} (hz : histE h = 0) {a : Int} (q : 0 ≤ atN h.Events h.Events.length ⟨1, a⟩) : 0 ≤ a ∧ a < (h.Writes.length : Int) ∧ atN h.Events h.Events.length ⟨0, a⟩ < atN h.Events h.Events.length ⟨1, a⟩ := by
  obtain ⟨k, hk, e1, e2⟩ := atN_at q
  have hev := hist_ev hz hk
  have nk : ¬ (ix h.Events (k : Int)).Kind = 0 := by rw [e2]; exact fun t => absurd (show (1 : Int) = 0 from t) (by decide)
  obtain ⟨_, h1, h2, _⟩ := evErr_ack hev nk
  rw [e2] at h1 h2
  have h1 : 0 ≤ a := h1
  have h2 : a < (cntI h.Events k : Int) := h2
  have h0 : ∀ j, j < k → evErr h.Events h.Writes.length j = 0 := fun j hj => hist_ev hz (by omega)
  have c := cnt_le h0
  have i1 := (at_issue h0 a).2 ⟨h1, h2⟩
  have i2 := atN_mono i1 (h.Events.length - k)
  rw [show k + (h.Events.length - k) = h.Events.length by omega] at i2
  have i3 := atN_top h.Events k ⟨0, a⟩
  exact ⟨h1, by omega, by rw [i2, e1]; exact i3⟩
theorem befP_trans {h : api_History} (hz : histE h = 0) {a b c : Nat} (h1 : befP h a b = true) (h2 : befP h b c = true) : befP h a c = true := by
  unfold befP at h1 h2 ⊢
  rw [decide_eq_true_iff] at h1 h2 ⊢
  have := (ack_issue hz h2.1).2.2
  omega
def ClosedS (h : api_History) (l : List Int) : Prop := ∀ a b : Nat, a < h.Writes.length → (b : Int) ∈ l → befP h a b = true → (a : Int) ∈ l
theorem lowC_closed {h : api_History} (hz : histE h = 0) {l : List Int} (hl : isSetB l (h.Writes.length : Int) = true) : ClosedS h (selL h.Writes.length (lowC h l)) := by
  intro a b ha hb hab
  have hb := mem_selN.1 hb
  refine mem_selN.2 ⟨ha, ?_⟩
  have h2 := hb.2
  unfold lowC at h2 ⊢
  rw [Bool.or_eq_true, decide_eq_true_iff, List.any_eq_true] at h2 ⊢
  rcases h2 with m | ⟨x, hx, hf⟩
  · exact .inr ⟨(b : Int), m, by rw [Int.toNat_natCast, befC_eq hz ha hb.1]; exact hab⟩
  · have := isSetB_mem hl hx
    rw [befC_eq hz hb.1 (by omega)] at hf
    exact .inr ⟨x, hx, by rw [befC_eq hz ha (by omega)]; exact befP_trans hz hab hf⟩
theorem lowC_in {h : api_History} (hz : histE h = 0) {l c : List Int} (hl : isSetB l (h.Writes.length : Int) = true) (hc : ClosedS h c) (hs : ∀ x ∈ l, x ∈ c) : ∀ x ∈ selL h.Writes.length (lowC h l), x ∈ c := by
  intro x hx
  obtain ⟨a, rfl, ha, h2⟩ := mem_selL.1 hx
  unfold lowC at h2
  rw [Bool.or_eq_true, decide_eq_true_iff, List.any_eq_true] at h2
  rcases h2 with m | ⟨y, hy, hf⟩
  · exact hs _ m
  · have := isSetB_mem hl hy
    have e : ((y.toNat : Nat) : Int) = y := Int.toNat_of_nonneg this.1
    rw [befC_eq hz ha (by omega)] at hf
    exact hc a y.toNat ha (by rw [e]; exact hs y hy) hf
theorem lowC_has {h : api_History} {l : List Int} {a : Nat} (ha : a < h.Writes.length) (m : (a : Int) ∈ l) : (a : Int) ∈ selL h.Writes.length (lowC h l) := mem_selN.2 ⟨ha, by unfold lowC; rw [decide_eq_true m]; rfl⟩
theorem greatC_in {h : api_History} {l : List Int} : ∀ x ∈ greatC h l, x ∈ l := by
  intro x hx
  obtain ⟨b, rfl, _, h2⟩ := mem_selL.1 hx
  unfold topC at h2
  rw [Bool.and_eq_true, decide_eq_true_iff] at h2
  exact h2.1
theorem greatC_mem {h : api_History} {l : List Int} {b : Nat} : (b : Int) ∈ greatC h l ↔ b < h.Writes.length ∧ (b : Int) ∈ l ∧ ∀ a, a < h.Writes.length → befC h a b = true → (a : Int) ∈ l := by
  unfold greatC
  rw [mem_selN]
  unfold topC
  rw [Bool.and_eq_true, decide_eq_true_iff, allN_true]
  refine and_congr_right fun _ => and_congr_right fun _ => ⟨fun t a ha hab => ?_, fun t a ha => ?_⟩
  · have := t a ha
    rw [hab, Bool.not_true, Bool.or_false, decide_eq_true_iff] at this; exact this
  · cases e : befC h a b with
    | false => rw [Bool.not_false, Bool.or_true]
    | true => rw [decide_eq_true (t a ha e)]; rfl
theorem greatC_closed {h : api_History} (hz : histE h = 0) {l : List Int} : ClosedS h (greatC h l) := by
  intro a b ha hb hab
  obtain ⟨hb1, hb2, hb3⟩ := greatC_mem.1 hb
  refine greatC_mem.2 ⟨ha, hb3 a ha (by rw [befC_eq hz ha hb1]; exact hab), fun a' ha' haa => hb3 a' ha' ?_⟩
  rw [befC_eq hz ha' ha] at haa
  rw [befC_eq hz ha' hb1]
  exact befP_trans hz haa hab
theorem greatC_over {h : api_History} (hz : histE h = 0) {l c : List Int} (hb : isSetB c (h.Writes.length : Int) = true) (hc : ClosedS h c) (hs : ∀ x ∈ c, x ∈ l) : ∀ x ∈ c, x ∈ greatC h l := by
  intro x hx
  have m := isSetB_mem hb hx
  have e : ((x.toNat : Nat) : Int) = x := Int.toNat_of_nonneg m.1
  rw [← e]
  refine greatC_mem.2 ⟨by omega, by rw [e]; exact hs x hx, fun a ha hab => hs _ ?_⟩
  rw [befC_eq hz ha (by omega)] at hab
  exact hc a x.toNat ha (by rw [e]; exact hx) hab
theorem greatC_set {h : api_History} {l : List Int} : isSetB (greatC h l) (h.Writes.length : Int) = true := selL_set (Nat.le_refl _) (Int.le_refl _)
theorem last_or_none (p : Int → Prop) : ∀ {l : List Int}, l.Pairwise (· < ·) → (∀ b ∈ l, ¬ p b) ∨ ∃ s a t, l = s ++ a :: t ∧ p a ∧ ∀ b ∈ t, ¬ p b
  | [], _ => .inl fun b hb => absurd hb List.not_mem_nil
  | x :: l, hp => by
    rcases last_or_none p (List.pairwise_cons.1 hp).2 with h | ⟨s, a, t, e, ha, ht⟩
    · by_cases q : p x
      · exact .inr ⟨[], x, l, rfl, q, h⟩
      · refine .inl fun b hb => ?_
        rcases List.mem_cons.1 hb with r | r
        · rw [r]; exact q
        · exact h b r
    · exact .inr ⟨x :: s, a, t, by rw [e]; rfl, ha, ht⟩
theorem setWr_append (h : api_History) (s t : List Int) : setWr h (s ++ t) = setWr h s ++ setWr h t := by unfold setWr; rw [List.map_append]
theorem appL_append (im : List (List Sec)) (s t : List api_Write) : appL im (s ++ t) = appL (appL im s) t := by unfold appL; rw [List.foldl_append]
theorem sec_last {h : api_History} (hz : histE h = 0) {s t : List Int} {a : Int} (hb : isSetB (s ++ a :: t) (h.Writes.length : Int) = true) {v i : Nat} (ha : covW (ix h.Writes a) v i) (ht : ∀ b ∈ t, ¬ covW (ix h.Writes b) v i) : sec (imgH h (s ++ a :: t)) v i = ix (ix h.Writes a).Data ((i : Int) - (ix h.Writes a).Start) := by
  have hs : ¬ sizesE h.Sizes ≠ 0 := by rw [(histE_zero hz).1]; simp
  have e0 := szs_zeroI (histE_zero hz).1
  have hf := setWr_fit hz hb
  rw [setWr_append] at hf
  have f1 : ∀ w ∈ setWr h s, fitW h.Sizes w = 0 := fun w hw => hf w (List.mem_append_left _ hw)
  have f2 : fitW h.Sizes (ix h.Writes a) = 0 := hf _ (List.mem_append_right _ (List.mem_cons_self ..))
  have f3 : ∀ w ∈ setWr h t, fitW h.Sizes w = 0 := fun w hw => hf w (List.mem_append_right _ (List.mem_cons_of_mem _ hw))
  have ez : szs (appL (zeroI h.Sizes) (setWr h s)) = h.Sizes := by rw [szs_appL (by rw [e0]; exact hs) (by rw [e0]; exact f1), e0]
  obtain ⟨v0, s0, hw⟩ := fitW_of (by rw [ez]; exact hs) (show fitW (szs (appL (zeroI h.Sizes) (setWr h s))) (ix h.Writes a) = 0 by rw [ez]; exact f2)
  have ez2 := szs_apply1 hw
  rw [ez] at ez2
  unfold imgH
  rw [setWr_append, appL_append]
  show sec (appL (apply1 (appL (zeroI h.Sizes) (setWr h s)) (ix h.Writes a)) (setWr h t)) v i = _
  rw [sec_none (by rw [ez2]; exact hs) (by rw [ez2]; exact f3) (fun w hw2 => by
    obtain ⟨b, hb2, rfl⟩ := List.mem_map.1 hw2
    exact ht b hb2), sec_apply1 hw, if_pos ha]
theorem sec_zero {h : api_History} {v i : Nat} (hv : v < h.Sizes.length) (hi : (i : Int) < ix h.Sizes (v : Int)) : sec (zeroI h.Sizes) v i = sec0 := by
  unfold sec
  rw [ix_zeroI hv, ix_get (by rw [List.length_replicate]; omega), List.getElem_replicate]
theorem sec_nowr {h : api_History} (hz : histE h = 0) {l : List Int} (hb : isSetB l (h.Writes.length : Int) = true) {v i : Nat} (hv : v < h.Sizes.length) (hi : (i : Int) < ix h.Sizes (v : Int)) (hn : ∀ b ∈ l, ¬ covW (ix h.Writes b) v i) : sec (imgH h l) v i = sec0 := by
  have hs : ¬ sizesE h.Sizes ≠ 0 := by rw [(histE_zero hz).1]; simp
  have e0 := szs_zeroI (histE_zero hz).1
  unfold imgH
  rw [sec_none (by rw [e0]; exact hs) (by rw [e0]; exact setWr_fit hz hb) (fun w hw2 => by
    obtain ⟨b, hb2, rfl⟩ := List.mem_map.1 hw2
    exact hn b hb2), sec_zero hv hi]
theorem sec_img {h : api_History} (hz : histE h = 0) (hd : distB h = true) {l : List Int} (hb : isSetB l (h.Writes.length : Int) = true) {v i : Nat} (hv : v < h.Sizes.length) (hi : (i : Int) < ix h.Sizes (v : Int)) :
    (sec (imgH h l) v i = sec0 ∧ ∀ b : Nat, (b : Int) ∈ l → ¬ covW (wr h b) v i) ∨
    ∃ a : Nat, (a : Int) ∈ l ∧ a < h.Writes.length ∧ covW (wr h a) v i ∧ (∀ b : Nat, (b : Int) ∈ l → a < b → ¬ covW (wr h b) v i) ∧ sec (imgH h l) v i = ix (wr h a).Data ((i : Int) - (wr h a).Start) ∧ sec (imgH h l) v i ≠ sec0 ∧ autC h (v : Int) (i : Int) (sec (imgH h l) v i) = (a : Int) := by
  rcases last_or_none (fun b => covW (ix h.Writes b) v i) (set_pair hb) with q | ⟨s, a, t, e, ha, ht⟩
  · exact .inl ⟨sec_nowr hz hb hv hi q, fun b hb2 => q _ hb2⟩
  · have ma : a ∈ l := by rw [e]; exact List.mem_append_right _ (List.mem_cons_self ..)
    have m := isSetB_mem hb ma
    have ea : ((a.toNat : Nat) : Int) = a := Int.toNat_of_nonneg m.1
    have hx : sec (imgH h l) v i = ix (wr h a.toNat).Data ((i : Int) - (wr h a.toNat).Start) := by
      unfold wr
      rw [e, sec_last hz (by rw [← e]; exact hb) ha ht, ea]
    have hc : covW (wr h a.toNat) v i := by unfold wr; rw [ea]; exact ha
    have hh : hasC (wr h a.toNat) (v : Int) (i : Int) (sec (imgH h l) v i) = true := hasC_iff.2 ⟨hc, hx.symm⟩
    refine .inr ⟨a.toNat, by rw [ea]; exact ma, by omega, hc, fun b hb2 hlt hcb => ?_, hx, hasC_nz hd (by omega) hh, autC_of hd (by omega) hh⟩
    have hp := set_pair hb
    rw [e] at hp hb2
    have hp2 := List.pairwise_append.1 hp
    have hp3 := List.pairwise_cons.1 hp2.2.1
    rcases List.mem_append.1 hb2 with r | r
    · have := hp2.2.2 _ r a (List.mem_cons_self ..); omega
    · rcases List.mem_cons.1 r with r | r
      · omega
      · exact ht _ r hcb
theorem imgE_imgH {h : api_History} (hz : histE h = 0) {l : List Int} (hb : isSetB l (h.Writes.length : Int) = true) : imgE (imgH h l) = 0 := by
  unfold imgE
  rw [szs_imgH hz hb, (histE_zero hz).1]
theorem rgtE_imgH {h : api_History} (hz : histE h = 0) (hd : distB h = true) {l : List Int} (hb : isSetB l (h.Writes.length : Int) = true) : rgtE h (imgH h l) = 0 := by
  unfold rgtE
  rw [if_neg (fun t => t hz), if_neg (fun t => t (imgE_imgH hz hb)), if_neg (fun t => t (szs_imgH hz hb)), if_neg (by rw [hd]; simp)]
theorem img_place {h : api_History} (hz : histE h = 0) {l : List Int} (hb : isSetB l (h.Writes.length : Int) = true) {v k : Nat} (hv : v < (imgH h l).length) (hk : k < szN (imgH h l) v) : v < h.Sizes.length ∧ (k : Int) < ix h.Sizes (v : Int) := by
  have e := szs_imgH hz hb
  have e2 := ix_szs hv
  rw [e] at e2
  refine ⟨by rw [← e, szs_len]; exact hv, ?_⟩
  unfold szN at hk
  omega
theorem rec_unk {h : api_History} (hz : histE h = 0) (hd : distB h = true) {c : List Int} (hb : isSetB c (h.Writes.length : Int) = true) : unkV h (imgH h c) = -1 := by
  refine fst_none fun v hv k hk => ?_
  have p := img_place hz hb hv hk
  unfold unkB
  rcases sec_img hz hd hb p.1 p.2 with ⟨e, _⟩ | ⟨a, _, _, _, _, _, _, e⟩
  · rw [decide_eq_false (fun t => t e), Bool.false_and]
  · rw [e, decide_eq_false (show ¬ (a : Int) < 0 by omega), Bool.and_false]
theorem rec_need {h : api_History} (hz : histE h = 0) (hd : distB h = true) {c : List Int} (hb : isSetB c (h.Writes.length : Int) = true) : ∀ x ∈ needL h (imgH h c), x ∈ c := by
  intro x hx
  obtain ⟨w, rfl, _, hn⟩ := mem_selL.1 hx
  obtain ⟨v, k, hv, hk, h1, h2⟩ := needB_iff.1 hn
  have p := img_place hz hb hv hk
  rcases sec_img hz hd hb p.1 p.2 with ⟨e, _⟩ | ⟨a, ma, _, _, _, _, _, e⟩
  · exact absurd e h1
  · rw [e] at h2
    rw [← h2]; exact ma
theorem rec_low {h : api_History} (hz : histE h = 0) (hd : distB h = true) {c : List Int} (hb : isSetB c (h.Writes.length : Int) = true) (hc : ClosedS h c) : ∀ x ∈ lowH h (imgH h c), x ∈ c := by
  rw [lowH_sel]
  exact lowC_in hz needL_set hc (rec_need hz hd hb)
theorem rec_same {h : api_History} (hz : histE h = 0) (hd : distB h = true) {c d : List Int} (hb : isSetB c (h.Writes.length : Int) = true) (hbd : isSetB d (h.Writes.length : Int) = true)
    (h0 : ∀ v k : Nat, v < (imgH h c).length → k < szN (imgH h c) v → (∀ b : Nat, (b : Int) ∈ c → ¬ covW (wr h b) v k) → sec (imgH h c) v k = sec0 → ∀ b : Nat, (b : Int) ∈ d → ¬ covW (wr h b) v k)
    (h1 : ∀ v k a : Nat, v < (imgH h c).length → k < szN (imgH h c) v → (a : Int) ∈ c → autC h (v : Int) (k : Int) (sec (imgH h c) v k) = (a : Int) → sec (imgH h c) v k ≠ sec0 → (∀ b : Nat, (b : Int) ∈ c → a < b → ¬ covW (wr h b) v k) → (a : Int) ∈ d ∧ ∀ b : Nat, (b : Int) ∈ d → a < b → ¬ covW (wr h b) v k) : imgH h d = imgH h c := by
  have e1 := szs_imgH hz hb
  have e2 := szs_imgH hz hbd
  have el : (imgH h d).length = (imgH h c).length := by rw [← szs_len, ← szs_len, e1, e2]
  refine im_ext (e2.trans e1.symm) fun v k hv hk => ?_
  have hv' : v < (imgH h c).length := by omega
  have hk' : k < szN (imgH h c) v := by rw [← szN_of (e2.trans e1.symm) hv']; exact hk
  have p := img_place hz hb hv' hk'
  rcases sec_img hz hd hb p.1 p.2 with ⟨e, q⟩ | ⟨a, ma, ha, ca, q, e, nz, au⟩
  · rcases sec_img hz hd hbd p.1 p.2 with ⟨e3, _⟩ | ⟨a, ma, _, ca, _⟩
    · rw [e, e3]
    · exact absurd ca (h0 v k hv' hk' q e a ma)
  · obtain ⟨md, qd⟩ := h1 v k a hv' hk' ma au nz q
    rcases sec_img hz hd hbd p.1 p.2 with ⟨_, q3⟩ | ⟨a', ma', _, ca', q', e', _, _⟩
    · exact absurd ca (q3 a md)
    · have : a' = a := by
        rcases Nat.lt_trichotomy a' a with t | t | t
        · exact absurd ca (q' a md t)
        · exact t
        · exact absurd ca' (qd a' ma' t)
      subst this
      rw [e, e']
theorem rec_xim {h : api_History} (hz : histE h = 0) (hd : distB h = true) {c : List Int} (hb : isSetB c (h.Writes.length : Int) = true) (hc : ClosedS h c) : imgH h (lowH h (imgH h c)) = imgH h c := by
  refine rec_same hz hd hb lowH_set (fun v k _ _ q _ b mb => q b (rec_low hz hd hb hc _ mb)) fun v k a hv hk ma au nz q => ⟨?_, fun b mb => q b (rec_low hz hd hb hc _ mb)⟩
  have ha := isSetB_mem hb ma
  rw [lowH_sel]
  exact lowC_has (by omega) (mem_selN.2 ⟨by omega, needB_iff.2 ⟨v, k, hv, hk, nz, au⟩⟩)
theorem rec_dif {h : api_History} (hz : histE h = 0) (hd : distB h = true) {c : List Int} (hb : isSetB c (h.Writes.length : Int) = true) (hc : ClosedS h c) : difV h (imgH h c) = -1 := by
  refine fst_none fun v hv k hk => decide_eq_false ?_
  unfold ximH
  rw [rec_xim hz hd hb hc]
  exact fun t => t rfl
theorem rec_cfl {h : api_History} (hz : histE h = 0) (hd : distB h = true) {c : List Int} (hb : isSetB c (h.Writes.length : Int) = true) (hc : ClosedS h c) : cflB h (imgH h c) = false ∧ cflW h (imgH h c) = noW := by
  unfold cflB cflW
  rw [rec_unk hz hd hb, rec_dif hz hd hb hc, if_neg (by omega), if_neg (by omega)]
  exact ⟨decide_eq_false (by omega), rfl⟩
theorem cov_at {h : api_History} (hz : histE h = 0) {i k : Nat} (hi : i < h.Writes.length) (hk : k < (wr h i).Data.length) : ∃ v s : Nat, (wr h i).Volume = (v : Int) ∧ (wr h i).Start + (k : Int) = (s : Int) ∧ v < h.Sizes.length ∧ (s : Int) < ix h.Sizes (v : Int) ∧ covW (wr h i) v s := by
  have f := hist_fit hz hi
  have e1 : (((wr h i).Volume.toNat : Nat) : Int) = (wr h i).Volume := Int.toNat_of_nonneg f.1
  have e2 : ((((wr h i).Start + (k : Int)).toNat : Nat) : Int) = (wr h i).Start + (k : Int) := Int.toNat_of_nonneg (by omega)
  refine ⟨(wr h i).Volume.toNat, ((wr h i).Start + (k : Int)).toNat, e1.symm, e2.symm, by omega, by rw [e1, e2]; omega, e1.symm, by rw [e2]; omega, by rw [e2]; omega⟩
theorem alwB_iff {h : api_History} (hz : histE h = 0) {im : List (List Sec)} {i : Nat} (hi : i < h.Writes.length) : alwB h im i = true ↔ ∀ v s : Nat, covW (wr h i) v s → (i : Int) ≤ autC h (v : Int) (s : Int) (sec im v s) := by
  unfold alwB
  rw [allN_true]
  constructor
  · rintro t v s ⟨c1, c2, c3⟩
    have e : ((((s : Int) - (wr h i).Start).toNat : Nat) : Int) = (s : Int) - (wr h i).Start := Int.toNat_of_nonneg (by omega)
    have := of_decide_eq_true (t ((s : Int) - (wr h i).Start).toNat (by omega))
    rw [e, c1, show (wr h i).Start + ((s : Int) - (wr h i).Start) = (s : Int) by omega] at this
    exact this
  · intro t k hk
    obtain ⟨v, s, e1, e2, _, _, c⟩ := cov_at hz hi hk
    refine decide_eq_true ?_
    rw [e1, e2]
    exact t v s c
theorem rec_alw {h : api_History} (hz : histE h = 0) (hd : distB h = true) {c : List Int} (hb : isSetB c (h.Writes.length : Int) = true) : ∀ x ∈ c, x ∈ alwL h (imgH h c) := by
  intro x hx
  have m := isSetB_mem hb hx
  have e : ((x.toNat : Nat) : Int) = x := Int.toNat_of_nonneg m.1
  have hi : x.toNat < h.Writes.length := by omega
  rw [← e]
  refine mem_selN.2 ⟨hi, (alwB_iff hz hi).2 fun v s cv => ?_⟩
  have f := hist_fit hz hi
  obtain ⟨c1, c2, c3⟩ := cv
  rcases sec_img hz hd hb (v := v) (i := s) (by omega) (by rw [← c1]; omega) with ⟨_, q⟩ | ⟨a, ma, _, ca, q, _, _, au⟩
  · exact absurd ⟨c1, c2, c3⟩ (q x.toNat (by rw [e]; exact hx))
  · rw [au]
    rcases Nat.lt_or_ge a x.toNat with t | t
    · exact absurd ⟨c1, c2, c3⟩ (q x.toNat (by rw [e]; exact hx) t)
    · omega
theorem rec_new {h : api_History} (hz : histE h = 0) (hd : distB h = true) {c : List Int} (hb : isSetB c (h.Writes.length : Int) = true) (hc : ClosedS h c) : imgH h (greatC h (alwL h (imgH h c))) = imgH h c := by
  have low : ∀ v s b : Nat, (b : Int) ∈ greatC h (alwL h (imgH h c)) → covW (wr h b) v s → (b : Int) ≤ autC h (v : Int) (s : Int) (sec (imgH h c) v s) := fun v s b mb cv => by
    have m := mem_selN.1 (greatC_in _ mb)
    exact (alwB_iff hz m.1).1 m.2 v s cv
  refine rec_same hz hd hb greatC_set (fun v k _ _ _ e b mb cv => ?_) fun v k a _ _ ma au _ _ => ⟨greatC_over hz hb hc (rec_alw hz hd hb) _ ma, fun b mb hab cv => ?_⟩
  · have := low v k b mb cv
    rw [e, autC_zero hd] at this
    omega
  · have := low v k b mb cv
    rw [au] at this
    omega
theorem slices_Index_int_ok {l : List Int} {x : Int} {Φ : Int → Prop} (hl : l.length ≤ 1000000) (h1 : x ∈ l → ∀ k : Nat, Φ (k : Int)) (h0 : x ∉ l → Φ (-1)) : slices_Index_int_int_W l x Φ := by
  refine LoopW.upI l.length (fun k => (k : Int)) (fun k => ∀ j, j < k → ix l (j : Int) ≠ x) rfl (fun j hj => absurd hj (Nat.not_lt_zero j)) (fun k rec hk hI hr => ⟨fun hlt => ⟨iX (by omega) hlt, fun q => h1 (by rw [q]; exact ix_mem (iX (by omega) hlt)) k, fun q => ⟨iI (by omega) (by omega), hr (fun j hj => ?_) _ rfl⟩⟩, fun r => absurd (show (k : Int) < (l.length : Int) by omega) r⟩) fun rec hI => ⟨fun r => absurd r (by omega), fun _ => h0 fun hx => ?_⟩
  · rcases Nat.lt_or_ge j k with c | c
    · exact hI j c
    · obtain rfl : j = k := by omega
      exact fun t => q t.symm
  · obtain ⟨k, hk, e⟩ := List.getElem_of_mem hx
    exact hI k hk (by rw [ix_get hk, e])
theorem slices_Contains_int_ok {l : List Int} {x : Int} {Φ : Bool → Prop} (hl : l.length ≤ 1000000) (hΦ : Φ (decide (x ∈ l))) : slices_Contains_int_int_W l x Φ := by
  refine slices_Index_int_ok hl (fun hx k => ?_) fun hx => ?_
  · rw [decide_eq_true (show (0 : Int) ≤ (k : Int) by omega)]; rw [decide_eq_true hx] at hΦ; exact hΦ
  · rw [decide_eq_false hx] at hΦ; exact hΦ
theorem law18_contains_ok {a b : List Int} {Φ : Bool → Prop} (ha : a.length ≤ 1000000) (hb : b.length ≤ 1000000) (hs : ∀ x ∈ b, x ∈ a) (hΦ : Φ true) : law18_contains_W a b Φ := by
  refine LoopW.upT b.length (fun k => (k : Int)) rfl (fun k rec hk hr => ⟨fun hlt => ⟨iX (by omega) hlt, slices_Contains_int_ok ha ?_⟩, fun r => absurd (show (k : Int) < (b.length : Int) by omega) r⟩) fun rec => ⟨fun r => absurd r (by omega), fun _ => hΦ⟩
  rw [decide_eq_true (hs _ (ix_mem (iX (by omega) (by omega))))]
  exact ⟨fun t => absurd rfl t, fun _ => ⟨iI (by omega) (by omega), hr _ rfl⟩⟩
theorem slices_Equal_Sec_refl {l : List Sec} {Φ : Bool → Prop} (hl : l.length ≤ 1000000) (hΦ : Φ true) : slices_Equal_api_Sector_api_Sector_W l l Φ :=
  ⟨fun h => absurd rfl h, fun _ => LoopW.upT l.length (fun k => (k : Int)) rfl (fun k rec hk hr => ⟨fun hlt => ⟨iX (by omega) hlt, iX (by omega) hlt, fun q => absurd rfl q, fun _ => ⟨iI (by omega) (by omega), hr _ rfl⟩⟩, fun r => absurd (show (k : Int) < (l.length : Int) by omega) r⟩) fun rec => ⟨fun r => absurd r (by omega), fun _ => hΦ⟩⟩
theorem image_Same_refl {im : List (List Sec)} {Φ : Bool → Prop} (hi : imgE im = 0) (hΦ : Φ true) : image_Same_W im im Φ := by
  have sm := fit_small (im := im) (by rw [show sizesE (szs im) = 0 from hi]; simp)
  exact ⟨fun h => absurd rfl h, fun _ => LoopW.upT im.length (fun k => (k : Int)) rfl (fun k rec hk hr => ⟨fun hlt => ⟨iX (by omega) hlt, iX (by omega) hlt, slices_Equal_Sec_refl (by have := (sm.2.2 k hk).2; omega) ⟨fun t => absurd rfl t, fun _ => ⟨iI (by omega) (by omega), hr _ rfl⟩⟩⟩, fun r => absurd (show (k : Int) < (im.length : Int) by omega) r⟩) fun rec => ⟨fun r => absurd r (by omega), fun _ => hΦ⟩⟩
theorem timeline_before_ok {h : api_History} (hz : histE h = 0) {a b : Nat} {Φ : Bool → Prop} (ha : a < h.Writes.length) (hb : b < h.Writes.length) (hΦ : Φ (befP h a b)) : history_timeline_before_W (tlH h) (a : Int) (b : Int) Φ := by
  have e := evE_cnt hz
  have la : (tlH h).acked.length = h.Writes.length := by rw [← e]; exact ackL_len _ _
  have li : (tlH h).issued.length = h.Writes.length := by rw [← e]; exact issL_len _ _
  have xa : ix (tlH h).acked (a : Int) = atN h.Events h.Events.length ⟨1, (a : Int)⟩ := ix_ackL (by omega)
  have xi : ix (tlH h).issued (b : Int) = atN h.Events h.Events.length ⟨0, (b : Int)⟩ := ix_issL (by omega)
  unfold befP at hΦ
  refine ⟨iX (by omega) (by omega), fun q => ⟨iX (by omega) (by omega), iX (by omega) (by omega), ?_⟩, fun q => ?_⟩
  · rw [xa] at q ⊢
    rw [xi]
    have : decide (atN h.Events h.Events.length ⟨1, (a : Int)⟩ < atN h.Events h.Events.length ⟨0, (b : Int)⟩) = decide (0 ≤ atN h.Events h.Events.length ⟨1, (a : Int)⟩ ∧ atN h.Events h.Events.length ⟨1, (a : Int)⟩ < atN h.Events h.Events.length ⟨0, (b : Int)⟩) := decide_eq_decide.2 ⟨fun t => ⟨q, t⟩, fun t => t.2⟩
    rw [this]; exact hΦ
  · rw [xa] at q
    rw [decide_eq_false fun t => q t.1] at hΦ; exact hΦ
def memW (h : api_History) (l : List Int) : List (Int × api_Write × Unit) := l.map fun n => (n, ix h.Writes n, ())
theorem memW_at {h : api_History} {l : List Int} {k : Nat} (hk : k < l.length) : ∃ hk' : k < (memW h l).length, (memW h l)[k] = (ix l (k : Int), ix h.Writes (ix l (k : Int)), ()) := by
  refine ⟨by unfold memW; rw [List.length_map]; exact hk, ?_⟩
  unfold memW
  rw [List.getElem_map, ix_get hk]
theorem memW_len {h : api_History} {l : List Int} : (memW h l).length = l.length := by unfold memW; rw [List.length_map]
theorem isClosed_ok {h : api_History} (hz : histE h = 0) {l : List Int} {Φ : Bool → Prop} (hb : isSetB l (h.Writes.length : Int) = true) (hc : ClosedS h l) (hΦ : Φ true) : history_checked_isClosed_W ⟨h, tlH h⟩ l Φ := by
  have hw := hist_wr hz
  have ll := isSetB_le hb (by omega)
  refine ⟨by show 0 ≤ (h.Writes.length : Int); omega, ⟨by show (h.Writes.length : Int).toNat * 1 ≤ _; rw [Int.toNat_natCast]; omega, by show (h.Writes.length : Int).toNat ≤ maxLen; rw [Int.toNat_natCast]; unfold maxLen; omega⟩, memW h l, members_ok (by omega) hb, ?_⟩
  have z : List.replicate (h.Writes.length : Int).toNat false = markL h.Writes.length (l.take 0) := by
    rw [Int.toNat_natCast]
    refine ext_ix (by rw [markL_len, List.length_replicate]) fun j hj => ?_
    rw [List.length_replicate] at hj
    rw [ix_markL hj, ix_get (by rw [List.length_replicate]; exact hj), List.getElem_replicate]; simp
  show LoopW (history_checked_isClosed_L1 ⟨h, tlH h⟩ l Φ) (memW h l, List.replicate (h.Writes.length : Int).toNat false)
  rw [z]
  refine LoopW.lst (memW h l) (fun k => markL h.Writes.length (l.take k)) rfl (fun k hk rec hr => ?_) fun rec => ?_
  · have hk' : k < l.length := by rw [memW_len] at hk; exact hk
    obtain ⟨_, e⟩ := memW_at (h := h) hk'
    have m := isSetB_at hb hk'
    have e2 : (((ix l (k : Int)).toNat : Nat) : Int) = ix l (k : Int) := Int.toNat_of_nonneg m.1
    rw [e]
    refine ⟨iX m.1 (by rw [markL_len]; exact m.2.1), hr _ ?_⟩
    rw [markL_put hk' (w := (ix l (k : Int)).toNat) (by omega) e2.symm, e2]
  · rw [memW_len, List.take_length]
    refine ⟨memW h l, members_ok (by omega) hb, ?_⟩
    refine LoopW.lst (memW h l) (fun _ => ()) rfl (fun k hk rec hr => ?_) fun rec => hΦ
    have hk' : k < l.length := by rw [memW_len] at hk; exact hk
    obtain ⟨_, e⟩ := memW_at (h := h) hk'
    have m := isSetB_at hb hk'
    have e2 : (((ix l (k : Int)).toNat : Nat) : Int) = ix l (k : Int) := Int.toNat_of_nonneg m.1
    have mb : ix l (k : Int) ∈ l := ix_mem (iX (by omega) (by omega))
    rw [e]
    refine LoopW.upT h.Writes.length (fun a => (a : Int)) rfl (fun a rec3 ha hr3 => ⟨fun _ => ⟨iX (by omega) (by rw [markL_len]; omega), fun q => ?_, fun _ => ⟨iI (by omega) (by omega), hr3 _ rfl⟩⟩, fun r => absurd (show (a : Int) < (h.Writes.length : Int) by omega) r⟩) fun rec3 => ⟨fun r => absurd r (by show ¬ ((h.Writes.length : Int) < (h.Writes.length : Int)); omega), fun _ => hr _ rfl⟩
    rw [ix_markL ha, decide_eq_true_iff] at q
    show history_timeline_before_W (tlH h) (a : Int) (ix l (k : Int)) _
    rw [← e2]
    refine timeline_before_ok hz ha (by omega) ⟨fun t => ?_, fun _ => ⟨iI (by omega) (by omega), hr3 _ rfl⟩⟩
    exact absurd (hc a (ix l (k : Int)).toNat ha (by rw [e2]; exact mb) t) q
theorem history_Closed_true {h : api_History} (hh : SmallH h) (hz : histE h = 0) {l : List Int} {Φ : Bool → Prop} (hb : isSetB l (h.Writes.length : Int) = true) (hc : ClosedS h l) (hΦ : Φ true) : history_Closed_W h l Φ := by
  have hw := hist_wr hz
  have ll := isSetB_le hb (by omega)
  exact history_check_ok hh (fun _ => ⟨fun _ => history_checked_isSet_ok (by omega) ⟨fun _ => isClosed_ok hz hb hc hΦ, fun r => absurd hb r⟩, fun r => absurd rfl r⟩) fun q => absurd hz q
theorem consistencyRecovers_law (h : api_History) (l : List Int) (_ : Rg.rg h) (_ : Rg.rg l) : law18_ConsistencyRecovers_W h l fun y => y = true := by
  have skip : law18_ConsistencyRecovers_J1 h l (fun y => y = true) true := ⟨fun _ => law18_awake_ok rfl, fun r => absurd rfl r⟩
  unfold law18_ConsistencyRecovers_W Join
  refine ref15_Few_ok ⟨fun _ => skip, fun q => ⟨fun _ => skip, fun hl => ?_⟩⟩
  have hf := fewH_small (Classical.not_not.1 q)
  have hh := hf.1
  refine consistency_Distinct_ok hh ?_
  cases ed : distH h with
  | false => exact skip
  | true =>
    refine ⟨fun r => Bool.noConfusion r, fun _ => ?_⟩
    unfold distH at ed
    rw [Bool.and_eq_true, decide_eq_true_iff] at ed
    obtain ⟨hz, hd⟩ := ed
    have hw := hist_wr hz
    refine LoopW.upT h.Writes.length (fun k => ((k : Int), selL k fun w => decide ((w : Int) ∈ l))) rfl (fun k rec hk hr => ⟨fun _ => slices_Contains_int_ok (by omega) ⟨fun t => ⟨sel_room hk hw, iI (by omega) (by omega), hr _ ?_⟩, fun t => ⟨iI (by omega) (by omega), hr _ ?_⟩⟩, fun r => absurd (show (k : Int) < (h.Writes.length : Int) by omega) r⟩) fun rec => ⟨fun r => absurd r (by omega), fun _ => ?_⟩
    · rw [selL_succ, if_pos t]; rfl
    · rw [selL_succ, if_neg t, List.append_nil]; rfl
    have sl := selL_len (n := h.Writes.length) (p := fun w : Nat => decide ((w : Int) ∈ l))
    have ss : isSetB (selL h.Writes.length fun w => decide ((w : Int) ∈ l)) (h.Writes.length : Int) = true := selL_set (Nat.le_refl _) (Int.le_refl _)
    generalize selL h.Writes.length (fun w => decide ((w : Int) ∈ l)) = c0 at sl ss ⊢
    refine cut_Greatest_eq (r := (greatC h c0, 0)) hh (by omega) (by unfold greatR; rw [if_neg (fun t => t hz), if_neg (by rw [ss]; simp)]) ?_
    have hb : isSetB (greatC h c0) (h.Writes.length : Int) = true := greatC_set
    have hc : ClosedS h (greatC h c0) := greatC_closed hz
    generalize greatC h c0 = c at hb hc ⊢
    have lc := isSetB_le hb (by omega)
    have hbl : isSetB (lowH h (imgH h c)) (h.Writes.length : Int) = true := lowH_set
    have hbg : isSetB (greatC h (alwL h (imgH h c))) (h.Writes.length : Int) = true := greatC_set
    have ll := isSetB_le hbl (by omega)
    have lg := isSetB_le hbg (by omega)
    have hcl : ClosedS h (lowH h (imgH h c)) := by rw [lowH_sel]; exact lowC_closed hz needL_set
    have hcg : ClosedS h (greatC h (alwL h (imgH h c))) := greatC_closed hz
    have e0 := rgtE_imgH hz hd hb
    obtain ⟨cb, cw⟩ := rec_cfl hz hd hb hc
    have eF : findR h (imgH h c) = (lowH h (imgH h c), true, 0) := by unfold findR; rw [if_neg (fun t => t e0), if_neg (by rw [cb]; simp)]
    have eN : nwsR h (imgH h c) = (greatC h (alwL h (imgH h c)), true, 0) := by unfold nwsR; rw [if_neg (fun t => t e0), if_neg (by rw [cb]; simp)]
    have eC : conR h (imgH h c) = (noW, false, 0) := by unfold conR; rw [if_neg (fun t => t e0), cb, cw]
    have xl := rec_xim hz hd hb hc
    have xg := rec_new hz hd hb hc
    have i1 := rec_low hz hd hb hc
    have i2 := greatC_over hz hb hc (rec_alw hz hd hb)
    have hi := imgE_imgH hz hb
    have il : (imgH h c).length ≤ 100000 := by
      have := fit_small (im := imgH h c) (by rw [show sizesE (szs (imgH h c)) = 0 from hi]; simp)
      omega
    refine history_Image_ok hh (by show c.length ≤ 1000000; omega) (fun _ _ => ⟨fun r => absurd rfl r, fun _ => ⟨fun r => absurd rfl r, fun _ => ?_⟩⟩) (fun r => absurd hz r) fun _ r => by rw [show isSetB (c, (0 : Int)).1 (h.Writes.length : Int) = true from hb] at r; exact Bool.noConfusion r
    refine consistency_Find_ok hh il (consistency_Newest_ok hh il (consistency_Conflict_ok hh il ?_))
    show inI ((findR h (imgH h c)).2.2 + (nwsR h (imgH h c)).2.2) ∧ _
    rw [eF, eN, eC]
    refine ⟨iI (by show _ ≤ (0 : Int) + 0; omega) (by show (0 : Int) + 0 ≤ _; omega), iI (by show _ ≤ (0 : Int) + 0 + 0; omega) (by show (0 : Int) + 0 + 0 ≤ _; omega), fun r => absurd rfl r, fun _ => ⟨fun r => absurd rfl r, fun _ => ⟨fun r => absurd rfl r, fun _ => ⟨fun r => Bool.noConfusion r, fun _ => ?_⟩⟩⟩⟩
    refine law18_contains_ok (by show c.length ≤ 1000000; omega) (by show (lowH h (imgH h c)).length ≤ 1000000; omega) i1 ⟨fun r => absurd rfl r, fun _ => ?_⟩
    refine law18_contains_ok (by show (greatC h (alwL h (imgH h c))).length ≤ 1000000; omega) (by show c.length ≤ 1000000; omega) i2 ⟨fun r => absurd rfl r, fun _ => ?_⟩
    refine history_Image_ok hh (by show (lowH h (imgH h c)).length ≤ 1000000; omega) (fun _ _ => history_Image_ok hh (by show (greatC h (alwL h (imgH h c))).length ≤ 1000000; omega) (fun _ _ => ⟨fun _ => ⟨fun _ => ?_, fun r => absurd rfl r⟩, fun r => absurd rfl r⟩) (fun r => absurd hz r) fun _ r => absurd (hbg.symm.trans r) (by decide)) (fun r => absurd hz r) fun _ r => absurd (hbl.symm.trans r) (by decide)
    show image_Same_W (imgH h (lowH h (imgH h c))) (imgH h c) fun v15 => (v15 = true → image_Same_W (imgH h (greatC h (alwL h (imgH h c)))) (imgH h c) _) ∧ _
    rw [xl, xg]
    refine image_Same_refl hi ⟨fun _ => image_Same_refl hi ⟨fun _ => ?_, fun r => absurd rfl r⟩, fun r => absurd rfl r⟩
    exact history_Closed_true hh hz hbl hcl ⟨fun _ => history_Closed_true hh hz hbg hcg ⟨fun _ => law18_awake_ok rfl, fun r => absurd rfl r⟩, fun r => absurd rfl r⟩
end Go.Proofs.Ytjjodmgmidbamaa
namespace Go.Proofs.Ytjjodmgmidbamaa
open Go.RowKit Go.ChangeShapes Go.WideShapes Go.ChangeAt
set_option maxRecDepth 100000 in
theorem consistencyRecovers_lifted (os : Os) (started : os.Started) (H : Type) (enc : TypeId × Value → H) :
    ReturnsInHanded {} Try.checked os 7 .any (Rows.consistencyRecoversSpec.pre6 enc Try.prog Try.f7 Rows.consistencyRecoversRow.domain false) (Rows.consistencyRecoversSpec.post enc Try.prog Try.f7 false true false false) := by
  refine returnsInHanded_of_change (C := Try.checked) Try.own started (by kernel_rfl) Try.func7
    (ChangeSpec.witness6 (enc := enc) (C := Try.checked) false ⟨#[], #[.agg #[.slice none 0 0, .slice none 0 0, .slice none 0 0], .slice none 0 0], []⟩ 8 (by kernel_rfl) (by kernel_rfl) (by kernel_rfl) (by kernel_rfl)) ?_
  intro W base args ds gs before hval0 hW _ _
  have hval : ∀ (j : Nat) t v, Try.f7.params[j]? = some t → args[j]? = some v → Value.okWide Try.prog W .any base t v := hval0
  have hW' := hW
  obtain ⟨p, q, hA0, hV, hpq, _, _⟩ := hW
  have hA : DataW.TrodAll enc Try.prog W 0 (fun _ => true) true Try.f7.params.toList args.toList ds p := hA0
  rw [Try.params7] at hA hval
  obtain ⟨v0, v1, d0, d1, p0, p1, rfl, rfl, rfl, h0, h1⟩ := trodAll_two hA
  obtain ⟨rfl, rfl⟩ := trodVars_none hV
  obtain ⟨ks0, x0, rfl, hr0, hg0⟩ := open_strD Try.underlying26 rd26 (hval 0 26 v0 rfl rfl) h0
  obtain ⟨Az1, nz1, cz1, sz1, x1, rfl, hz1, hg1⟩ := open_slD Try.underlying22 rd22 (hval 1 22 v1 rfl rfl) h1
  refine Calls.mono ((RetP.toV (y := true) (F := fun z => .bool z) (RetP.mono (ok7 (x0, x1, ()) (fun y => y.1 = true) (consistencyRecovers_law x0 x1 hg0 hg1) (HW W) [.agg ks0.toArray, .slice Az1 nz1 cz1] trivial ⟨_, ks0, _, rfl, by rw [pkw26], (show Dt.rd (α := api_History) (HW W) _ _ from hr0), ⟨_, [.slice Az1 nz1 cz1], _, rfl, by rw [pkw22], (show Dt.rd (α := List Int) (HW W) _ _ from ⟨Az1, nz1, cz1, sz1, rfl, hz1⟩), rfl⟩⟩) fun _ _ _ _ ⟨y, hy, hr⟩ => lawRes y hy hr)) W fun b o e => e) ?_
  rintro e W' ⟨v, _, rfl, _, _, _, hb, rfl⟩
  exact ⟨_, rfl, post_law Try.laidOut Try.underlying4 rfl (by kernel_rfl) hW' rfl rfl hb⟩
theorem consistencyRecovers_holds : Rows.ConsistencyRecoversSaid :=
  OpenClaim.holds_of_wide 7 Try.f7 rfl rfl rfl rfl rfl rfl rfl ⟨rfl, rfl, rfl, rfl, rfl⟩ rfl rfl rfl rfl rfl (by kernel_rfl) Try.func7 (by kernel_rfl)
    (of_decide_eq_true (by kernel_rfl)) (by unfold Func.isWrapper; first | (rw [if_pos (by decide +kernel)]; kernel_rfl) | (rw [if_neg (by decide +kernel)]; exact ⟨rfl, rfl⟩))
    (fun os started H enc _ => consistencyRecovers_lifted os started H enc)
end Go.Proofs.Ytjjodmgmidbamaa
