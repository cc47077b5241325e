/- Proved: the tied card of the statement ConsistencyContinues: for every argument that can be read the law returns true and leaves its arguments as they were. Conditions: the row's own alone. -/
import Derived.Lib.TrailingZeros
import Derived.Test.YtjjodmgmidbamaaM6
namespace Go.Proofs.Ytjjodmgmidbamaa
open Go.RowKit
theorem find_dif {h : api_History} {im : List (List Sec)} {Φ : List Int × Bool × Int → Prop} (hz : histE h = 0) (hi : imgE im = 0) (hs : szs im = h.Sizes)
    (kD : ∀ v k : Nat, v < im.length → k < szN im v → difV h im = (v : Int) → difK h im = (k : Int) → sec (ximH h im) v k ≠ sec im v k → consistency_Find_J9 (lowH h im, 0) Φ (true, (v : Int), (k : Int), [sec (ximH h im) v k]))
    (kN : difV h im = -1 → consistency_Find_J9 (lowH h im, 0) Φ (false, 0, 0, [])) : LoopW (consistency_Find_L10 im false 0 0 [] (lowH h im, 0) (ximH h im, 0) Φ) 0 := by
  have ⟨el, es, en, sv0⟩ := xim_fact hz hi hs
  refine nestN (inn := fun v rec => consistency_Find_L11 im false 0 0 [] (lowH h im, 0) (ximH h im, 0) (v : Int) rec Φ) im.length (szN im) (difB (ximH h im) im) (fun v rec hv hl => ⟨fun _ => ⟨iX (by omega) (by show (v : Int) < ((ximH h im).length : Int); omega), hl⟩, fun r => absurd (show (v : Int) < ((ximH h im).length : Int) by omega) r⟩) ?_ ?_ ?_
  · intro v k rec rec' hv hk hp hq hr
    have e1 := en v hv
    have sv := sv0 v hv
    have hk' : k < (ix im (v : Int)).length := hk
    refine ⟨fun _ => ⟨iX (by omega) (by show (k : Int) < ((ix (ximH h im) (v : Int)).length : Int); omega), iX (by omega) (by omega), iX (by omega) (by omega), fun q => ?_, fun q => ⟨fun r => absurd (fun t => Bool.noConfusion t) r, fun _ => ⟨iI (by omega) (by omega), hr (decide_eq_false fun t => q t)⟩⟩⟩, fun r => absurd (show (k : Int) < ((ix (ximH h im) (v : Int)).length : Int) by omega) r⟩
    have hh := fst_hit hv hk hp hq (decide_eq_true q)
    exact kD v k hv hk hh.1 hh.2 q
  · intro v rec rec' hv hr
    have e1 := en v hv
    have sv := sv0 v hv
    exact ⟨fun r => absurd r (by show ¬ ((szN im v : Int) < ((ix (ximH h im) (v : Int)).length : Int)); omega), fun _ => ⟨iI (by omega) (by omega), hr⟩⟩
  · intro rec hp
    have nl : ¬ ((im.length : Int) < ((ximH h im).length : Int)) := by omega
    have nd : difV h im = -1 := fst_none hp
    exact ⟨fun r => absurd r nl, fun _ => kN nd⟩
theorem find_ned {h : api_History} {im : List (List Sec)} {Φ : List Int × Bool × Int → Prop} {mm : List (Int × Bool)} (hh : SmallH h) (hz : histE h = 0) (hi : imgE im = 0) (hs : szs im = h.Sizes)
    (hm : ∀ w, w < h.Writes.length → (mget mm (w : Int) false = true ↔ needB h im w = true))
    (kD : ∀ v k : Nat, v < im.length → k < szN im v → difV h im = (v : Int) → difK h im = (k : Int) → sec (ximH h im) v k ≠ sec im v k → consistency_Find_J9 (lowH h im, 0) Φ (true, (v : Int), (k : Int), [sec (ximH h im) v k]))
    (kN : difV h im = -1 → consistency_Find_J9 (lowH h im, 0) Φ (false, 0, 0, [])) : LoopW (consistency_Find_L8 h im false 0 0 mm [] Φ) (0, []) := by
  have hw := hist_wr hz
  refine LoopW.upT h.Writes.length (fun k => ((k : Int), selL k (needB h im))) rfl (fun k rec hk hr => ⟨fun _ => ⟨fun q => ?_, fun q => ⟨iI (by omega) (by omega), hr _ ?_⟩⟩, fun r => absurd (show (k : Int) < (h.Writes.length : Int) by omega) r⟩) fun rec => ⟨fun r => absurd r (by show ¬ ((h.Writes.length : Int) < (h.Writes.length : Int)); omega), fun _ => ?_⟩
  · have sl := selL_len (n := k) (p := needB h im)
    have e : selL k (needB h im) ++ [(k : Int)] = selL (k + 1) (needB h im) := by rw [selL_succ, if_pos ((hm k hk).1 q)]
    refine ⟨⟨?_, ?_⟩, iI (by omega) (by omega), hr _ (by rw [e]; rfl)⟩
    · show (selL k (needB h im) ++ [(k : Int)]).length * 8 ≤ _
      rw [List.length_append, List.length_singleton]; omega
    · show (selL k (needB h im) ++ [(k : Int)]).length ≤ maxLen
      rw [List.length_append, List.length_singleton]; unfold maxLen; omega
  · rw [selL_succ, if_neg fun t => q ((hm k hk).2 t), List.append_nil]; rfl
  · have sl := selL_len (n := h.Writes.length) (p := needB h im)
    have er : leastR h (needL h im) = (lowH h im, 0) := by
      unfold leastR
      rw [if_neg (fun t => t hz), if_neg (by rw [needL_set]; simp)]; rfl
    refine cut_Least_eq hh (by omega) er ⟨fun r => absurd rfl r, fun _ => ?_⟩
    have ll : (lowH h im).length ≤ 1000000 := by rw [lowH_sel]; have := selL_len (n := h.Writes.length) (p := lowC h (needL h im)); omega
    exact history_Image_ok hh ll (fun _ _ => ⟨fun r => absurd rfl r, fun _ => find_dif hz hi hs kD kN⟩) (fun r => absurd hz r) fun _ r => by rw [lowH_set] at r; exact Bool.noConfusion r
theorem find_unk {h : api_History} {im : List (List Sec)} {m : List (consistency_content × Int)} {Φ : List Int × Bool × Int → Prop} (hh : SmallH h) (hz : histE h = 0) (hi : imgE im = 0) (hs : szs im = h.Sizes) (hm : AutM h m)
    (kU : ∀ (v k : Nat) mm, v < im.length → k < szN im v → unkV h im = (v : Int) → unkK h im = (k : Int) → unkB h im v k = true → consistency_Find_J7 h im Φ (true, (v : Int), (k : Int), mm, [sec im v k]))
    (kD : unkV h im = -1 → ∀ v k : Nat, v < im.length → k < szN im v → difV h im = (v : Int) → difK h im = (k : Int) → sec (ximH h im) v k ≠ sec im v k → consistency_Find_J9 (lowH h im, 0) Φ (true, (v : Int), (k : Int), [sec (ximH h im) v k]))
    (kN : unkV h im = -1 → difV h im = -1 → consistency_Find_J9 (lowH h im, 0) Φ (false, 0, 0, [])) : LoopW (consistency_Find_L12 h im m Φ) (0, []) := by
  have sm := fit_small (im := im) (by rw [show sizesE (szs im) = 0 from hi]; simp)
  refine nestS (inn := fun v rec => consistency_Find_L13 h im m (v : Int) rec Φ) im.length (szN im) (unkB h im) (fun v k mm => ∀ w : Nat, mget mm (w : Int) false = true ↔ NeedBy h im v k w) (fun w => ⟨fun t => Bool.noConfusion t, fun t => absurd t NeedBy.zero⟩)
    (fun v a hv ha w => (ha w).trans NeedBy.row.symm) (fun v a rec hv hl => ⟨fun _ => ⟨iX (by omega) (by omega), hl⟩, fun r => absurd (show (v : Int) < (im.length : Int) by omega) r⟩) ?_ ?_ ?_
  · intro v k mm rec rec' hv hk hp hq hI hr
    have sv := (sm.2.2 v hv).2
    have hk' : k < (ix im (v : Int)).length := hk
    refine ⟨fun _ => ⟨iX (by omega) (by omega), fun z => ⟨iI (by omega) (by omega), hr ?_ mm fun w => (hI w).trans (NeedBy.skip z).symm⟩, fun z => ⟨fun q => ?_, fun q => ?_⟩⟩, fun r => absurd (show (k : Int) < ((ix im (v : Int)).length : Int) by omega) r⟩
    · unfold unkB
      rw [decide_eq_false (fun t => t z)]; rfl
    · have hb : unkB h im v k = true := by
        unfold unkB
        rw [Bool.and_eq_true, decide_eq_true_iff, decide_eq_true_iff]
        refine ⟨z, ?_⟩
        have := fun t => q (hm.has.2 t)
        show autC h (v : Int) (k : Int) (sec im v k) < 0
        have t2 : ¬ 0 ≤ autC h (v : Int) (k : Int) (sec im v k) := this
        omega
      have hh := fst_hit hv hk hp hq hb
      exact kU v k mm hv hk hh.1 hh.2 hb
    · have q1 : 0 ≤ autC h (v : Int) (k : Int) (sec im v k) := hm.has.1 (Classical.not_not.1 q)
      have q2 : mget m ⟨⟨(v : Int), (k : Int)⟩, sec im v k⟩ 0 = autC h (v : Int) (k : Int) (sec im v k) := hm.get q1
      refine ⟨iI (by omega) (by omega), hr ?_ _ fun w => ?_⟩
      · unfold unkB
        rw [decide_eq_false (show ¬ autC h (v : Int) (k : Int) (sec im v k) < 0 by omega), Bool.and_false]
      · show mget (mput mm (mget m ⟨⟨(v : Int), (k : Int)⟩, sec im v k⟩ 0) true) (w : Int) false = true ↔ _
        rw [mget_put, q2, NeedBy.take z, ← hI w]
        by_cases e : (w : Int) = autC h (v : Int) (k : Int) (sec im v k)
        · rw [if_pos e]; exact ⟨fun _ => .inr e.symm, fun _ => rfl⟩
        · rw [if_neg e]; exact ⟨.inl, fun t => t.elim id fun u => absurd u.symm e⟩
  · intro v a rec rec' hv hr
    have sv := (sm.2.2 v hv).2
    exact ⟨fun r => absurd r (by show ¬ ((szN im v : Int) < ((ix im (v : Int)).length : Int)); unfold szN; omega), fun _ => ⟨iI (by omega) (by omega), hr⟩⟩
  · intro mm rec hp hI
    exact ⟨fun r => absurd r (by show ¬ ((im.length : Int) < (im.length : Int)); omega), fun _ => ⟨fun r => Bool.noConfusion r, fun _ => find_ned hh hz hi hs (fun w _ => (hI w).trans NeedBy.all) (kD (fst_none hp)) (kN (fst_none hp))⟩⟩
theorem find_col {h : api_History} {im : List (List Sec)} {Φ : List Int × Bool × Int → Prop} (hz : histE h = 0) (kB : distB h = false → Φ (([] : List Int), false, 1))
    (kG : distB h = true → ∀ m, AutM h m → LoopW (consistency_Find_L12 h im m Φ) (0, [])) : LoopW (consistency_Find_L2 h im Φ) (0, []) := by
  have hn := hist_wr hz
  refine LoopW.upS h.Writes.length (fun s => s.1) (fun i s => (∀ j, j < i → okW h j = true) ∧ MapOk h i 0 s.2 ∧ ValOk h i 0 s.2) ?_ 0 rfl (Nat.zero_le _) ⟨fun j hj => absurd hj (Nat.not_lt_zero j), fun c => ⟨fun t => Bool.noConfusion t, fun ⟨j, q, h1, _⟩ => by omega⟩, fun c x t => by cases t⟩
  rintro i ⟨_, m⟩ rec hi rfl ⟨hI, hm, hv⟩ hrec
  refine ⟨fun r => ?_, fun r => ?_⟩
  · have hi : i < h.Writes.length := by omega
    have bad : okW h i = false → Φ (([] : List Int), false, 1) := fun t => kB (allN_false hi t)
    have fi := hist_fit hz hi
    refine ⟨iX (by omega) (by omega), ?_⟩
    refine LoopW.upS (wr h i).Data.length (fun s => s.1) (fun k s => (∀ j, j < k → okI h i j = true) ∧ MapOk h i k s.2 ∧ ValOk h i k s.2) ?_ 0 rfl (Nat.zero_le _) ⟨fun j hj => absurd hj (Nat.not_lt_zero j), hm, hv⟩
    rintro k ⟨_, m'⟩ rec3 hk rfl ⟨hJ, hm', hv'⟩ hrec3
    refine ⟨fun r3 => ?_, fun r3 => ?_⟩
    · have hk : k < (wr h i).Data.length := by exact_mod_cast r3
      have badk : okI h i k = false → Φ (([] : List Int), false, 1) := fun t => bad (allN_false hk t)
      have hno : Φ (([] : List Int), false, 1) → consistency_Find_J3 (i : Int) rec Φ (false, (mput m' (keyAt h i k) (i : Int))) := fun t => ⟨fun _ => ⟨fun _ => t, fun u => absurd (by decide) u⟩, fun u => absurd (fun v => Bool.noConfusion v) u⟩
      refine ⟨iX (by omega) (by exact_mod_cast hk), iI (by show _ ≤ (wr h i).Start + (k : Int); omega) (by show (wr h i).Start + (k : Int) ≤ _; omega), fun u => ⟨fun v => hno (badk ?_), fun v => ⟨iI (by omega) (by omega), hrec3 _ hk rfl ⟨fun j hj => ?_, hm'.put _, hv'.put⟩⟩⟩, fun u => hno (badk ?_)⟩
      · exact okI_zero (Classical.not_not.1 v)
      · rcases Nat.lt_or_ge j k with c | c
        · exact hJ j c
        · obtain rfl : j = k := by omega
          exact okI_iff.2 ⟨Classical.not_not.1 v, fun w => u ((hm' _).2 w)⟩
      · rw [Bool.eq_false_iff]
        exact fun w => (okI_iff.1 w).2 ((hm' _).1 (Classical.not_not.1 u))
    · have hk : k = (wr h i).Data.length := by
        have : ¬ ((k : Int) < ((wr h i).Data.length : Int)) := r3
        omega
      subst hk
      exact ⟨fun t => absurd rfl t, fun _ => ⟨iI (by omega) (by omega), hrec _ hi rfl ⟨fun j hj => by
        rcases Nat.lt_or_ge j i with c | c
        · exact hI j c
        · obtain rfl : j = i := by omega
          exact allN_true.2 hJ, hm'.next, hv'.next⟩⟩⟩
  · have e : i = h.Writes.length := by omega
    subst e
    have hd : distB h = true := allN_true.2 hI
    exact ⟨fun t => absurd rfl t, fun _ => kG hd m (AutM.of hd hm hv)⟩
theorem find_jdg {h : api_History} {im : List (List Sec)} {Φ : List Int × Bool × Int → Prop} (hh : SmallH h) (hl : im.length ≤ 100000) (kE : rgtE h im ≠ 0 → Φ (([] : List Int), false, rgtE h im))
    (kG : histE h = 0 → imgE im = 0 → szs im = h.Sizes → distB h = true → ∀ m, AutM h m → LoopW (consistency_Find_L12 h im m Φ) (0, [])) : consistency_Find_W h im Φ := by
  refine history_Check_ok hh ⟨fun q => ⟨fun _ => ?_, fun r => absurd q r⟩, fun q => ?_⟩
  · have e : rgtE h im = histE h := by unfold rgtE; rw [if_pos q]
    rw [e] at kE; exact kE q
  have hz : histE h = 0 := Classical.not_not.1 q
  refine image_Check_ok hl ⟨fun q2 => ⟨fun _ => ?_, fun r => absurd q2 r⟩, fun q2 => ?_⟩
  · have e : rgtE h im = imgE im := by unfold rgtE; rw [if_neg q, if_pos q2]
    rw [e] at kE; exact kE q2
  have hi : imgE im = 0 := Classical.not_not.1 q2
  have sm := fit_small (im := im) (by rw [show sizesE (szs im) = 0 from hi]; simp)
  have bad : szs im ≠ h.Sizes → consistency_Find_J1 h im Φ true := fun q3 => ⟨fun _ => ⟨fun _ => by
    have e : rgtE h im = 22 := by unfold rgtE; rw [if_neg q, if_neg q2, if_pos q3]
    rw [e] at kE; exact kE (by decide), fun r => absurd (by decide) r⟩, fun r => absurd rfl r⟩
  have good : szs im = h.Sizes → consistency_Find_J1 h im Φ false := fun q3 => ⟨fun r => Bool.noConfusion r, fun _ => find_col hz (fun q4 => by
    have e : rgtE h im = 1 := by unfold rgtE; rw [if_neg q, if_neg q2, if_neg (fun t => t q3), if_pos q4]
    rw [e] at kE; exact kE (by decide)) (kG hz hi q3)⟩
  refine ⟨fun r => bad fun t => r (by rw [← t, szs_len]), fun r => ?_⟩
  have hl2 : im.length = h.Sizes.length := by omega
  refine LoopW.upI im.length (fun k => (k : Int)) (fun k => ∀ j, j < k → ((ix im (j : Int)).length : Int) = ix h.Sizes (j : Int)) rfl (fun j hj => absurd hj (Nat.not_lt_zero j)) (fun k rec hk hI hr => ⟨fun _ => ⟨iX (by omega) (by omega), iX (by omega) (by omega), fun t => bad fun u => t (decide_eq_true ((szs_eq_iff hl2).1 u k hk)), fun t => ⟨iI (by omega) (by omega), hr (fun j hj => ?_) _ rfl⟩⟩, fun t => absurd (show (k : Int) < (im.length : Int) by omega) t⟩) fun rec hI => ⟨fun t => absurd t (by omega), fun _ => good ((szs_eq_iff hl2).2 hI)⟩
  rcases Nat.lt_or_ge j k with c | c
  · exact hI j c
  · obtain rfl : j = k := by omega
    exact of_decide_eq_true (Classical.not_not.1 t)
theorem conflict_dif {h : api_History} {im : List (List Sec)} {Φ : api_Write × Bool × Int → Prop} (hz : histE h = 0) (hi : imgE im = 0) (hs : szs im = h.Sizes)
    (kD : ∀ v k : Nat, v < im.length → k < szN im v → difV h im = (v : Int) → difK h im = (k : Int) → sec (ximH h im) v k ≠ sec im v k → consistency_Conflict_J7 Φ (true, (v : Int), (k : Int), [sec (ximH h im) v k]))
    (kN : difV h im = -1 → consistency_Conflict_J7 Φ (false, 0, 0, [])) : LoopW (consistency_Conflict_L8 im false 0 0 [] (ximH h im, 0) Φ) 0 := by
  have ⟨el, es, en, sv0⟩ := xim_fact hz hi hs
  refine nestN (inn := fun v rec => consistency_Conflict_L9 im false 0 0 [] (ximH h im, 0) (v : Int) rec Φ) im.length (szN im) (difB (ximH h im) im) (fun v rec hv hl => ⟨fun _ => ⟨iX (by omega) (by show (v : Int) < ((ximH h im).length : Int); omega), hl⟩, fun r => absurd (show (v : Int) < ((ximH h im).length : Int) by omega) r⟩) ?_ ?_ ?_
  · intro v k rec rec' hv hk hp hq hr
    have e1 := en v hv
    have sv := sv0 v hv
    have hk' : k < (ix im (v : Int)).length := hk
    refine ⟨fun _ => ⟨iX (by omega) (by show (k : Int) < ((ix (ximH h im) (v : Int)).length : Int); omega), iX (by omega) (by omega), iX (by omega) (by omega), fun q => ?_, fun q => ⟨fun r => absurd (fun t => Bool.noConfusion t) r, fun _ => ⟨iI (by omega) (by omega), hr (decide_eq_false fun t => q t)⟩⟩⟩, fun r => absurd (show (k : Int) < ((ix (ximH h im) (v : Int)).length : Int) by omega) r⟩
    have hh := fst_hit hv hk hp hq (decide_eq_true q)
    exact kD v k hv hk hh.1 hh.2 q
  · intro v rec rec' hv hr
    have e1 := en v hv
    have sv := sv0 v hv
    exact ⟨fun r => absurd r (by show ¬ ((szN im v : Int) < ((ix (ximH h im) (v : Int)).length : Int)); omega), fun _ => ⟨iI (by omega) (by omega), hr⟩⟩
  · intro rec hp
    have nl : ¬ ((im.length : Int) < ((ximH h im).length : Int)) := by omega
    have nd : difV h im = -1 := fst_none hp
    exact ⟨fun r => absurd r nl, fun _ => kN nd⟩
theorem conflict_ned {h : api_History} {im : List (List Sec)} {Φ : api_Write × Bool × Int → Prop} {mm : List (Int × Bool)} (hh : SmallH h) (hz : histE h = 0) (hi : imgE im = 0) (hs : szs im = h.Sizes)
    (hm : ∀ w, w < h.Writes.length → (mget mm (w : Int) false = true ↔ needB h im w = true))
    (kD : ∀ v k : Nat, v < im.length → k < szN im v → difV h im = (v : Int) → difK h im = (k : Int) → sec (ximH h im) v k ≠ sec im v k → consistency_Conflict_J7 Φ (true, (v : Int), (k : Int), [sec (ximH h im) v k]))
    (kN : difV h im = -1 → consistency_Conflict_J7 Φ (false, 0, 0, [])) : LoopW (consistency_Conflict_L6 h im false 0 0 mm [] Φ) (0, []) := by
  have hw := hist_wr hz
  refine LoopW.upT h.Writes.length (fun k => ((k : Int), selL k (needB h im))) rfl (fun k rec hk hr => ⟨fun _ => ⟨fun q => ?_, fun q => ⟨iI (by omega) (by omega), hr _ ?_⟩⟩, fun r => absurd (show (k : Int) < (h.Writes.length : Int) by omega) r⟩) fun rec => ⟨fun r => absurd r (by show ¬ ((h.Writes.length : Int) < (h.Writes.length : Int)); omega), fun _ => ?_⟩
  · have sl := selL_len (n := k) (p := needB h im)
    have e : selL k (needB h im) ++ [(k : Int)] = selL (k + 1) (needB h im) := by rw [selL_succ, if_pos ((hm k hk).1 q)]
    refine ⟨⟨?_, ?_⟩, iI (by omega) (by omega), hr _ (by rw [e]; rfl)⟩
    · show (selL k (needB h im) ++ [(k : Int)]).length * 8 ≤ _
      rw [List.length_append, List.length_singleton]; omega
    · show (selL k (needB h im) ++ [(k : Int)]).length ≤ maxLen
      rw [List.length_append, List.length_singleton]; unfold maxLen; omega
  · rw [selL_succ, if_neg fun t => q ((hm k hk).2 t), List.append_nil]; rfl
  · have sl := selL_len (n := h.Writes.length) (p := needB h im)
    have er : leastR h (needL h im) = (lowH h im, 0) := by
      unfold leastR
      rw [if_neg (fun t => t hz), if_neg (by rw [needL_set]; simp)]; rfl
    refine cut_Least_eq hh (by omega) er ⟨fun r => absurd rfl r, fun _ => ?_⟩
    have ll : (lowH h im).length ≤ 1000000 := by rw [lowH_sel]; have := selL_len (n := h.Writes.length) (p := lowC h (needL h im)); omega
    exact history_Image_ok hh ll (fun _ _ => ⟨fun r => absurd rfl r, fun _ => conflict_dif hz hi hs kD kN⟩) (fun r => absurd hz r) fun _ r => by rw [lowH_set] at r; exact Bool.noConfusion r
theorem conflict_unk {h : api_History} {im : List (List Sec)} {m : List (consistency_content × Int)} {Φ : api_Write × Bool × Int → Prop} (hh : SmallH h) (hz : histE h = 0) (hi : imgE im = 0) (hs : szs im = h.Sizes) (hm : AutM h m)
    (kU : ∀ (v k : Nat) mm, v < im.length → k < szN im v → unkV h im = (v : Int) → unkK h im = (k : Int) → unkB h im v k = true → consistency_Conflict_J5 h im Φ (true, (v : Int), (k : Int), mm, [sec im v k]))
    (kD : unkV h im = -1 → ∀ v k : Nat, v < im.length → k < szN im v → difV h im = (v : Int) → difK h im = (k : Int) → sec (ximH h im) v k ≠ sec im v k → consistency_Conflict_J7 Φ (true, (v : Int), (k : Int), [sec (ximH h im) v k]))
    (kN : unkV h im = -1 → difV h im = -1 → consistency_Conflict_J7 Φ (false, 0, 0, [])) : LoopW (consistency_Conflict_L10 h im m Φ) (0, []) := by
  have sm := fit_small (im := im) (by rw [show sizesE (szs im) = 0 from hi]; simp)
  refine nestS (inn := fun v rec => consistency_Conflict_L11 h im m (v : Int) rec Φ) im.length (szN im) (unkB h im) (fun v k mm => ∀ w : Nat, mget mm (w : Int) false = true ↔ NeedBy h im v k w) (fun w => ⟨fun t => Bool.noConfusion t, fun t => absurd t NeedBy.zero⟩)
    (fun v a hv ha w => (ha w).trans NeedBy.row.symm) (fun v a rec hv hl => ⟨fun _ => ⟨iX (by omega) (by omega), hl⟩, fun r => absurd (show (v : Int) < (im.length : Int) by omega) r⟩) ?_ ?_ ?_
  · intro v k mm rec rec' hv hk hp hq hI hr
    have sv := (sm.2.2 v hv).2
    have hk' : k < (ix im (v : Int)).length := hk
    refine ⟨fun _ => ⟨iX (by omega) (by omega), fun z => ⟨iI (by omega) (by omega), hr ?_ mm fun w => (hI w).trans (NeedBy.skip z).symm⟩, fun z => ⟨fun q => ?_, fun q => ?_⟩⟩, fun r => absurd (show (k : Int) < ((ix im (v : Int)).length : Int) by omega) r⟩
    · unfold unkB
      rw [decide_eq_false (fun t => t z)]; rfl
    · have hb : unkB h im v k = true := by
        unfold unkB
        rw [Bool.and_eq_true, decide_eq_true_iff, decide_eq_true_iff]
        refine ⟨z, ?_⟩
        have := fun t => q (hm.has.2 t)
        show autC h (v : Int) (k : Int) (sec im v k) < 0
        have t2 : ¬ 0 ≤ autC h (v : Int) (k : Int) (sec im v k) := this
        omega
      have hh := fst_hit hv hk hp hq hb
      exact kU v k mm hv hk hh.1 hh.2 hb
    · have q1 : 0 ≤ autC h (v : Int) (k : Int) (sec im v k) := hm.has.1 (Classical.not_not.1 q)
      have q2 : mget m ⟨⟨(v : Int), (k : Int)⟩, sec im v k⟩ 0 = autC h (v : Int) (k : Int) (sec im v k) := hm.get q1
      refine ⟨iI (by omega) (by omega), hr ?_ _ fun w => ?_⟩
      · unfold unkB
        rw [decide_eq_false (show ¬ autC h (v : Int) (k : Int) (sec im v k) < 0 by omega), Bool.and_false]
      · show mget (mput mm (mget m ⟨⟨(v : Int), (k : Int)⟩, sec im v k⟩ 0) true) (w : Int) false = true ↔ _
        rw [mget_put, q2, NeedBy.take z, ← hI w]
        by_cases e : (w : Int) = autC h (v : Int) (k : Int) (sec im v k)
        · rw [if_pos e]; exact ⟨fun _ => .inr e.symm, fun _ => rfl⟩
        · rw [if_neg e]; exact ⟨.inl, fun t => t.elim id fun u => absurd u.symm e⟩
  · intro v a rec rec' hv hr
    have sv := (sm.2.2 v hv).2
    exact ⟨fun r => absurd r (by show ¬ ((szN im v : Int) < ((ix im (v : Int)).length : Int)); unfold szN; omega), fun _ => ⟨iI (by omega) (by omega), hr⟩⟩
  · intro mm rec hp hI
    exact ⟨fun r => absurd r (by show ¬ ((im.length : Int) < (im.length : Int)); omega), fun _ => ⟨fun r => Bool.noConfusion r, fun _ => conflict_ned hh hz hi hs (fun w _ => (hI w).trans NeedBy.all) (kD (fst_none hp)) (kN (fst_none hp))⟩⟩
theorem conflict_col {h : api_History} {im : List (List Sec)} {Φ : api_Write × Bool × Int → Prop} (hz : histE h = 0) (kB : distB h = false → Φ (noW, false, 1))
    (kG : distB h = true → ∀ m, AutM h m → LoopW (consistency_Conflict_L10 h im m Φ) (0, [])) : LoopW (consistency_Conflict_L2 h im Φ) (0, []) := by
  have hn := hist_wr hz
  refine LoopW.upS h.Writes.length (fun s => s.1) (fun i s => (∀ j, j < i → okW h j = true) ∧ MapOk h i 0 s.2 ∧ ValOk h i 0 s.2) ?_ 0 rfl (Nat.zero_le _) ⟨fun j hj => absurd hj (Nat.not_lt_zero j), fun c => ⟨fun t => Bool.noConfusion t, fun ⟨j, q, h1, _⟩ => by omega⟩, fun c x t => by cases t⟩
  rintro i ⟨_, m⟩ rec hi rfl ⟨hI, hm, hv⟩ hrec
  refine ⟨fun r => ?_, fun r => ?_⟩
  · have hi : i < h.Writes.length := by omega
    have bad : okW h i = false → Φ (noW, false, 1) := fun t => kB (allN_false hi t)
    have fi := hist_fit hz hi
    refine ⟨iX (by omega) (by omega), ?_⟩
    refine LoopW.upS (wr h i).Data.length (fun s => s.1) (fun k s => (∀ j, j < k → okI h i j = true) ∧ MapOk h i k s.2 ∧ ValOk h i k s.2) ?_ 0 rfl (Nat.zero_le _) ⟨fun j hj => absurd hj (Nat.not_lt_zero j), hm, hv⟩
    rintro k ⟨_, m'⟩ rec3 hk rfl ⟨hJ, hm', hv'⟩ hrec3
    refine ⟨fun r3 => ?_, fun r3 => ?_⟩
    · have hk : k < (wr h i).Data.length := by exact_mod_cast r3
      have badk : okI h i k = false → Φ (noW, false, 1) := fun t => bad (allN_false hk t)
      have hno : Φ (noW, false, 1) → consistency_Conflict_J3 (i : Int) rec Φ (false, (mput m' (keyAt h i k) (i : Int))) := fun t => ⟨fun _ => ⟨fun _ => t, fun u => absurd (by decide) u⟩, fun u => absurd (fun v => Bool.noConfusion v) u⟩
      refine ⟨iX (by omega) (by exact_mod_cast hk), iI (by show _ ≤ (wr h i).Start + (k : Int); omega) (by show (wr h i).Start + (k : Int) ≤ _; omega), fun u => ⟨fun v => hno (badk ?_), fun v => ⟨iI (by omega) (by omega), hrec3 _ hk rfl ⟨fun j hj => ?_, hm'.put _, hv'.put⟩⟩⟩, fun u => hno (badk ?_)⟩
      · exact okI_zero (Classical.not_not.1 v)
      · rcases Nat.lt_or_ge j k with c | c
        · exact hJ j c
        · obtain rfl : j = k := by omega
          exact okI_iff.2 ⟨Classical.not_not.1 v, fun w => u ((hm' _).2 w)⟩
      · rw [Bool.eq_false_iff]
        exact fun w => (okI_iff.1 w).2 ((hm' _).1 (Classical.not_not.1 u))
    · have hk : k = (wr h i).Data.length := by
        have : ¬ ((k : Int) < ((wr h i).Data.length : Int)) := r3
        omega
      subst hk
      exact ⟨fun t => absurd rfl t, fun _ => ⟨iI (by omega) (by omega), hrec _ hi rfl ⟨fun j hj => by
        rcases Nat.lt_or_ge j i with c | c
        · exact hI j c
        · obtain rfl : j = i := by omega
          exact allN_true.2 hJ, hm'.next, hv'.next⟩⟩⟩
  · have e : i = h.Writes.length := by omega
    subst e
    have hd : distB h = true := allN_true.2 hI
    exact ⟨fun t => absurd rfl t, fun _ => kG hd m (AutM.of hd hm hv)⟩
theorem conflict_jdg {h : api_History} {im : List (List Sec)} {Φ : api_Write × Bool × Int → Prop} (hh : SmallH h) (hl : im.length ≤ 100000) (kE : rgtE h im ≠ 0 → Φ (noW, false, rgtE h im))
    (kG : histE h = 0 → imgE im = 0 → szs im = h.Sizes → distB h = true → ∀ m, AutM h m → LoopW (consistency_Conflict_L10 h im m Φ) (0, [])) : consistency_Conflict_W h im Φ := by
  refine history_Check_ok hh ⟨fun q => ⟨fun _ => ?_, fun r => absurd q r⟩, fun q => ?_⟩
  · have e : rgtE h im = histE h := by unfold rgtE; rw [if_pos q]
    rw [e] at kE; exact kE q
  have hz : histE h = 0 := Classical.not_not.1 q
  refine image_Check_ok hl ⟨fun q2 => ⟨fun _ => ?_, fun r => absurd q2 r⟩, fun q2 => ?_⟩
  · have e : rgtE h im = imgE im := by unfold rgtE; rw [if_neg q, if_pos q2]
    rw [e] at kE; exact kE q2
  have hi : imgE im = 0 := Classical.not_not.1 q2
  have sm := fit_small (im := im) (by rw [show sizesE (szs im) = 0 from hi]; simp)
  have bad : szs im ≠ h.Sizes → consistency_Conflict_J1 h im Φ true := fun q3 => ⟨fun _ => ⟨fun _ => by
    have e : rgtE h im = 22 := by unfold rgtE; rw [if_neg q, if_neg q2, if_pos q3]
    rw [e] at kE; exact kE (by decide), fun r => absurd (by decide) r⟩, fun r => absurd rfl r⟩
  have good : szs im = h.Sizes → consistency_Conflict_J1 h im Φ false := fun q3 => ⟨fun r => Bool.noConfusion r, fun _ => conflict_col hz (fun q4 => by
    have e : rgtE h im = 1 := by unfold rgtE; rw [if_neg q, if_neg q2, if_neg (fun t => t q3), if_pos q4]
    rw [e] at kE; exact kE (by decide)) (kG hz hi q3)⟩
  refine ⟨fun r => bad fun t => r (by rw [← t, szs_len]), fun r => ?_⟩
  have hl2 : im.length = h.Sizes.length := by omega
  refine LoopW.upI im.length (fun k => (k : Int)) (fun k => ∀ j, j < k → ((ix im (j : Int)).length : Int) = ix h.Sizes (j : Int)) rfl (fun j hj => absurd hj (Nat.not_lt_zero j)) (fun k rec hk hI hr => ⟨fun _ => ⟨iX (by omega) (by omega), iX (by omega) (by omega), fun t => bad fun u => t (decide_eq_true ((szs_eq_iff hl2).1 u k hk)), fun t => ⟨iI (by omega) (by omega), hr (fun j hj => ?_) _ rfl⟩⟩, fun t => absurd (show (k : Int) < (im.length : Int) by omega) t⟩) fun rec hI => ⟨fun t => absurd t (by omega), fun _ => good ((szs_eq_iff hl2).2 hI)⟩
  rcases Nat.lt_or_ge j k with c | c
  · exact hI j c
  · obtain rfl : j = k := by omega
    exact of_decide_eq_true (Classical.not_not.1 t)
theorem rgtE_zero {h : api_History} {im : List (List Sec)} (e : rgtE h im = 0) : histE h = 0 ∧ imgE im = 0 ∧ szs im = h.Sizes ∧ distB h = true := by
  unfold rgtE at e
  by_cases q : histE h ≠ 0
  · rw [if_pos q] at e; exact absurd e q
  rw [if_neg q] at e
  by_cases q2 : imgE im ≠ 0
  · rw [if_pos q2] at e; exact absurd e q2
  rw [if_neg q2] at e
  by_cases q3 : szs im ≠ h.Sizes
  · rw [if_pos q3] at e; exact absurd e (by decide)
  rw [if_neg q3] at e
  by_cases q4 : distB h = false
  · rw [if_pos q4] at e; exact absurd e (by decide)
  · exact ⟨Classical.not_not.1 q, Classical.not_not.1 q2, Classical.not_not.1 q3, Bool.of_not_eq_false q4⟩
theorem cfl_one (h : api_History) (im : List (List Sec)) : (cflB h im = true ∧ (cflW h im).Data.length = 1) ∨ (cflB h im = false ∧ cflW h im = noW) := by
  unfold cflB cflW
  by_cases q : 0 ≤ unkV h im
  · rw [if_pos q]; exact .inl ⟨decide_eq_true (.inl q), rfl⟩
  · rw [if_neg q]
    by_cases r : 0 ≤ difV h im
    · rw [if_pos r]; exact .inl ⟨decide_eq_true (.inr r), rfl⟩
    · rw [if_neg r]; exact .inr ⟨decide_eq_false (by omega), rfl⟩
theorem consistency_Conflict_ok {h : api_History} {im : List (List Sec)} {Φ : api_Write × Bool × Int → Prop} (hh : SmallH h) (hl : im.length ≤ 100000) (hΦ : Φ (conR h im)) : consistency_Conflict_W h im Φ := by
  unfold conR at hΦ
  refine conflict_jdg hh hl (fun q => by rw [if_pos q] at hΦ; exact hΦ) fun hz hi hs hd m hm => ?_
  have e0 : rgtE h im = 0 := by unfold rgtE; rw [if_neg (fun t => t hz), if_neg (fun t => t hi), if_neg (fun t => t hs), if_neg (by rw [hd]; simp)]
  rw [if_neg (fun t => t e0)] at hΦ
  unfold cflW cflB at hΦ
  refine conflict_unk hh hz hi hs hm (fun v k mm _ _ e1 e2 _ => ⟨fun _ => ?_, fun r => absurd rfl r⟩) (fun n v k _ _ e1 e2 _ => ?_) fun n d => ?_
  · rw [e1, e2, if_pos (by omega), decide_eq_true (.inl (by omega))] at hΦ; exact hΦ
  · rw [n, e1, e2, if_neg (by omega), if_pos (by omega), decide_eq_true (.inr (by omega))] at hΦ; exact hΦ
  · rw [n, d, if_neg (by omega), if_neg (by omega), decide_eq_false (by omega)] at hΦ; exact hΦ
theorem consistency_Find_ok {h : api_History} {im : List (List Sec)} {Φ : List Int × Bool × Int → Prop} (hh : SmallH h) (hl : im.length ≤ 100000) (hΦ : Φ (findR h im)) : consistency_Find_W h im Φ := by
  unfold findR at hΦ
  refine find_jdg hh hl (fun q => by rw [if_pos q] at hΦ; exact hΦ) fun hz hi hs hd m hm => ?_
  have e0 : rgtE h im = 0 := by unfold rgtE; rw [if_neg (fun t => t hz), if_neg (fun t => t hi), if_neg (fun t => t hs), if_neg (by rw [hd]; simp)]
  rw [if_neg (fun t => t e0)] at hΦ
  unfold cflB at hΦ
  refine find_unk hh hz hi hs hm (fun v k mm _ _ e1 e2 _ => ⟨fun _ => ⟨fun r => absurd rfl r, fun _ => ⟨fun _ => ?_, fun r => absurd rfl r⟩⟩, fun r => absurd rfl r⟩) (fun n v k _ _ e1 e2 _ => ⟨fun r => absurd rfl r, fun _ => ⟨fun _ => ?_, fun r => absurd rfl r⟩⟩) fun n d => ⟨fun r => absurd rfl r, fun _ => ⟨fun r => Bool.noConfusion r, fun _ => ?_⟩⟩
  · rw [if_pos (decide_eq_true (.inl (by omega)))] at hΦ; exact hΦ
  · rw [if_pos (decide_eq_true (.inr (by omega)))] at hΦ; exact hΦ
  · rw [if_neg (by rw [decide_eq_false (by omega)]; simp)] at hΦ; exact hΦ
theorem ref03_SameSectors_refl {l : List Sec} {Φ : Bool → Prop} (hl : l.length ≤ 1000000) (hΦ : Φ true) : ref03_SameSectors_W l l Φ :=
  ⟨fun h => absurd rfl h, fun _ => LoopW.upT l.length (fun k => (k : Int)) rfl (fun k rec hk hr => ⟨fun hlt => ⟨iX (by omega) hlt, iX (by omega) hlt, fun q => absurd rfl q, fun _ => ⟨iI (by omega) (by omega), hr _ rfl⟩⟩, fun r => absurd (show (k : Int) < (l.length : Int) by omega) r⟩) fun rec => ⟨fun r => absurd r (by omega), fun _ => hΦ⟩⟩
theorem ref03_SameWrites_refl {l : List api_Write} {Φ : Bool → Prop} (hl : l.length ≤ 1000000) (hd : ∀ w ∈ l, w.Data.length ≤ 1000000) (hΦ : Φ true) : ref03_SameWrites_W l l Φ :=
  ⟨fun h => absurd rfl h, fun _ => LoopW.upT l.length (fun k => (k : Int)) rfl (fun k rec hk hr => ⟨fun hlt => ⟨iX (by omega) hlt, iX (by omega) hlt, fun q => absurd rfl q, fun _ => ⟨iX (by omega) hlt, iX (by omega) hlt, fun q => absurd rfl q, fun _ => ⟨iX (by omega) hlt, iX (by omega) hlt, _, ref03_SameSectors_refl (hd _ (ix_mem (iX (by omega) hlt))) rfl, fun q => absurd rfl q, fun _ => ⟨iI (by omega) (by omega), hr _ rfl⟩⟩⟩⟩, fun r => absurd (show (k : Int) < (l.length : Int) by omega) r⟩) fun rec => ⟨fun r => absurd r (by omega), fun _ => hΦ⟩⟩
theorem conR_small (h : api_History) (im : List (List Sec)) : ∀ w ∈ [(conR h im).1], w.Data.length ≤ 1000000 := by
  intro w hw
  rw [List.mem_singleton] at hw
  subst hw
  unfold conR
  by_cases q : rgtE h im ≠ 0
  · rw [if_pos q]; exact Nat.zero_le _
  · rw [if_neg q]
    rcases cfl_one h im with ⟨_, b⟩ | ⟨_, b⟩
    · show (cflW h im).Data.length ≤ 1000000; omega
    · show (cflW h im).Data.length ≤ 1000000; rw [b]; exact Nat.zero_le _
theorem ref07_Few_ok {im : List (List Sec)} {Φ : Bool → Prop} (hF : Φ false) (hT : im.length ≤ 9 → Φ true) : ref07_Few_W im Φ := by
  refine ⟨fun _ => hF, fun h9 => ?_⟩
  exact LoopW.upT im.length (fun k => (k : Int)) rfl (fun k rec hk hr => ⟨fun hlt => ⟨iX (by omega) hlt, fun _ => hF, fun q => ⟨iI (by omega) (by omega), hr _ rfl⟩⟩, fun r => absurd (show (k : Int) < (im.length : Int) by omega) r⟩) fun rec => ⟨fun r => absurd r (by omega), fun _ => hT (by omega)⟩
theorem atN_mono {l : List api_HistoryEvent} {e : api_HistoryEvent} {k : Nat} (h : 0 ≤ atN l k e) : ∀ m, atN l (k + m) e = atN l k e
  | 0 => rfl
  | m + 1 => by
    have ih := atN_mono h m
    rw [show k + (m + 1) = (k + m) + 1 by omega, atN_old (by rw [ih]; exact h), ih]
theorem atN_at {l : List api_HistoryEvent} {e : api_HistoryEvent} {n : Nat} (h : 0 ≤ atN l n e) : ∃ k : Nat, k < n ∧ atN l n e = (k : Int) ∧ ix l (k : Int) = e := by
  rcases idxN_cases (fun k => decide (ix l (k : Int) = e)) n with ⟨h1, _⟩ | ⟨k, hk, h1, h2, _⟩
  · have h1 : atN l n e = -1 := h1
    omega
  · exact ⟨k, hk, h1, of_decide_eq_true h2⟩
theorem ack_issue {h : api_History} (hz : histE h = 0) {a : Int} (q : 0 ≤ atN h.Events h.Events.length ⟨1, a⟩) : 0 ≤ a ∧ a < (h.Writes.length : Int) ∧ atN h.Events h.Events.length ⟨0, a⟩ < atN h.Events h.Events.length ⟨1, a⟩ := by
  obtain ⟨k, hk, e1, e2⟩ := atN_at q
  have hev := hist_ev hz hk
  have nk : ¬ (ix h.Events (k : Int)).Kind = 0 := by rw [e2]; exact fun t => absurd (show (1 : Int) = 0 from t) (by decide)
  obtain ⟨_, h1, h2, _⟩ := evErr_ack hev nk
  rw [e2] at h1 h2
  have h1 : 0 ≤ a := h1
  have h2 : a < (cntI h.Events k : Int) := h2
  have h0 : ∀ j, j < k → evErr h.Events h.Writes.length j = 0 := fun j hj => hist_ev hz (by omega)
  have c := cnt_le h0
  have i1 := (at_issue h0 a).2 ⟨h1, h2⟩
  have i2 := atN_mono i1 (h.Events.length - k)
  rw [show k + (h.Events.length - k) = h.Events.length by omega] at i2
  have i3 := atN_top h.Events k ⟨0, a⟩
  exact ⟨h1, by omega, by rw [i2, e1]; exact i3⟩
def moreH (h : api_History) (w : api_Write) : api_History := ⟨h.Sizes, h.Writes ++ [w], h.Events ++ [⟨0, (h.Writes.length : Int)⟩]⟩
theorem ix_snoc_lt {α : Type} [Dt α] {xs : List α} {x : α} {k : Nat} (hk : k < xs.length) : ix (xs ++ [x]) (k : Int) = ix xs (k : Int) := by
  rw [ix_get (by rw [List.length_append]; omega), ix_get hk, List.getElem_append_left hk]
theorem ix_snoc_eq {α : Type} [Dt α] {xs : List α} {x : α} : ix (xs ++ [x]) (xs.length : Int) = x := by
  rw [ix_get (by rw [List.length_append, List.length_singleton]; omega), List.getElem_append_right (Nat.le_refl _)]
  simp
theorem slices_Clone_int_ok {l : List Int} {Φ : List Int → Prop} (hl : l.length ≤ 1000000) (hΦ : Φ l) : slices_Clone_int_int_W l Φ :=
  ⟨fun h => (by subst h; exact hΦ), iL hl (by omega), hΦ⟩
theorem slices_Clone_ev_ok {l : List api_HistoryEvent} {Φ : List api_HistoryEvent → Prop} (hl : l.length ≤ 1000000) (hΦ : Φ l) : slices_Clone_api_HistoryEvent_api_HistoryEvent_W l Φ :=
  ⟨fun h => (by subst h; exact hΦ), iL hl (by omega), hΦ⟩
theorem history_copied_ok {h : api_History} {Φ : api_History → Prop} (hh : SmallH h) (hs : h.Sizes.length ≤ 1000000) (hΦ : Φ h) : history_copied_W h Φ := by
  have h1 := hh.ev
  have h2 := hh.wr
  refine ⟨_, slices_Clone_int_ok hs rfl, _, slices_Clone_ev_ok (by omega) rfl, ?_⟩
  refine LoopW.upT h.Writes.length (fun k => ((k : Int), h.Writes.take k)) rfl (fun k rec hk hr => ?_) fun rec => ⟨fun r => absurd r (by omega), fun _ => by
    show Φ (api_History.mk h.Sizes (h.Writes.take h.Writes.length) h.Events)
    rw [List.take_length]; exact hΦ⟩
  have h3 := hh.data k hk
  exact ⟨fun hlt => ⟨iX (by omega) hlt, slices_Clone_Sec_ok (by omega) ⟨iL (by rw [len_snoc, lenT (by omega)]; omega) (by omega), iI (by omega) (by omega), hr _ (by rw [take_ix hk]; rfl)⟩⟩, fun r => absurd (show (k : Int) < (h.Writes.length : Int) by omega) r⟩
theorem history_Issue_ok {h : api_History} {w : api_Write} {Φ : api_History × Int × Int → Prop} (hh : SmallH h) (hn : h.Writes.length ≤ 40) (hw : w.Data.length ≤ 24) (k0 : histE h = 0 → fitW h.Sizes w = 0 → Φ (moreH h w, (h.Writes.length : Int), 0)) (k1 : ∀ x n e, e ≠ 0 → Φ (x, n, e)) : history_Issue_W h w Φ := by
  have hev := hh.ev
  refine history_check_ok hh (fun hz => ⟨fun r => absurd rfl r, fun _ => ⟨fun r => absurd r (by omega), fun _ => ?_⟩⟩) fun q => ⟨fun _ => k1 _ _ _ q, fun r => absurd q r⟩
  have hs := (histE_zero hz).1
  have h8 := sizesE_len hs
  have e := szs_zeroI hs
  refine image_New_ok (fun _ => image_Fits_ok (by omega) (by unfold imgE; rw [e]; exact hs) ?_) fun q => absurd hs q
  show (fitW (szs (zeroI h.Sizes)) w ≠ 0 → _) ∧ _
  rw [e]
  refine ⟨fun q => k1 _ _ _ q, fun q => history_copied_ok hh (by omega) (slices_Clone_Sec_ok (by omega) ?_)⟩
  refine ⟨iL (by rw [len_snoc]; omega) (by omega), iL (by rw [len_snoc]; omega) (by omega), k0 hz (Classical.not_not.1 q)⟩
theorem moreH_small {h : api_History} {w : api_Write} (hh : SmallH h) (hn : h.Writes.length ≤ 40) (he : h.Events.length ≤ 90000) (hw : w.Data.length ≤ 24) : SmallH (moreH h w) := by
  refine ⟨by show (h.Events ++ [_]).length ≤ 100000; rw [len_snoc]; omega, by show (h.Writes ++ [_]).length ≤ 100000; rw [len_snoc]; omega, fun k hk => ?_⟩
  have hk : k < (h.Writes ++ [w]).length := hk
  rw [len_snoc] at hk
  show (ix (h.Writes ++ [w]) (k : Int)).Data.length ≤ 100000
  rcases Nat.lt_or_ge k h.Writes.length with c | c
  · rw [ix_snoc_lt c]; exact hh.data k c
  · obtain rfl : k = h.Writes.length := by omega
    rw [ix_snoc_eq]; omega
theorem more_len {h : api_History} {w : api_Write} : (moreH h w).Writes.length = h.Writes.length + 1 := len_snoc _ _
theorem more_wr {h : api_History} {w : api_Write} {i : Nat} (hi : i < h.Writes.length) : wr (moreH h w) i = wr h i := ix_snoc_lt hi
theorem more_last {h : api_History} {w : api_Write} : wr (moreH h w) h.Writes.length = w := ix_snoc_eq
theorem more_aut {h : api_History} {w : api_Write} {v s : Int} {x : Sec} (hn : hasC w v s x = false) : autC (moreH h w) v s x = autC h v s x := by
  unfold autC
  rw [more_len, idxN_succ, more_last, hn]
  have e : idxN (fun i => hasC (wr (moreH h w) i) v s x) h.Writes.length = idxN (fun i => hasC (wr h i) v s x) h.Writes.length := idxN_congr fun k hk => by rw [more_wr hk]
  rw [e]
  by_cases q : 0 ≤ idxN (fun i => hasC (wr h i) v s x) h.Writes.length
  · rw [if_pos q]
  · rw [if_neg q, if_neg (by simp)]
    rcases idxN_cases (fun i => hasC (wr h i) v s x) h.Writes.length with ⟨a, _⟩ | ⟨k, _, a, _⟩
    · rw [a]
    · omega
theorem more_at {h : api_History} {w : api_Write} {e : api_HistoryEvent} (he : (⟨0, (h.Writes.length : Int)⟩ : api_HistoryEvent) ≠ e) : atN (moreH h w).Events (moreH h w).Events.length e = atN h.Events h.Events.length e := by
  show atN (h.Events ++ [api_HistoryEvent.mk 0 (h.Writes.length : Int)]) (h.Events ++ [api_HistoryEvent.mk 0 (h.Writes.length : Int)]).length e = _
  rw [len_snoc, atN_keep (by rw [ix_snoc_eq]; exact he)]
  exact idxN_congr fun k hk => by rw [ix_snoc_lt hk]
theorem more_bef {h : api_History} {w : api_Write} {a b : Nat} (hb : b < h.Writes.length) : befP (moreH h w) a b = befP h a b := by
  unfold befP
  rw [more_at (fun t => absurd (congrArg api_HistoryEvent.Kind t) (by show ¬ (0 : Int) = 1; decide)), more_at (fun t => by
    have := congrArg api_HistoryEvent.Write t
    have : (h.Writes.length : Int) = (b : Int) := this
    omega)]
structure Later (h : api_History) (w : api_Write) (im : List (List Sec)) : Prop where
  hz : histE h = 0
  hz2 : histE (moreH h w) = 0
  ne : ∀ v k : Nat, hasC w (v : Int) (k : Int) (sec im v k) = false
theorem Later.unk {h : api_History} {w : api_Write} {im : List (List Sec)} (L : Later h w im) : unkB (moreH h w) im = unkB h im := by
  funext v k
  unfold unkB
  rw [more_aut (L.ne v k)]
theorem Later.need {h : api_History} {w : api_Write} {im : List (List Sec)} (L : Later h w im) (i : Nat) : needB (moreH h w) im i = needB h im i := by
  unfold needB
  have : ∀ v k : Nat, autC (moreH h w) (v : Int) (k : Int) (sec im v k) = autC h (v : Int) (k : Int) (sec im v k) := fun v k => more_aut (L.ne v k)
  simp only [this]
theorem Later.needL {h : api_History} {w : api_Write} {im : List (List Sec)} (L : Later h w im) : needL (moreH h w) im = needL h im := by
  have e : needB h im h.Writes.length = false := by
    rw [Bool.eq_false_iff]
    intro t
    obtain ⟨v, k, _, _, _, a⟩ := needB_iff.1 t
    rcases autC_cases h (v : Int) (k : Int) (sec im v k) with ⟨b, _⟩ | ⟨i, hi, b, _⟩
    · omega
    · omega
  show selL (moreH h w).Writes.length (needB (moreH h w) im) = selL h.Writes.length (needB h im)
  rw [more_len, selL_succ, L.need, e, if_neg (by simp), List.append_nil]
  exact selL_congr fun i _ => L.need i
theorem Later.low {h : api_History} {w : api_Write} {im : List (List Sec)} (L : Later h w im) : lowH (moreH h w) im = lowH h im := by
  rw [lowH_sel, lowH_sel, L.needL, more_len, selL_succ]
  have hb : isSetB (Go.Proofs.Ytjjodmgmidbamaa.needL h im) (h.Writes.length : Int) = true := needL_set
  have ml := more_len (h := h) (w := w)
  have e : lowC (moreH h w) (Go.Proofs.Ytjjodmgmidbamaa.needL h im) h.Writes.length = false := by
    rw [Bool.eq_false_iff]
    intro t
    unfold lowC at t
    rw [Bool.or_eq_true, decide_eq_true_iff, List.any_eq_true] at t
    rcases t with t | ⟨x, hx, t⟩
    · have := isSetB_mem hb t; omega
    · have m := isSetB_mem hb hx
      rw [befC_eq L.hz2 (by omega) (by omega), more_bef (by omega)] at t
      unfold befP at t
      rw [decide_eq_true_iff] at t
      have := ack_issue L.hz t.1
      omega
  rw [e, if_neg (by simp), List.append_nil]
  refine selL_congr fun a ha => ?_
  unfold lowC
  congr 1
  rw [Bool.eq_iff_iff, List.any_eq_true, List.any_eq_true]
  refine exists_congr fun x => and_congr_right fun hx => ?_
  have m := isSetB_mem hb hx
  rw [befC_eq L.hz2 (by omega) (by omega), befC_eq L.hz ha (by omega), more_bef (by omega)]
theorem Later.xim {h : api_History} {w : api_Write} {im : List (List Sec)} (L : Later h w im) : ximH (moreH h w) im = ximH h im := by
  unfold ximH
  rw [L.low]
  show appL (zeroI h.Sizes) (setWr (moreH h w) (lowH h im)) = appL (zeroI h.Sizes) (setWr h (lowH h im))
  congr 1
  refine List.map_congr_left fun x hx => ?_
  have m := isSetB_mem lowH_set hx
  have e : ((x.toNat : Nat) : Int) = x := Int.toNat_of_nonneg m.1
  rw [← e]
  exact more_wr (by omega)
theorem Later.cfl {h : api_History} {w : api_Write} {im : List (List Sec)} (L : Later h w im) : cflW (moreH h w) im = cflW h im ∧ cflB (moreH h w) im = cflB h im := by
  unfold cflW cflB unkV unkK difV difK
  rw [L.unk, L.xim]
  exact ⟨rfl, rfl⟩
theorem slices_Equal_int_refl {l : List Int} {Φ : Bool → Prop} (hl : l.length ≤ 1000000) (hΦ : Φ true) : slices_Equal_int_int_W l l Φ :=
  ⟨fun h => absurd rfl h, fun _ => LoopW.upT l.length (fun k => (k : Int)) rfl (fun k rec hk hr => ⟨fun hlt => ⟨iX (by omega) hlt, iX (by omega) hlt, fun q => absurd rfl q, fun _ => ⟨iI (by omega) (by omega), hr _ rfl⟩⟩, fun r => absurd (show (k : Int) < (l.length : Int) by omega) r⟩) fun rec => ⟨fun r => absurd r (by omega), fun _ => hΦ⟩⟩
theorem findR_small {h : api_History} {im : List (List Sec)} (hh : h.Writes.length ≤ 4096) : (findR h im).1.length ≤ 1000000 := by
  unfold findR
  by_cases q : rgtE h im ≠ 0
  · rw [if_pos q]; exact Nat.zero_le _
  · rw [if_neg q]
    by_cases r : cflB h im = true
    · rw [if_pos r]; exact Nat.zero_le _
    · rw [if_neg r]
      show (lowH h im).length ≤ 1000000
      rw [lowH_sel]
      have := selL_len (n := h.Writes.length) (p := lowC h (needL h im))
      omega
theorem fewH_ev {h : api_History} (hf : fewH h = true) : h.Events.length ≤ 90 := by
  unfold fewH at hf
  rw [Bool.and_eq_true, Bool.and_eq_true, decide_eq_true_iff] at hf
  omega
theorem law18_few_ok' {h : api_History} {im : List (List Sec)} {Φ : Bool → Prop} (hF : Φ false) (hT : SmallH h → h.Writes.length ≤ 40 → h.Events.length ≤ 90000 → im.length ≤ 9 → Φ true) : law18_few_W h im Φ :=
  ref15_Few_ok ⟨fun q => by
    have hf := fewH_small q
    have he := fewH_ev q
    exact ref07_Few_ok hF fun h9 => hT hf.1 hf.2 (by omega) h9, fun _ => hF⟩
theorem consistencyContinues_law (h : api_History) (im : List (List Sec)) (w : api_Write) (_ : Rg.rg h) (_ : Rg.rg im) (_ : Rg.rg w) : law18_ConsistencyContinues_W h im w fun y => y = true := by
  have skip : law18_ConsistencyContinues_J1 h im w (fun y => y = true) true := ⟨fun _ => law18_awake_ok rfl, fun r => absurd rfl r⟩
  unfold law18_ConsistencyContinues_W Join
  refine law18_few_ok' ⟨fun _ => skip, fun q => absurd (fun t => Bool.noConfusion t) q⟩ fun hh h40 he h9 => ⟨fun r => absurd rfl r, fun _ => ?_⟩
  by_cases hd24 : 24 < (w.Data.length : Int)
  · rw [decide_eq_true hd24]; exact skip
  rw [decide_eq_false hd24]
  refine ⟨fun r => Bool.noConfusion r, fun _ => ?_⟩
  have skip2 : ∀ x, law18_ConsistencyContinues_J2 h im w x (fun y => y = true) true := fun x => ⟨fun _ => law18_awake_ok rfl, fun r => absurd rfl r⟩
  refine history_Issue_ok hh h40 (by omega) (fun hz hf => ⟨fun r => absurd rfl r, fun _ => ?_⟩) fun x n e q => ⟨fun _ => skip2 _, fun r => absurd q r⟩
  have hh2 := moreH_small (w := w) hh h40 he (by omega)
  refine consistency_Distinct_ok hh2 ?_
  cases ed : distH (moreH h w) with
  | false => exact skip2 _
  | true =>
    refine ⟨fun r => Bool.noConfusion r, fun _ => ?_⟩
    unfold distH at ed
    rw [Bool.and_eq_true, decide_eq_true_iff] at ed
    obtain ⟨hz2, hd2⟩ := ed
    refine consistency_Find_ok hh (by omega) ⟨fun _ => law18_awake_ok rfl, fun r => ?_⟩
    have e0 : rgtE h im = 0 := by
      by_cases q : rgtE h im = 0
      · exact q
      · refine absurd ?_ r
        unfold findR
        rw [if_pos q]; exact q
    obtain ⟨_, hi, hs, hd⟩ := rgtE_zero e0
    have sm := fit_small (im := im) (by rw [show sizesE (szs im) = 0 from hi]; simp)
    have el : im.length = h.Sizes.length := by rw [← hs, szs_len]
    have fw := fitW_zero (sizes := h.Sizes) (w := w) (by rw [(histE_zero hz).1]; simp) hf
    have ev : ((w.Volume.toNat : Nat) : Int) = w.Volume := Int.toNat_of_nonneg fw.1
    have hvl : w.Volume.toNat < im.length := by omega
    have hrow : ((ix im w.Volume).length : Int) = ix h.Sizes w.Volume := by rw [← ev, ← ix_szs hvl, hs]
    refine LoopW.upI w.Data.length (fun k => (k : Int)) (fun k => ∀ j, j < k → ix (ix im w.Volume) (w.Start + (j : Int)) ≠ ix w.Data (j : Int)) rfl (fun j hj => absurd hj (Nat.not_lt_zero j)) (fun k rec hk hI hr => ⟨fun hlt => ⟨iX (by omega) hlt, iX (by omega) (by omega), iI (by omega) (by omega), iX (by omega) (by omega), fun _ => law18_awake_ok rfl, fun q => ⟨iI (by omega) (by omega), hr (fun j hj => ?_) _ rfl⟩⟩, fun t => absurd (show (k : Int) < (w.Data.length : Int) by omega) t⟩) fun rec hI => ⟨fun t => absurd t (by omega), fun _ => ?_⟩
    · rcases Nat.lt_or_ge j k with c | c
      · exact hI j c
      · obtain rfl : j = k := by omega
        exact q
    have L : Later h w im := ⟨hz, hz2, fun v k => by
      rw [Bool.eq_false_iff]
      intro t
      obtain ⟨⟨a, b, c⟩, d⟩ := hasC_iff.1 t
      have e : ((((k : Int) - w.Start).toNat : Nat) : Int) = (k : Int) - w.Start := Int.toNat_of_nonneg (by omega)
      refine hI ((k : Int) - w.Start).toNat (by omega) ?_
      rw [e, a, d, show w.Start + ((k : Int) - w.Start) = (k : Int) by omega]; rfl⟩
    obtain ⟨c1, c2⟩ := L.cfl
    have e2 : rgtE (moreH h w) im = 0 := by unfold rgtE; rw [if_neg (fun t => t hz2), if_neg (fun t => t hi), if_neg (fun t => t hs), if_neg (by rw [hd2]; simp)]
    have fr : ∀ g : api_History, rgtE g im = 0 → findR g im = if cflB g im = true then ([], false, 0) else (lowH g im, true, 0) := fun g e => by unfold findR; rw [if_neg (fun t => t e)]
    have cr : ∀ g : api_History, rgtE g im = 0 → conR g im = (cflW g im, cflB g im, 0) := fun g e => by unfold conR; rw [if_neg (fun t => t e)]
    have eF : findR (moreH h w) im = findR h im := by rw [fr _ e2, fr _ e0, c2, L.low]
    have eC : conR (moreH h w) im = conR h im := by rw [cr _ e2, cr _ e0, c1, c2]
    have zF : (findR h im).2.2 = 0 := Classical.not_not.1 r
    have zC : (conR h im).2.2 = 0 := by unfold conR; rw [if_neg (fun t => t e0)]
    refine consistency_Find_ok hh2 (by omega) (consistency_Conflict_ok hh (by omega) (consistency_Conflict_ok hh2 (by omega) ?_))
    rw [eF, eC, zF, zC]
    refine ⟨iI (by omega) (by omega), iI (by omega) (by omega), fun _ => slices_Equal_int_refl (findR_small (by omega)) ⟨fun _ => ⟨fun _ => ⟨fun _ => ref03_SameWrites_refl (by show 1 ≤ 1000000; omega) (conR_small h im) ⟨fun _ => law18_awake_ok rfl, fun t => absurd rfl t⟩, fun t => absurd rfl t⟩, fun t => absurd rfl t⟩, fun t => absurd rfl t⟩, fun t => absurd rfl t⟩
end Go.Proofs.Ytjjodmgmidbamaa
namespace Go.Proofs.Ytjjodmgmidbamaa
open Go.RowKit Go.ChangeShapes Go.WideShapes Go.ChangeAt
set_option maxRecDepth 100000 in
theorem consistencyContinues_lifted (os : Os) (started : os.Started) (H : Type) (enc : TypeId × Value → H) :
    ReturnsInHanded {} Try.checked os 6 .any (Rows.consistencyContinuesSpec.pre6 enc Try.prog Try.f6 Rows.consistencyContinuesRow.domain false) (Rows.consistencyContinuesSpec.post enc Try.prog Try.f6 false true false false) := by
  refine returnsInHanded_of_change (C := Try.checked) Try.own started (by kernel_rfl) Try.func6
    (ChangeSpec.witness6 (enc := enc) (C := Try.checked) false ⟨#[], #[.agg #[.slice none 0 0, .slice none 0 0, .slice none 0 0], .slice none 0 0, .agg #[.int .i64 (0), .int .i64 (0), .slice none 0 0]], []⟩ 8 (by kernel_rfl) (by kernel_rfl) (by kernel_rfl) (by kernel_rfl)) ?_
  intro W base args ds gs before hval0 hW _ _
  have hval : ∀ (j : Nat) t v, Try.f6.params[j]? = some t → args[j]? = some v → Value.okWide Try.prog W .any base t v := hval0
  have hW' := hW
  obtain ⟨p, q, hA0, hV, hpq, _, _⟩ := hW
  have hA : DataW.TrodAll enc Try.prog W 0 (fun _ => true) true Try.f6.params.toList args.toList ds p := hA0
  rw [Try.params6] at hA hval
  obtain ⟨v0, v1, v2, d0, d1, d2, p0, p1, p2, rfl, rfl, rfl, h0, h1, h2⟩ := trodAll_three hA
  obtain ⟨rfl, rfl⟩ := trodVars_none hV
  obtain ⟨ks0, x0, rfl, hr0, hg0⟩ := open_strD Try.underlying26 rd26 (hval 0 26 v0 rfl rfl) h0
  obtain ⟨Az1, nz1, cz1, sz1, x1, rfl, hz1, hg1⟩ := open_slD Try.underlying30 rd30 (hval 1 30 v1 rfl rfl) h1
  obtain ⟨ks2, x2, rfl, hr2, hg2⟩ := open_strD Try.underlying34 rd34 (hval 2 34 v2 rfl rfl) h2
  refine Calls.mono ((RetP.toV (y := true) (F := fun z => .bool z) (RetP.mono (ok6 (x0, x1, x2, ()) (fun y => y.1 = true) (consistencyContinues_law x0 x1 x2 hg0 hg1 hg2) (HW W) [.agg ks0.toArray, .slice Az1 nz1 cz1, .agg ks2.toArray] trivial ⟨_, ks0, _, rfl, by rw [pkw26], (show Dt.rd (α := api_History) (HW W) _ _ from hr0), ⟨_, [.slice Az1 nz1 cz1], _, rfl, by rw [pkw30], (show Dt.rd (α := List (List Sec)) (HW W) _ _ from ⟨Az1, nz1, cz1, sz1, rfl, hz1⟩), ⟨_, ks2, _, rfl, by rw [pkw34], (show Dt.rd (α := api_Write) (HW W) _ _ from hr2), rfl⟩⟩⟩) fun _ _ _ _ ⟨y, hy, hr⟩ => lawRes y hy hr)) W fun b o e => e) ?_
  rintro e W' ⟨v, _, rfl, _, _, _, hb, rfl⟩
  exact ⟨_, rfl, post_law Try.laidOut Try.underlying4 rfl (by kernel_rfl) hW' rfl rfl hb⟩
theorem consistencyContinues_holds : Rows.ConsistencyContinuesSaid :=
  OpenClaim.holds_of_wide 6 Try.f6 rfl rfl rfl rfl rfl rfl rfl ⟨rfl, rfl, rfl, rfl, rfl⟩ rfl rfl rfl rfl rfl (by kernel_rfl) Try.func6 (by kernel_rfl)
    (of_decide_eq_true (by kernel_rfl)) (by unfold Func.isWrapper; first | (rw [if_pos (by decide +kernel)]; kernel_rfl) | (rw [if_neg (by decide +kernel)]; exact ⟨rfl, rfl⟩))
    (fun os started H enc _ => consistencyContinues_lifted os started H enc)
end Go.Proofs.Ytjjodmgmidbamaa
