/- Proved: the tied card of the statement ConsistencyShows: for every argument that can be read the law returns true and leaves its arguments as they were. Conditions: the row's own alone. -/
import Derived.Lib.TrailingZeros
import Derived.Test.YtjjodmgmidbamaaM6
namespace Go.Proofs.Ytjjodmgmidbamaa
open Go.RowKit
theorem rgtE_zero {h : api_History} {im : List (List Sec)} (e : rgtE h im = 0) : histE h = 0 ∧ imgE im = 0 ∧ szs im = h.Sizes ∧ distB h = true := by
  unfold rgtE at e
  by_cases q : histE h ≠ 0
  · rw [if_pos q] at e; exact absurd e q
  rw [if_neg q] at e
  by_cases q2 : imgE im ≠ 0
  · rw [if_pos q2] at e; exact absurd e q2
  rw [if_neg q2] at e
  by_cases q3 : szs im ≠ h.Sizes
  · rw [if_pos q3] at e; exact absurd e (by decide)
  rw [if_neg q3] at e
  by_cases q4 : distB h = false
  · rw [if_pos q4] at e; exact absurd e (by decide)
  · exact ⟨Classical.not_not.1 q, Classical.not_not.1 q2, Classical.not_not.1 q3, Bool.of_not_eq_false q4⟩
theorem consistency_Conflict_ok {h : api_History} {im : List (List Sec)} {Φ : api_Write × Bool × Int → Prop} (hh : SmallH h) (hl : im.length ≤ 100000) (hΦ : Φ (conR h im)) : consistency_Conflict_W h im Φ := by
  unfold conR at hΦ
  refine conflict_jdg hh hl (fun q => by rw [if_pos q] at hΦ; exact hΦ) fun hz hi hs hd m hm => ?_
  have e0 : rgtE h im = 0 := by unfold rgtE; rw [if_neg (fun t => t hz), if_neg (fun t => t hi), if_neg (fun t => t hs), if_neg (by rw [hd]; simp)]
  rw [if_neg (fun t => t e0)] at hΦ
  unfold cflW cflB at hΦ
  refine conflict_unk hh hz hi hs hm (fun v k mm _ _ e1 e2 _ => ⟨fun _ => ?_, fun r => absurd rfl r⟩) (fun n v k _ _ e1 e2 _ => ?_) fun n d => ?_
  · rw [e1, e2, if_pos (by omega), decide_eq_true (.inl (by omega))] at hΦ; exact hΦ
  · rw [n, e1, e2, if_neg (by omega), if_pos (by omega), decide_eq_true (.inr (by omega))] at hΦ; exact hΦ
  · rw [n, d, if_neg (by omega), if_neg (by omega), decide_eq_false (by omega)] at hΦ; exact hΦ
theorem consistency_Find_ok {h : api_History} {im : List (List Sec)} {Φ : List Int × Bool × Int → Prop} (hh : SmallH h) (hl : im.length ≤ 100000) (hΦ : Φ (findR h im)) : consistency_Find_W h im Φ := by
  unfold findR at hΦ
  refine find_jdg hh hl (fun q => by rw [if_pos q] at hΦ; exact hΦ) fun hz hi hs hd m hm => ?_
  have e0 : rgtE h im = 0 := by unfold rgtE; rw [if_neg (fun t => t hz), if_neg (fun t => t hi), if_neg (fun t => t hs), if_neg (by rw [hd]; simp)]
  rw [if_neg (fun t => t e0)] at hΦ
  unfold cflB at hΦ
  refine find_unk hh hz hi hs hm (fun v k mm _ _ e1 e2 _ => ⟨fun _ => ⟨fun r => absurd rfl r, fun _ => ⟨fun _ => ?_, fun r => absurd rfl r⟩⟩, fun r => absurd rfl r⟩) (fun n v k _ _ e1 e2 _ => ⟨fun r => absurd rfl r, fun _ => ⟨fun _ => ?_, fun r => absurd rfl r⟩⟩) fun n d => ⟨fun r => absurd rfl r, fun _ => ⟨fun r => Bool.noConfusion r, fun _ => ?_⟩⟩
  · rw [if_pos (decide_eq_true (.inl (by omega)))] at hΦ; exact hΦ
  · rw [if_pos (decide_eq_true (.inr (by omega)))] at hΦ; exact hΦ
  · rw [if_neg (by rw [decide_eq_false (by omega)]; simp)] at hΦ; exact hΦ
theorem ref07_Few_ok {im : List (List Sec)} {Φ : Bool → Prop} (hF : Φ false) (hT : im.length ≤ 9 → Φ true) : ref07_Few_W im Φ := by
  refine ⟨fun _ => hF, fun h9 => ?_⟩
  exact LoopW.upT im.length (fun k => (k : Int)) rfl (fun k rec hk hr => ⟨fun hlt => ⟨iX (by omega) hlt, fun _ => hF, fun q => ⟨iI (by omega) (by omega), hr _ rfl⟩⟩, fun r => absurd (show (k : Int) < (im.length : Int) by omega) r⟩) fun rec => ⟨fun r => absurd r (by omega), fun _ => hT (by omega)⟩
theorem law18_few_ok {h : api_History} {im : List (List Sec)} {Φ : Bool → Prop} (hF : Φ false) (hT : SmallH h → h.Writes.length ≤ 40 → im.length ≤ 9 → Φ true) : law18_few_W h im Φ :=
  ref15_Few_ok ⟨fun q => by
    have hf := fewH_small q
    exact ref07_Few_ok hF fun h9 => hT hf.1 hf.2 h9, fun _ => hF⟩
theorem cfl_cases (h : api_History) (im : List (List Sec)) : (cflB h im = false ∧ cflW h im = noW) ∨ (cflB h im = true ∧ ∃ (v k : Nat) (x : Sec), v < im.length ∧ k < szN im v ∧ cflW h im = oneWr (v : Int) (k : Int) x ∧ (sec im v k ≠ x ∨ x ≠ sec0 ∧ ∀ i, i < h.Writes.length → hasC (wr h i) (v : Int) (k : Int) x = false)) := by
  unfold cflB cflW
  rcases fst_cases im.length (szN im) (unkB h im) with ⟨h1, _⟩ | ⟨v, k, hv, hk, e1, e2, hb, _, _⟩
  · have h1 : unkV h im = -1 := h1
    rw [h1, if_neg (by omega)]
    rcases fst_cases im.length (szN im) (difB (ximH h im) im) with ⟨h2, _⟩ | ⟨v, k, hv, hk, e1, e2, hb, _, _⟩
    · have h2 : difV h im = -1 := h2
      rw [h2, if_neg (by omega)]
      exact .inl ⟨decide_eq_false (by omega), rfl⟩
    · have e1 : difV h im = (v : Int) := e1
      have e2 : difK h im = (k : Int) := e2
      rw [e1, e2, if_pos (by omega)]
      refine .inr ⟨decide_eq_true (.inr (by omega)), v, k, _, hv, hk, rfl, .inl ?_⟩
      exact fun t => (of_decide_eq_true hb) t.symm
  · have e1 : unkV h im = (v : Int) := e1
    have e2 : unkK h im = (k : Int) := e2
    rw [e1, e2, if_pos (by omega)]
    unfold unkB at hb
    rw [Bool.and_eq_true, decide_eq_true_iff, decide_eq_true_iff] at hb
    refine .inr ⟨decide_eq_true (.inl (by omega)), v, k, _, hv, hk, rfl, .inr ⟨hb.1, fun i hi => ?_⟩⟩
    rcases autC_cases h (v : Int) (k : Int) (sec im v k) with ⟨_, b⟩ | ⟨j, _, b, _⟩
    · exact b i hi
    · have := hb.2; omega
theorem consistencyShows_law (h : api_History) (im : List (List Sec)) (_ : Rg.rg h) (_ : Rg.rg im) : law18_ConsistencyShows_W h im fun y => y = true := by
  refine law18_few_ok ⟨fun _ => law18_awake_ok rfl, fun q => absurd (fun t => Bool.noConfusion t) q⟩ fun hh _ h9 => ⟨fun r => absurd rfl r, fun _ => ?_⟩
  refine consistency_Find_ok hh (by omega) (consistency_Conflict_ok hh (by omega) ?_)
  by_cases q : rgtE h im = 0
  · obtain ⟨hz, hi, hs, hd⟩ := rgtE_zero q
    have hw := hist_wr hz
    have sm := fit_small (im := im) (by rw [show sizesE (szs im) = 0 from hi]; simp)
    have eC : conR h im = (cflW h im, cflB h im, 0) := by unfold conR; rw [if_neg (fun t => t q)]
    have eF : findR h im = if cflB h im = true then ([], false, 0) else (lowH h im, true, 0) := by unfold findR; rw [if_neg (fun t => t q)]
    rw [eC, eF]
    rcases cfl_cases h im with ⟨b, e⟩ | ⟨b, v, k, x, hv, hk, e, hx⟩
    · rw [b, e, if_neg (by simp)]
      exact ⟨fun t => absurd rfl t, fun _ => ⟨fun t => Bool.noConfusion t, fun _ => ⟨fun t => Bool.noConfusion t, fun _ => ⟨fun _ => ⟨fun _ => law18_awake_ok rfl, fun t => absurd rfl t⟩, fun t => absurd (fun u => Bool.noConfusion u) t⟩⟩⟩⟩
    · rw [b, e, if_pos rfl]
      have sv := (sm.2.2 v hv).2
      have hk' : k < (ix im (v : Int)).length := hk
      have x0 : inX 0 (oneWr (v : Int) (k : Int) x).Data.length := iX (by omega) (by show (0 : Int) < ((1 : Nat) : Int); omega)
      refine ⟨fun t => absurd rfl t, fun _ => ⟨fun t => Bool.noConfusion t, fun _ => ⟨fun t => Bool.noConfusion t, fun _ => ⟨fun t => absurd rfl t, fun _ => ⟨fun t => absurd t (by show ¬ (v : Int) < 0; omega), fun _ => ⟨fun t => absurd t (by show ¬ (im.length : Int) ≤ (v : Int); omega), fun _ => ⟨fun t => absurd t (by show ¬ (k : Int) < 0; omega), fun _ => ⟨iX (by show 0 ≤ (v : Int); omega) (by show (v : Int) < (im.length : Int); omega), fun t => absurd t (by show ¬ ((ix im (v : Int)).length : Int) ≤ (k : Int); omega), fun _ => ⟨fun t => absurd rfl t, fun _ => ⟨iX (by show 0 ≤ (v : Int); omega) (by show (v : Int) < (im.length : Int); omega), iX (by show 0 ≤ (k : Int); omega) (by show (k : Int) < ((ix im (v : Int)).length : Int); omega), x0, fun _ => law18_awake_ok rfl, fun ne => ?_⟩⟩⟩⟩⟩⟩⟩⟩⟩⟩
      have ne : sec im v k = x := Classical.not_not.1 ne
      rcases hx with hx | ⟨hx, hn⟩
      · exact absurd ne hx
      have last : law18_ConsistencyShows_J2 (oneWr (v : Int) (k : Int) x, true, 0) (fun y => y = true) false := ⟨fun _ => ⟨x0, fun _ => law18_awake_ok rfl, fun t => absurd hx t⟩, fun t => absurd (fun u => Bool.noConfusion u) t⟩
      refine LoopW.upT h.Writes.length (fun i => (i : Int)) rfl (fun i rec hi hr => ⟨fun _ => ?_, fun t => absurd (show (i : Int) < (h.Writes.length : Int) by omega) t⟩) fun rec => ⟨fun t => absurd t (by omega), fun _ => last⟩
      have fi := hist_fit hz hi
      have next : law18_ConsistencyShows_J4 (oneWr (v : Int) (k : Int) x, true, 0) (i : Int) rec (fun y => y = true) false := ⟨fun t => Bool.noConfusion t, fun _ => ⟨iI (by omega) (by omega), hr _ rfl⟩⟩
      refine ⟨iX (by omega) (by omega), iI (by show _ ≤ (k : Int) - (wr h i).Start; omega) (by show (k : Int) - (wr h i).Start ≤ _; omega), fun t1 => ⟨fun t2 => ⟨fun t3 => ⟨iX t2 t3, x0, ?_⟩, fun _ => next⟩, fun _ => next⟩, fun _ => next⟩
      have t1 : (wr h i).Volume = (v : Int) := t1
      have t2 : 0 ≤ (k : Int) - (wr h i).Start := t2
      have t3 : (k : Int) - (wr h i).Start < ((wr h i).Data.length : Int) := t3
      have := hn i hi
      have t4 : ¬ ix (wr h i).Data ((k : Int) - (wr h i).Start) = x := fun u => by
        rw [hasC_iff.2 ⟨⟨t1, by omega, by omega⟩, u⟩] at this; exact Bool.noConfusion this
      have e4 : decide (ix (wr h i).Data ((k : Int) - (wr h i).Start) = ix (oneWr (v : Int) (k : Int) x).Data 0) = false := decide_eq_false t4
      show law18_ConsistencyShows_J4 _ _ _ _ (decide (ix (wr h i).Data ((k : Int) - (wr h i).Start) = ix (oneWr (v : Int) (k : Int) x).Data 0))
      rw [e4]; exact next
  · have eC : conR h im = (noW, false, rgtE h im) := by unfold conR; rw [if_pos q]
    have eF : findR h im = ([], false, rgtE h im) := by unfold findR; rw [if_pos q]
    rw [eC, eF]
    exact ⟨fun _ => ⟨fun _ => ⟨fun _ => ⟨fun _ => ⟨fun _ => law18_awake_ok rfl, fun t => absurd (fun u => Bool.noConfusion u) t⟩, fun t => absurd (fun u => Bool.noConfusion u) t⟩, fun t => absurd rfl t⟩, fun t => absurd rfl t⟩, fun t => absurd q t⟩
end Go.Proofs.Ytjjodmgmidbamaa
namespace Go.Proofs.Ytjjodmgmidbamaa
open Go.RowKit Go.ChangeShapes Go.WideShapes Go.ChangeAt
set_option maxRecDepth 100000 in
theorem consistencyShows_lifted (os : Os) (started : os.Started) (H : Type) (enc : TypeId × Value → H) :
    ReturnsInHanded {} Try.checked os 5 .any (Rows.consistencyShowsSpec.pre6 enc Try.prog Try.f5 Rows.consistencyShowsRow.domain false) (Rows.consistencyShowsSpec.post enc Try.prog Try.f5 false true false false) := by
  refine returnsInHanded_of_change (C := Try.checked) Try.own started (by kernel_rfl) Try.func5
    (ChangeSpec.witness6 (enc := enc) (C := Try.checked) false ⟨#[], #[.agg #[.slice none 0 0, .slice none 0 0, .slice none 0 0], .slice none 0 0], []⟩ 8 (by kernel_rfl) (by kernel_rfl) (by kernel_rfl) (by kernel_rfl)) ?_
  intro W base args ds gs before hval0 hW _ _
  have hval : ∀ (j : Nat) t v, Try.f5.params[j]? = some t → args[j]? = some v → Value.okWide Try.prog W .any base t v := hval0
  have hW' := hW
  obtain ⟨p, q, hA0, hV, hpq, _, _⟩ := hW
  have hA : DataW.TrodAll enc Try.prog W 0 (fun _ => true) true Try.f5.params.toList args.toList ds p := hA0
  rw [Try.params5] at hA hval
  obtain ⟨v0, v1, d0, d1, p0, p1, rfl, rfl, rfl, h0, h1⟩ := trodAll_two hA
  obtain ⟨rfl, rfl⟩ := trodVars_none hV
  obtain ⟨ks0, x0, rfl, hr0, hg0⟩ := open_strD Try.underlying26 rd26 (hval 0 26 v0 rfl rfl) h0
  obtain ⟨Az1, nz1, cz1, sz1, x1, rfl, hz1, hg1⟩ := open_slD Try.underlying30 rd30 (hval 1 30 v1 rfl rfl) h1
  refine Calls.mono ((RetP.toV (y := true) (F := fun z => .bool z) (RetP.mono (ok5 (x0, x1, ()) (fun y => y.1 = true) (consistencyShows_law x0 x1 hg0 hg1) (HW W) [.agg ks0.toArray, .slice Az1 nz1 cz1] trivial ⟨_, ks0, _, rfl, by rw [pkw26], (show Dt.rd (α := api_History) (HW W) _ _ from hr0), ⟨_, [.slice Az1 nz1 cz1], _, rfl, by rw [pkw30], (show Dt.rd (α := List (List Sec)) (HW W) _ _ from ⟨Az1, nz1, cz1, sz1, rfl, hz1⟩), rfl⟩⟩) fun _ _ _ _ ⟨y, hy, hr⟩ => lawRes y hy hr)) W fun b o e => e) ?_
  rintro e W' ⟨v, _, rfl, _, _, _, hb, rfl⟩
  exact ⟨_, rfl, post_law Try.laidOut Try.underlying4 rfl (by kernel_rfl) hW' rfl rfl hb⟩
theorem consistencyShows_holds : Rows.ConsistencyShowsSaid :=
  OpenClaim.holds_of_wide 5 Try.f5 rfl rfl rfl rfl rfl rfl rfl ⟨rfl, rfl, rfl, rfl, rfl⟩ rfl rfl rfl rfl rfl (by kernel_rfl) Try.func5 (by kernel_rfl)
    (of_decide_eq_true (by kernel_rfl)) (by unfold Func.isWrapper; first | (rw [if_pos (by decide +kernel)]; kernel_rfl) | (rw [if_neg (by decide +kernel)]; exact ⟨rfl, rfl⟩))
    (fun os started H enc _ => consistencyShows_lifted os started H enc)
end Go.Proofs.Ytjjodmgmidbamaa
