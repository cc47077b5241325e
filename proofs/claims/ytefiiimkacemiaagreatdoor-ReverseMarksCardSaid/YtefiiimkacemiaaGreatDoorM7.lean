/- Proved: the tied card of the statement ReverseMarks: for every argument that can be read the law returns true and leaves its arguments as they were. Conditions: the row's own alone: the table math/bits.deBruijn64tab reads as listed, which the card ties to the program's text. -/
import Derived.Lib.TrailingZeros
import Derived.Test.YtefiiimkacemiaaGreatDoorM6
namespace Go.Proofs.YtefiiimkacemiaaGreatDoor
open Go.RowKit
theorem ref02_Get_in {b : api_Bitmap} {k : Nat} {Φ : Bool → Prop} (hc : chkB b = 0) (hk : (k : Int) < b.Size) (hΦ : Φ (bitN b.Words k)) : ref02_Get_W b (k : Int) Φ := by
  have w := chkB_len (b := b) (by simpa using hc)
  exact ref02_Check_ok ⟨fun _ => ⟨fun _ => ⟨fun _ => ref02_bit_ok (by omega) (by omega) hΦ, fun q => absurd hk q⟩, fun q => absurd (by omega) q⟩, fun q => absurd hc q⟩
def trk2 (sz : List Int) (D E : List api_Bitmap) (n : Int) : api_Tracker := ⟨sz, [⟨1, 5, D⟩, ⟨3, n, E⟩]⟩
theorem trk2_ok {sz : List Int} {D E : List api_Bitmap} {n : Int} (hs : sizesE sz = 0) (hD : BmsOk sz D) (hE : BmsOk sz E) (h0 : 0 ≤ n) (h1 : n ≤ 5) : TrkOk (trk2 sz D E n) := by
  refine ⟨hs, by show 2 ≤ 4; omega, fun k hk => ?_, fun k hk => ?_, fun k hk => ?_, fun i j hij hj => ?_⟩
  · have hk : k < 2 := hk
    rcases (show k = 0 ∨ k = 1 by omega) with rfl | rfl
    · exact hD
    · exact hE
  · have hk : k < 2 := hk
    rcases (show k = 0 ∨ k = 1 by omega) with rfl | rfl
    · exact ⟨by show (0 : Int) ≤ 1; omega, by show (1 : Int) < 4; omega⟩
    · exact ⟨by show (0 : Int) ≤ 3; omega, by show (3 : Int) < 4; omega⟩
  · have hk : k < 2 := hk
    rcases (show k = 0 ∨ k = 1 by omega) with rfl | rfl
    · exact ⟨by show (0 : Int) ≤ 5; omega, by show (5 : Int) ≤ 1073741824; omega⟩
    · exact ⟨h0, by show n ≤ 1073741824; omega⟩
  · have hj : j < 2 := hj
    obtain ⟨rfl, rfl⟩ : i = 0 ∧ j = 1 := by omega
    show (1 : Int) < 3; omega
theorem write2 {sz : List Int} {D E : List api_Bitmap} {n : Int} {w : api_Write} (h : TrkOk (trk2 sz D E n)) (hw : fitW sz w = 0) : writeT (trk2 sz D E n) w = (trk2 sz (markL D [w]) (markL E [w]) n, 0) := by
  unfold writeT
  rw [if_neg (by rw [trk_of h]; simp), if_neg (by show ¬ fitW sz w ≠ 0; rw [hw]; simp)]
  rfl
theorem dirty2 {sz : List Int} {D E : List api_Bitmap} {n : Int} (h : TrkOk (trk2 sz D E n)) : dirtyT (trk2 sz D E n) 3 = (E, n, 0) ∧ dirtyT (trk2 sz D E n) 1 = (D, 5, 0) := by
  have f3 : fndK (trk2 sz D E n).Peers 3 = 1 := rfl
  have f1 : fndK (trk2 sz D E n).Peers 1 = 0 := rfl
  refine ⟨?_, ?_⟩
  · unfold dirtyT
    rw [if_neg (by rw [trk_of h]; simp), f3, if_pos (by show 1 < 2; omega)]; rfl
  · unfold dirtyT
    rw [if_neg (by rw [trk_of h]; simp), f1, if_pos (by show 0 < 2; omega)]; rfl
theorem mark_snoc (C : List api_Bitmap) {l : List api_Write} {k : Nat} (hk : k < l.length) : markL (markL C (l.take k)) [ix l (k : Int)] = markL C (l.take (k + 1)) := by
  rw [markL_step C hk]; rfl
theorem small2 {sz : List Int} {D E : List api_Bitmap} {n : Int} (h : TrkOk (trk2 sz D E n)) : ∀ p ∈ (trk2 sz D E n).Peers, p.Dirty.length ≤ 100000 := fun p hp => by
  have := (h.small.2.2 p hp).1; omega
theorem new2 {sz : List Int} (hs : sizesE sz = 0) : newT sz [1, 3] 5 = (trk2 sz (sz.map newB) (sz.map newB) 5, 0) := by
  unfold newT
  rw [if_neg (by rw [hs]; simp), if_neg (by show ¬ (4 : Int) < 2; omega), if_neg (by decide), if_neg (by decide), if_neg (by omega)]
  rfl
theorem cmp_loop {sz : List Int} {M E : List api_Bitmap} {P : Nat → Nat → Prop} {n m : Int} {Φ : Bool → Prop} (hs : sizesE sz = 0) (hM : Marked sz M P) (hE : Marked sz E fun v i => P v i ∨ i = 0) (hΦ : Φ true) : LoopW (Z99 M (E, n, m) Φ) 0 := by
  have h8 := sizesE_len hs
  have l1 := hM.len
  have l2 := hE.len
  refine LoopW.upT M.length (fun k => (k : Int)) rfl (fun v rec hv hr => ⟨fun _ => ?_, fun q => absurd (show (v : Int) < (M.length : Int) by omega) q⟩) fun rec => ⟨fun q => absurd (show (M.length : Int) < (M.length : Int) from q) (by omega), fun _ => law47_awake_ok hΦ⟩
  have hv' : v < sz.length := by omega
  have hz := sizesE_ix hs hv'
  have c1 := hM.chk v hv'
  have c2 := hE.chk v hv'
  refine LoopW.upT (ix sz (v : Int)).toNat (fun k => (k : Int)) rfl (fun k rec2 hk hr2 => ⟨iX (by omega) (by omega), fun _ => ⟨iX (by omega) (by show (v : Int) < (E.length : Int); omega), ?_⟩, fun q => absurd (show (k : Int) < (ix M (v : Int)).Size by rw [c1.2]; omega) q⟩) fun rec2 => ⟨iX (by omega) (by omega), fun q => absurd (show (((ix sz (v : Int)).toNat : Nat) : Int) < (ix M (v : Int)).Size from q) (by rw [c1.2]; omega), fun _ => ⟨iI (by omega) (by omega), hr _ rfl⟩⟩
  have b1 := hM.bit v k hv' (by omega)
  have b2 := hE.bit v k hv' (by omega)
  refine ref02_Get_in c2.1 (by show (k : Int) < (ix E (v : Int)).Size; rw [c2.2]; omega) ⟨fun q => ⟨fun z => absurd (b2.2 (.inr (by omega))) z, fun _ => ⟨iI (by omega) (by omega), hr2 _ rfl⟩⟩, fun q => ⟨iX (by omega) (by omega), ref02_Get_in c1.1 (by rw [c1.2]; omega) ⟨fun z => absurd ?_ z, fun _ => ⟨iI (by omega) (by omega), hr2 _ rfl⟩⟩⟩⟩
  rw [Bool.eq_iff_iff, b1]
  exact b2.trans ⟨fun h => h.resolve_right (by omega), .inl⟩
theorem reverseMarks_law (x : BitVec 8) (a b : List api_Write) (ha : Rg.rg a) (hb : Rg.rg b) : Z106 x a b fun v => v = true := by
  have fin : ∀ q : Bool, q = true → Z105 x a b (fun v => v = true) q := fun q hq => ⟨fun _ => law47_awake_ok rfl, fun z => absurd hq z⟩
  refine law47_small_ok ⟨fun _ => fin _ rfl, fun z => absurd (by simp) z⟩ (fun _ ha2 => ⟨fun z => absurd rfl z, fun _ => law47_small_ok (fin _ rfl) (fun _ hb2 => ?_) hb.1⟩) ha.1
  refine ⟨fun z => absurd (of_decide_eq_true z) (by simp), fun _ => law47_image_ok (law47_fitting_ok (imM_ok x) ha2 (law47_fitting_ok (imM_ok x) hb2 ?_))⟩
  have hs := szM_ok x
  have hF := fitL_ok (imM x) a
  have hG := fitL_ok (imM x) b
  have hFd : ∀ w ∈ fitL (imM x) a, w.Data.length ≤ 20 := fun w hw => ha2 w (List.mem_of_mem_take (List.mem_filter.1 hw).1)
  have hGd : ∀ w ∈ fitL (imM x) b, w.Data.length ≤ 20 := fun w hw => hb2 w (List.mem_of_mem_take (List.mem_filter.1 hw).1)
  have himl : (imM x).length = 2 := by unfold imM; rw [zeroI_len]; rfl
  refine ref07_SizesOf_ok (by omega) ?_
  rw [imM_szs] at hF hG ⊢
  generalize fitL (imM x) a = F at hF hFd ⊢
  generalize fitL (imM x) b = G at hG hGd ⊢
  obtain ⟨hFl, hFf⟩ := hF
  obtain ⟨hGl, hGf⟩ := hG
  refine tracker_New_ok ?_
  rw [new2 hs]
  have hC := marked_clean hs
  have hmF : ∀ k : Nat, BmsOk (szM x) (markL ((szM x).map newB) (F.take k)) := fun k => markL_ok hC.toBmsOk fun w hw => hFf w (List.mem_of_mem_take hw)
  refine LoopW.upT 2 (fun k => ((k : Int), List.replicate k oneX)) rfl (fun k rec hk hr => ⟨fun _ => ⟨iL (by rw [len_snoc, List.length_replicate]; omega) (by omega), iI (by omega) (by omega), hr _ (by rw [List.replicate_succ']; rfl)⟩, fun q => absurd (show (k : Int) < ((imM x).length : Int) by omega) q⟩) fun rec => ⟨fun q => absurd (show ((2 : Nat) : Int) < ((imM x).length : Int) from q) (by omega), fun _ => ref07_SizesOf_ok (by omega) ?_⟩
  rw [imM_szs]
  have hz : ∀ k : Nat, k < (szM x).length → 0 ≤ ix (szM x) (k : Int) ∧ ix (szM x) (k : Int) ≤ 4096 := fun k hk => by have := sizesE_ix hs hk; omega
  have hall : ∀ w ∈ ([] ++ F) ++ G, fitW (szM x) w = 0 := fun w hw => by
    rw [List.nil_append] at hw
    rcases List.mem_append.1 hw with h | h
    · exact hFf w h
    · exact hGf w h
  refine ref43_Clean_ok (by show 2 ≤ 100000; omega) hz ⟨iL (by rw [List.nil_append]; omega) (by omega), iL (by rw [List.nil_append, List.length_append]; omega) (by omega), ?_⟩
  refine ref43_Mark_ok (by rw [List.length_map]; show 2 ≤ 100000; omega) (fun b hb => by have := (hC.toBmsOk.words b hb).2; omega) (by rw [List.nil_append, List.length_append]; omega) (fun w hw => by
    obtain ⟨v, e1, e2, _⟩ := fitW_vol (hall w hw)
    rw [e1]; exact iX (by omega) (by rw [List.length_map]; omega)) ?_
  have eM : markL ((szM x).map newB) (([] ++ F) ++ G) = markL (markL ((szM x).map newB) F) G := by
    unfold markL; rw [List.nil_append, List.foldl_append]
  rw [eM]
  have m1 : Marked (szM x) (markL ((szM x).map newB) F) fun v i => False ∨ ∃ w ∈ F, covT w v i := marked_list hC hFf
  generalize hCe : (szM x).map newB = C at *
  -- the writes ahead
  refine LoopW.upT F.length (fun k => ((0 : Int), (k : Int), szM x, (trk2 (szM x) (markL C (F.take k)) (markL C (F.take k)) 5).Peers)) rfl (fun k rec hk hr => ?_) fun rec => ?_
  · have ht := trk2_ok hs (hmF k) (hmF k) (show (0 : Int) ≤ 5 by omega) (by omega)
    have hw := hFf _ (ix_mem (xs := F) (i := (k : Int)) (iX (by omega) (by omega)))
    have hd := hFd _ (ix_mem (xs := F) (i := (k : Int)) (iX (by omega) (by omega)))
    refine ⟨fun _ => ⟨fun _ => ⟨iX (by omega) (by omega), (trk2 (szM x) (markL C (F.take (k + 1))) (markL C (F.take (k + 1))) 5, 0, ()), tracker_Write_ok (small2 ht) (by omega) ?_, iI (by omega) (by omega), hr _ rfl⟩, fun q => absurd (decide_eq_true rfl) q⟩, fun q => absurd (show (k : Int) < (F.length : Int) by omega) q⟩
    show ((writeT (trk2 (szM x) (markL C (F.take k)) (markL C (F.take k)) 5) (ix F (k : Int))).1, (writeT (trk2 (szM x) (markL C (F.take k)) (markL C (F.take k)) 5) (ix F (k : Int))).2, ()) = _
    rw [write2 ht hw, mark_snoc C hk]
  refine ⟨fun q => absurd (show (F.length : Int) < (F.length : Int) from q) (by omega), fun _ => ⟨fun z => absurd z (by simp), fun _ => ?_⟩⟩
  rw [take_all]
  refine reverse_Turn_ok (trk2_ok hs m1.toBmsOk m1.toBmsOk (show (0 : Int) ≤ 5 by omega) (by omega)) rfl rfl m1 (by rw [List.length_replicate]; rfl) (fun v hv => by
    rw [ix_get (by rw [List.length_replicate]; exact hv), List.getElem_replicate]) ?_
  have m2 := turnD_marked hs m1
  show LoopW (Z101 G (markL (markL C F) G) 0 _) (0, 0, szM x, (trk2 (szM x) (markL C F) (turnD (szM x) (markL C F)) 4).Peers)
  generalize turnD (szM x) (markL C F) = E at m2 ⊢
  generalize markL C F = D at m1 m2 ⊢
  have hmD : ∀ k : Nat, BmsOk (szM x) (markL D (G.take k)) := fun k => markL_ok m1.toBmsOk fun w hw => hGf w (List.mem_of_mem_take hw)
  have hmE : ∀ k : Nat, BmsOk (szM x) (markL E (G.take k)) := fun k => markL_ok m2.toBmsOk fun w hw => hGf w (List.mem_of_mem_take hw)
  refine LoopW.upT G.length (fun k => ((0 : Int), (k : Int), szM x, (trk2 (szM x) (markL D (G.take k)) (markL E (G.take k)) 4).Peers)) rfl (fun k rec hk hr => ?_) fun rec => ?_
  · have ht := trk2_ok hs (hmD k) (hmE k) (show (0 : Int) ≤ 4 by omega) (by omega)
    have hw := hGf _ (ix_mem (xs := G) (i := (k : Int)) (iX (by omega) (by omega)))
    have hd := hGd _ (ix_mem (xs := G) (i := (k : Int)) (iX (by omega) (by omega)))
    refine ⟨fun _ => ⟨fun _ => ⟨iX (by omega) (by omega), (trk2 (szM x) (markL D (G.take (k + 1))) (markL E (G.take (k + 1))) 4, 0, ()), tracker_Write_ok (small2 ht) (by omega) ?_, iI (by omega) (by omega), hr _ rfl⟩, fun q => absurd (decide_eq_true rfl) q⟩, fun q => absurd (show (k : Int) < (G.length : Int) by omega) q⟩
    show ((writeT (trk2 (szM x) (markL D (G.take k)) (markL E (G.take k)) 4) (ix G (k : Int))).1, (writeT (trk2 (szM x) (markL D (G.take k)) (markL E (G.take k)) 4) (ix G (k : Int))).2, ()) = _
    rw [write2 ht hw, mark_snoc D hk, mark_snoc E hk]
  refine ⟨fun q => absurd (show (G.length : Int) < (G.length : Int) from q) (by omega), fun _ => ⟨fun z => absurd z (by simp), fun _ => ?_⟩⟩
  rw [take_all]
  have m3 := marked_list m1 hGf
  have m4 := marked_list m2 hGf
  have ht := trk2_ok hs m3.toBmsOk m4.toBmsOk (show (0 : Int) ≤ 4 by omega) (by omega)
  refine tracker_Dirty_ok (small2 ht) ?_
  have e3 : dirtyT ⟨szM x, (trk2 (szM x) (markL D G) (markL E G) 4).Peers⟩ 3 = (markL E G, 4, 0) := (dirty2 ht).1
  have e1 : dirtyT ⟨szM x, (trk2 (szM x) (markL D G) (markL E G) 4).Peers⟩ 1 = (markL D G, 5, 0) := (dirty2 ht).2
  rw [e3]
  refine tracker_Dirty_ok (small2 ht) ?_
  rw [e1]
  have l8 := sizesE_len hs
  have d1 := m3.len
  have d2 := m4.len
  refine ⟨fun q => absurd rfl q, fun _ => ⟨fun q => absurd rfl q, fun _ => ⟨fun q => absurd rfl q, fun _ => ⟨fun q => absurd rfl q, fun _ => ⟨fun q => absurd rfl q, fun _ => ⟨fun q => absurd rfl q, fun _ => ?_⟩⟩⟩⟩⟩⟩
  refine ref02_SameAll_refl (by show (markL D G).length ≤ _; omega) (fun b hb => by have := (m3.toBmsOk.words b hb).2; omega) ⟨fun q => absurd rfl q, fun _ => ⟨fun q => absurd (show ((markL E G).length : Int) = ((markL D G).length : Int) by omega) q, fun _ => ?_⟩⟩
  refine cmp_loop hs m3 ⟨m4.toBmsOk, fun v i hv hi => (m4.bit v i hv hi).trans ?_⟩ rfl
  constructor
  · rintro ((q | q) | q)
    · exact .inl (.inl q)
    · exact .inr q
    · exact .inl (.inr q)
  · rintro ((q | q) | q)
    · exact .inl (.inl q)
    · exact .inr q
    · exact .inl (.inr q)
end Go.Proofs.YtefiiimkacemiaaGreatDoor
namespace Go.Proofs.YtefiiimkacemiaaGreatDoor
open Go.RowKit Go.ChangeShapes Go.WideShapes Go.ChangeAt
set_option maxRecDepth 100000 in
theorem reverseMarks_lifted (os : Os) (started : os.Started) (H : Type) (enc : TypeId × Value → H) :
    ReturnsInHanded {} Tryz.checked os 3 .any (fun w args => (Rows.reverseMarksSpec.pre enc Tryz.prog Tryz.f3 [] false w args ∧ laidMetH Tryz.prog [("math/bits.deBruijn64tab", Rows.laid_math_bits_deBruijn64tab)] w) ∧ sizedMet enc Tryz.prog Tryz.f3 (OpenSpec.ofChange Rows.reverseMarksSpec) false w args)
      (Rows.reverseMarksSpec.post enc Tryz.prog Tryz.f3 false true false false) := by
  refine returnsInHanded_of_change_and (C := Tryz.checked) (X := fun w _ => laidMetH Tryz.prog [("math/bits.deBruijn64tab", Rows.laid_math_bits_deBruijn64tab)] w) (fun _ _ _ hh h => h.of_heap hh) Tryz.own started (by kernel_rfl) Tryz.func3
    (ChangeSpec.witness_shaped (enc := enc) (C := Tryz.checked) (os := os) (X := fun w _ => laidMetH Tryz.prog [("math/bits.deBruijn64tab", Rows.laid_math_bits_deBruijn64tab)] w) false (World.doorLaid Tryz.prog 14 os) #[.int .u8 0, .slice none 0 0, .slice none 0 0] 8 rfl (World.shaped_of_RefB (by kernel_rfl) (by kernel_rfl)) (by kernel_rfl) (by kernel_rfl) (by kernel_rfl) (Tryz.doorMet os _)) ?_
  intro W base args ds gs before hval0 hW _ _ hL _
  have hval : ∀ (j : Nat) t v, Tryz.f3.params[j]? = some t → args[j]? = some v → Value.okWide Tryz.prog W .any base t v := hval0
  have hW' := hW
  obtain ⟨p, q, hA0, hV, hpq, _, _⟩ := hW
  have hA : DataW.TrodAll enc Tryz.prog W 0 (fun _ => true) true Tryz.f3.params.toList args.toList ds p := hA0
  rw [Tryz.params3] at hA hval
  obtain ⟨v0, v1, v2, d0, d1, d2, p0, p1, p2, rfl, rfl, rfl, h0, h1, h2⟩ := trodAll_three hA
  obtain ⟨rfl, rfl⟩ := trodVars_none hV
  have hT := tabHolds hL
  obtain ⟨x0, rfl⟩ := open_u8D Tryz.underlying5 (hval 0 5 v0 rfl rfl) h0
  obtain ⟨Az1, nz1, cz1, sz1, x1, rfl, hz1, hg1⟩ := open_slD Tryz.underlying22 rd22 (hval 1 22 v1 rfl rfl) h1
  obtain ⟨Az2, nz2, cz2, sz2, x2, rfl, hz2, hg2⟩ := open_slD Tryz.underlying22 rd22 (hval 2 22 v2 rfl rfl) h2
  refine Calls.mono ((RetP.toV (y := true) (F := fun z => .bool z) (RetP.mono (ok3 (x0, x1, x2, ()) (fun y => y.1 = true) (reverseMarks_law x0 x1 x2 hg1 hg2) (HW W) [u8 x0, .slice Az1 nz1 cz1, .slice Az2 nz2 cz2] hT ⟨_, [u8 x0], _, rfl, by rw [pkw5], (show Dt.rd (α := BitVec 8) (HW W) _ _ from rfl), ⟨_, [.slice Az1 nz1 cz1], _, rfl, by rw [pkw22], (show Dt.rd (α := List api_Write) (HW W) _ _ from ⟨Az1, nz1, cz1, sz1, rfl, hz1⟩), ⟨_, [.slice Az2 nz2 cz2], _, rfl, by rw [pkw22], (show Dt.rd (α := List api_Write) (HW W) _ _ from ⟨Az2, nz2, cz2, sz2, rfl, hz2⟩), rfl⟩⟩⟩) fun _ _ _ _ ⟨y, hy, hr⟩ => lawRes y hy hr)) W fun b o e => e) ?_
  rintro e W' ⟨v, _, rfl, _, _, _, hb, rfl⟩
  exact ⟨_, rfl, post_law Tryz.laidOut Tryz.underlying4 rfl (by kernel_rfl) hW' rfl rfl hb⟩
theorem reverseMarks_holds : Rows.ReverseMarksSaid :=
  OpenClaim.holds_of_wide 3 Tryz.f3 rfl rfl rfl rfl rfl rfl rfl ⟨rfl, rfl, rfl, rfl, rfl⟩ rfl rfl rfl rfl rfl (by kernel_rfl) Tryz.func3 (by kernel_rfl)
    (of_decide_eq_true (by kernel_rfl)) (by unfold Func.isWrapper; first | (rw [if_pos (by decide +kernel)]; kernel_rfl) | (rw [if_neg (by decide +kernel)]; exact ⟨rfl, rfl⟩))
    (fun os started H enc _ => reverseMarks_lifted os started H enc)
theorem reverseMarks_card : Rows.ReverseMarksCardSaid :=
  Claim7.holds_tied_plain_at .later [] [.data] true (true, "df8dd28e4f344204d069d781e9e7c4c2e29e9402a64fdf9846f8c69dbdd42979") false
    reverseMarks_holds (fun _ h => by cases h) (by kernel_rfl) (fun _ h => by cases h) reverseMarks_row_tie rfl ⟨rfl, rfl⟩ (by kernel_rfl) rfl
    (fun f fn hf hfn => by
      obtain rfl : f = 3 := Option.some.inj ((show Tryz.prog.funcNamed "standby/standbylaw47.ReverseMarks" = some 3 by kernel_rfl).symm.trans hf) |>.symm
      obtain rfl : fn = Tryz.f3 := (Option.some.inj (Tryz.func3.symm.trans hfn)).symm
      exact ⟨by kernel_rfl, fun j t ht => by
        rw [Tryz.params3] at ht
        have hm : t ∈ [5, 22] := by
          have := Array.mem_of_getElem? ht
          simpa using this
        have hall : ([5, 22].all fun u => !Tryz.prog.wantsStandIn u) = true := by kernel_rfl
        exact (show Tryz.prog.wantsStandIn t = false by simpa using List.all_eq_true.1 hall t hm)⟩)
    (by kernel_rfl)
end Go.Proofs.YtefiiimkacemiaaGreatDoor
