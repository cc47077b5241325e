/- Proved: the tied card of the statement ConsistencyDecides: for every argument that can be read the law returns true and leaves its arguments as they were. Conditions: the row's own alone. -/
import Derived.Lib.TrailingZeros
import Derived.Test.YtpmjodnmnffmhaaGreatDoorM6
namespace Go.Proofs.YtpmjodnmnffmhaaGreatDoor
open Go.RowKit
theorem allN_succ {p : Nat → Bool} {k : Nat} : allN p (k + 1) = (allN p k && p k) := by
  unfold allN
  rw [List.range_succ, List.all_append, List.all_cons, List.all_nil, Bool.and_true]
theorem great_relate {h : api_History} {l : List Int} {Φ : List Int × Int → Prop} (hh : SmallH h) (hz : histE h = 0) (he : LoopW (Z36 h l (issW h) (ackW h) Φ) (0, [])) :
    LoopW (Z37 h l Φ) (0, List.replicate h.Writes.length (h.Events.length : Int), List.replicate h.Writes.length (h.Events.length : Int)) := by
  have hev := hh.ev
  refine LoopW.upT h.Events.length (fun k => ((k : Int), relL h.Events 0 h.Writes.length h.Events.length k, relL h.Events 1 h.Writes.length h.Events.length k)) (by rw [relL_zero, relL_zero]; rfl) (fun k rec hk hr => ⟨fun _ => ⟨iX (by omega) (by omega), fun q => ?_, fun q => ?_⟩, fun r => by omega⟩) fun rec => ⟨fun r => by omega, fun _ => ⟨fun r => absurd rfl r, fun _ => he⟩⟩
  · obtain ⟨w, e1, e2, e3, e4⟩ := (ev_put hz (N := (h.Events.length : Int)) hk).1 q
    refine ⟨iX (by rw [e1]; omega) (by rw [e1, relL_len]; omega), iI (by omega) (by omega), hr _ ?_⟩
    rw [e1, e3, e4]; rfl
  · obtain ⟨w, e1, e2, e3, e4⟩ := (ev_put hz (N := (h.Events.length : Int)) hk).2 q
    refine ⟨iX (by rw [e1]; omega) (by rw [e1, relL_len]; omega), iI (by omega) (by omega), hr _ ?_⟩
    rw [e1, e3, e4]; rfl
def goodB (h : api_History) (ms : List Bool) (b : Nat) (k : Nat) : Bool := allN (fun a => ix ms (a : Int) || !befC h a b) k
def trimL (h : api_History) (ms o : List Bool) (b k : Nat) : List Bool := put o (b : Int) (ix o (b : Int) && goodB h ms b k)
theorem trimL_len {h : api_History} {ms o : List Bool} {b k : Nat} : (trimL h ms o b k).length = o.length := put_len _ _ _
theorem great_L5 {h : api_History} {ms o : List Bool} {b : Nat} {rec4 : (List (Int × Unit) × List Bool) → Prop} {r : List (Int × Unit)} {Φ : List Int × Int → Prop} (hw : h.Writes.length ≤ 4096) (hm : ms.length = h.Writes.length) (ho : o.length = h.Writes.length) (hb : b < h.Writes.length) (hr : rec4 (r, trimL h ms o b h.Writes.length)) :
    LoopW (Z34 h (issW h) (ackW h) [ms] rec4 ((b : Int), ()) r Φ) (0, o) := by
  have xb : ∀ q : List Bool, q.length = o.length → inX (b : Int) q.length := fun q e => iX (by omega) (by rw [e, ho]; omega)
  refine LoopW.upT h.Writes.length (fun k => ((k : Int), trimL h ms o b k)) (by
    show _ = ((0 : Int), put o (b : Int) (ix o (b : Int) && true))
    rw [Bool.and_true, put_ix (xb o rfl)]) (fun k rec hk hrec => ?_) fun rec => ⟨fun q => by omega, fun _ => hr⟩
  have hx : ix (trimL h ms o b k) (b : Int) = (ix o (b : Int) && goodB h ms b k) := ix_put_self _ (xb o rfl)
  have hi := xb _ (trimL_len (h := h) (ms := ms) (o := o) (b := b) (k := k))
  have st : ∀ c, (ix o (b : Int) && goodB h ms b (k + 1)) = c → put (trimL h ms o b k) (b : Int) c = trimL h ms o b (k + 1) := fun c e => by unfold trimL; rw [put_put, e]
  have gs : goodB h ms b (k + 1) = (goodB h ms b k && (ix ms (k : Int) || !befC h k b)) := allN_succ
  refine ⟨fun _ => ⟨hi, fun q => ⟨iX (by omega) (by show (0 : Int) < ((1 : Nat) : Int); omega), iX (by omega) (by show (k : Int) < (ms.length : Int); omega), fun q2 => ⟨hi, iI (by omega) (by omega), hrec _ ?_⟩, fun q2 => ⟨_, cut_before_ok hk hb rfl, hi, iI (by omega) (by omega), hrec _ ?_⟩⟩, fun q => ⟨hi, iI (by omega) (by omega), hrec _ ?_⟩⟩, fun q => by omega⟩
  · have q2 : ix ms (k : Int) = true := q2
    rw [hx] at q
    rw [st true (by rw [gs, q2, Bool.true_or, Bool.and_true]; exact q)]; rfl
  · have q2 : ix ms (k : Int) = false := Bool.eq_false_iff.2 q2
    rw [hx, Bool.and_eq_true] at q
    rw [st _ (show _ = decide (¬ (befC h k b = true)) by rw [gs, q2, q.1, q.2, Bool.false_or, Bool.true_and, Bool.true_and]; cases befC h k b <;> rfl)]; rfl
  · rw [hx] at q
    have q : (ix o (b : Int) && goodB h ms b k) = false := Bool.eq_false_iff.2 q
    rw [st false (by rw [gs, ← Bool.and_assoc, q, Bool.false_and])]; rfl
def trimsL (h : api_History) (ms : List Bool) (o : List Bool) : List (Int × Unit) → List Bool
  | [] => o
  | p :: l => trimsL h ms (trimL h ms o p.1.toNat h.Writes.length) l
theorem trimsL_len {h : api_History} {ms : List Bool} : ∀ {l : List (Int × Unit)} {o : List Bool}, (trimsL h ms o l).length = o.length
  | [], _ => rfl
  | _ :: l, _ => (trimsL_len (l := l)).trans trimL_len
theorem great_L4 {h : api_History} {ms : List Bool} {Φ : List Int × Int → Prop} (hw : h.Writes.length ≤ 4096) (hm : ms.length = h.Writes.length) : ∀ {l : List (Int × Unit)} {o : List Bool}, o.length = h.Writes.length → (∀ p ∈ l, 0 ≤ p.1 ∧ p.1 < (h.Writes.length : Int)) → Φ ((memL (trimsL h ms o l) 0).map Prod.fst, 0) → LoopW (Z35 h (issW h) (ackW h) [ms] Φ) (l, o) := by
  intro l o ho hl hΦ
  refine LoopW.of_inv (fun s => s.2.length = h.Writes.length ∧ (∀ p ∈ s.1, 0 ≤ p.1 ∧ p.1 < (h.Writes.length : Int)) ∧ Φ ((memL (trimsL h ms s.2 s.1) 0).map Prod.fst, 0)) (fun s => s.1.length) ?_ ⟨ho, hl, hΦ⟩
  rintro ⟨l, o⟩ rec ⟨ho, hl, hΦ⟩ hrec
  cases l with
  | nil => exact marks_list_ok (by show o.length ≤ 1000000; have : o.length = h.Writes.length := ho; omega) hΦ
  | cons p l =>
    obtain ⟨b, u⟩ := p
    have hb := hl (b, u) List.mem_cons_self
    have e : ((b.toNat : Nat) : Int) = b := Int.toNat_of_nonneg hb.1
    have hq := great_L5 (Φ := Φ) (rec4 := rec) (r := l) (b := b.toNat) hw hm ho (by have : b < (h.Writes.length : Int) := hb.2; omega) (hrec _ ⟨trimL_len.trans ho, fun p hp => hl p (List.mem_cons_of_mem _ hp), hΦ⟩ (by show l.length < l.length + 1; omega))
    rw [e] at hq
    exact hq
theorem ix_trimsL {h : api_History} {ms : List Bool} {w : Nat} (hw : w < h.Writes.length) : ∀ {ps : List (Int × Unit)} {o : List Bool}, o.length = h.Writes.length → (∀ p ∈ ps, 0 ≤ p.1 ∧ p.1 < (h.Writes.length : Int)) → ix (trimsL h ms o ps) (w : Int) = (ix o (w : Int) && ps.all fun p => !decide (p.1.toNat = w) || goodB h ms w h.Writes.length)
  | [], o, _, _ => by show ix o _ = _; simp
  | p :: ps, o, ho, hp => by
    have hb := hp p List.mem_cons_self
    have := ix_trimsL (ms := ms) hw (ps := ps) (o := trimL h ms o p.1.toNat h.Writes.length) (trimL_len.trans ho) fun q hq => hp q (List.mem_cons_of_mem _ hq)
    show ix (trimsL h ms (trimL h ms o p.1.toNat h.Writes.length) ps) _ = _
    rw [this, List.all_cons, ← Bool.and_assoc]
    congr 1
    unfold trimL
    rw [ix_put _ _ (by omega)]
    by_cases q : w = p.1.toNat
    · rw [if_pos q, decide_eq_true q.symm, ← q]; rfl
    · rw [if_neg q, decide_eq_false (fun t => q t.symm), Bool.not_false, Bool.true_or, Bool.and_true]
theorem great_sel {h : api_History} {l : List Int} : (memL (trimsL h (markL h.Writes.length l) (markL h.Writes.length l) (memL (markL h.Writes.length l) 0)) 0).map Prod.fst = greatC h l := by
  rw [memL_sel, trimsL_len, markL_len]
  refine selL_congr fun w hw => ?_
  rw [ix_trimsL hw markL_len fun p hp => (mem_members.1 hp).2, ix_markL hw]
  unfold topC
  have eg : goodB h (markL h.Writes.length l) w h.Writes.length = allN (fun a => decide ((a : Int) ∈ l) || !befC h a w) h.Writes.length := allN_congr fun a ha => by rw [ix_markL ha]
  rw [eg]
  by_cases q : (w : Int) ∈ l
  · rw [decide_eq_true q, Bool.true_and, Bool.true_and, Bool.eq_iff_iff, List.all_eq_true]
    constructor
    · intro t
      have := t ((w : Int), ()) (mem_members.2 ⟨q, by show (0 : Int) ≤ (w : Int); omega, by show (w : Int) < (h.Writes.length : Int); omega⟩)
      rw [show (decide ((((w : Int), ()) : Int × Unit).1.toNat = w)) = true from decide_eq_true (Int.toNat_natCast w)] at this
      exact this
    · intro t p _
      rw [t, Bool.or_true]
  · rw [decide_eq_false q, Bool.false_and, Bool.false_and]
theorem cut_Greatest_ok {h : api_History} {l : List Int} {Φ : List Int × Int → Prop} (hh : SmallH h) (hl : l.length ≤ 1000000) (hΦ : Φ (greatR h l)) : Z38 h l Φ := by
  unfold greatR at hΦ
  refine history_Check_ok hh ⟨fun q => ⟨fun _ => ⟨fun _ => by rw [if_pos q] at hΦ; exact hΦ, fun r => absurd q r⟩, fun r => absurd q r⟩, fun q => ?_⟩
  rw [if_neg q] at hΦ
  have hz : histE h = 0 := Classical.not_not.1 q
  have hw := hist_wr hz
  refine ⟨_, slices_Repeat_int_ok (by omega) rfl, _, slices_Repeat_int_ok (by omega) rfl, great_relate hh hz ⟨2, ?_⟩⟩
  refine ⟨fun _ => ⟨iX (by omega) (by show (0 : Int) < 1; omega), cut_relation_mark_ok (r := Ptr.mk (cut_relation.mk (h.Writes.length : Int) (h.Events.length : Int) (issW h) (ackW h))) rfl (by omega) hl (fun t => ⟨fun u => absurd rfl u, fun _ => ⟨⟨(by show 1 * 24 ≤ _; omega), (by show 1 ≤ maxLen; unfold maxLen; omega)⟩, iI (by omega) (by omega), ?_⟩⟩) fun t => ⟨fun _ => ⟨fun _ => by rw [if_pos (show isSetB l (h.Writes.length : Int) = false from t)] at hΦ; exact hΦ, fun r => absurd (by decide) r⟩, fun u => absurd (fun v => Bool.noConfusion v) u⟩⟩, fun r => absurd (by show (0 : Int) < 1; omega) r⟩
  have t : isSetB l (h.Writes.length : Int) = true := t
  rw [if_neg (by rw [t]; exact fun x => Bool.noConfusion x), ← great_sel] at hΦ
  refine ⟨fun r => absurd r (by show ¬ ((0 : Int) + 1 < 1); omega), fun _ => ⟨fun r => absurd rfl r, fun _ => ⟨iX (by omega) (by show (0 : Int) < 1; omega), ?_⟩⟩⟩
  have hx : ix (([] : List (List Bool)) ++ [markL h.Writes.length l]) 0 = markL h.Writes.length l := rfl
  have tl : inX 0 (([] : List (List Bool)) ++ [markL h.Writes.length l]).length ∧ ∃ l18, cut_marks_members_1_I (ix (([] : List (List Bool)) ++ [markL h.Writes.length l]) 0) l18 ∧ LoopW (Z35 h (issW h) (ackW h) [markL h.Writes.length l] Φ) (l18, markL h.Writes.length l) :=
    ⟨iX (by omega) (by show (0 : Int) < 1; omega), _, marks_members_ok (by rw [hx, markL_len]; omega), great_L4 hw markL_len markL_len (fun p hp => by have := memL_rg hp; rw [hx, markL_len] at this; exact this) hΦ⟩
  refine ⟨fun e => ?_, ⟨⟨by show (markL h.Writes.length l).length * 1 ≤ _; rw [markL_len]; omega, by show (markL h.Writes.length l).length ≤ maxLen; rw [markL_len]; unfold maxLen; omega⟩, tl⟩⟩
  have e : markL h.Writes.length l = [] := e
  obtain ⟨t1, l18, t2, t3⟩ := tl
  have t3' : LoopW (Z35 h (issW h) (ackW h) [markL h.Writes.length l] Φ) (l18, []) := Eq.mp (congrArg (fun z => LoopW (Z35 h (issW h) (ackW h) [markL h.Writes.length l] Φ) (l18, z)) e) t3
  exact ⟨t1, l18, t2, t3'⟩
theorem cut_Greatest_eq {h : api_History} {l : List Int} {r : List Int × Int} {Φ : List Int × Int → Prop} (hh : SmallH h) (hl : l.length ≤ 1000000) (e : greatR h l = r) (hΦ : Φ r) : Z38 h l Φ := cut_Greatest_ok hh hl (by rw [e]; exact hΦ)
theorem alwL_set {h : api_History} {im : List (List Sec)} : isSetB (alwL h im) (h.Writes.length : Int) = true := selL_set (Nat.le_refl _) (Int.le_refl _)
theorem newest_alw {h : api_History} {im : List (List Sec)} {m : List (consistency_content × Int)} {Φ : List Int × Bool × Int → Prop} (hh : SmallH h) (hz : histE h = 0) (hi : imgE im = 0) (hs : szs im = h.Sizes) (hm : AutM h m) (hΦ : Φ (greatC h (alwL h im), true, 0)) : LoopW (Z80 h im m Φ) (0, []) := by
  have hw := hist_wr hz
  have sm := fit_small (im := im) (by rw [show sizesE (szs im) = 0 from hi]; simp)
  have el : im.length = h.Sizes.length := by rw [← hs, szs_len]
  refine LoopW.upT h.Writes.length (fun k => ((k : Int), selL k (alwB h im))) rfl (fun i rec hi2 hr => ⟨fun _ => ⟨iX (by omega) (by omega), ?_⟩, fun r => absurd (show (i : Int) < (h.Writes.length : Int) by omega) r⟩) fun rec => ⟨fun r => absurd r (by omega), fun _ => ?_⟩
  · have fi := hist_fit hz hi2
    have ev : (((wr h i).Volume.toNat : Nat) : Int) = (wr h i).Volume := Int.toNat_of_nonneg fi.1
    have hvl : (wr h i).Volume.toNat < im.length := by omega
    have hrow : ((ix im (wr h i).Volume).length : Int) = ix h.Sizes (wr h i).Volume := by rw [← ev, ← ix_szs hvl, hs]
    have xv : inX (wr h i).Volume im.length := iX (by omega) (by omega)
    have cases : ∀ b, alwB h im i = b → Z78 (i : Int) (selL i (alwB h im)) rec Φ b := fun b e => by
      refine ⟨fun t => ⟨sel_room hi2 hw, iI (by omega) (by omega), hr _ ?_⟩, fun t => ⟨iI (by omega) (by omega), hr _ ?_⟩⟩
      · rw [selL_succ, if_pos (e.trans t)]; rfl
      · rw [selL_succ, if_neg (by rw [e]; exact t), List.append_nil]; rfl
    refine LoopW.allL (Φ := fun b => alwB h im i = b → Z78 (i : Int) (selL i (alwB h im)) rec Φ b) (wr h i).Data.length (fun k => decide ((i : Int) ≤ autC h (wr h i).Volume ((wr h i).Start + (k : Int)) (ix (ix im (wr h i).Volume) ((wr h i).Start + (k : Int))))) (fun e => cases _ e) (fun k rec2 hk _ hf ht => ?_) fun rec2 h0 ha => ⟨fun r => absurd r (by show ¬ (((wr h i).Data.length : Int) < ((wr h i).Data.length : Int)); omega), fun _ => h0 (allN_true.2 ha)⟩
    have bad : decide ((i : Int) ≤ autC h (wr h i).Volume ((wr h i).Start + (k : Int)) (ix (ix im (wr h i).Volume) ((wr h i).Start + (k : Int)))) = false → Z78 (i : Int) (selL i (alwB h im)) rec Φ false := fun t => cases false (allN_false hk t)
    have hd : k < (ix h.Writes (i : Int)).Data.length := hk
    have x5 : inX ((wr h i).Start + (k : Int)) (ix im (wr h i).Volume).length := iX (by omega) (by omega)
    refine ⟨fun _ => ⟨iX (by omega) (by exact_mod_cast hk), iI (by show _ ≤ (wr h i).Start + (k : Int); omega) (by show (wr h i).Start + (k : Int) ≤ _; omega), xv, x5, fun q => ?_, fun q => bad (decide_eq_false fun t => ?_)⟩, fun r => absurd (show (k : Int) < ((ix h.Writes (i : Int)).Data.length : Int) by omega) r⟩
    · have q1 : 0 ≤ autC h (wr h i).Volume ((wr h i).Start + (k : Int)) (ix (ix im (wr h i).Volume) ((wr h i).Start + (k : Int))) := hm.has.1 q
      have q2 := hm.get q1
      refine ⟨fun t => bad (decide_eq_false fun u => t ?_), fun t => ⟨iI (by omega) (by omega), ht (decide_eq_true ?_)⟩⟩
      · rw [← q2] at u; exact u
      · have t := Classical.not_not.1 t
        rw [← q2]; exact t
    · exact q (hm.has.2 (by show 0 ≤ autC h (wr h i).Volume ((wr h i).Start + (k : Int)) (ix (ix im (wr h i).Volume) ((wr h i).Start + (k : Int))); omega))
  · have sl := selL_len (n := h.Writes.length) (p := alwB h im)
    refine cut_Greatest_eq (r := (greatC h (alwL h im), 0)) hh (by omega) ?_ hΦ
    show greatR h (alwL h im) = _
    unfold greatR
    rw [if_neg (fun t => t hz), if_neg (by rw [alwL_set]; simp)]
theorem consistency_Newest_ok {h : api_History} {im : List (List Sec)} {Φ : List Int × Bool × Int → Prop} (hh : SmallH h) (hl : im.length ≤ 100000) (hΦ : Φ (nwsR h im)) : Z93 h im Φ := by
  unfold nwsR at hΦ
  refine newest_jdg hh hl (fun q => by rw [if_pos q] at hΦ; exact hΦ) fun hz hi hs hd m hm => ?_
  have e0 : rgtE h im = 0 := by unfold rgtE; rw [if_neg (fun t => t hz), if_neg (fun t => t hi), if_neg (fun t => t hs), if_neg (by rw [hd]; simp)]
  rw [if_neg (fun t => t e0)] at hΦ
  unfold cflB at hΦ
  refine newest_unk hh hz hi hs hm (fun v k mm _ _ e1 e2 _ => ⟨fun _ => ⟨fun r => absurd rfl r, fun _ => ⟨fun _ => ?_, fun r => absurd rfl r⟩⟩, fun r => absurd rfl r⟩) (fun n v k _ _ e1 e2 _ => ⟨fun r => absurd rfl r, fun _ => ⟨fun _ => ?_, fun r => absurd rfl r⟩⟩) fun n d => ⟨fun r => absurd rfl r, fun _ => ⟨fun r => Bool.noConfusion r, fun _ => newest_alw hh hz hi hs hm ?_⟩⟩
  · rw [if_pos (decide_eq_true (.inl (by omega)))] at hΦ; exact hΦ
  · rw [if_pos (decide_eq_true (.inr (by omega)))] at hΦ; exact hΦ
  · rw [if_neg (by rw [decide_eq_false (by omega)]; simp)] at hΦ; exact hΦ
theorem atN_mono {l : List api_HistoryEvent} {e : api_HistoryEvent} {k : Nat} (h : 0 ≤ atN l k e) : ∀ m, atN l (k + m) e = atN l k e
  | 0 => rfl
  | m + 1 => by
    have ih := atN_mono h m
    rw [show k + (m + 1) = (k + m) + 1 by omega, atN_old (by rw [ih]; exact h), ih]
theorem atN_at {l : List api_HistoryEvent} {e : api_HistoryEvent} {n : Nat} (h : 0 ≤ atN l n e) : ∃ k : Nat, k < n ∧ atN l n e = (k : Int) ∧ ix l (k : Int) = e := by
  rcases idxN_cases (fun k => decide (ix l (k : Int) = e)) n with ⟨h1, _⟩ | ⟨k, hk, h1, h2, _⟩
  · have h1 : atN l n e = -1 := h1
    omega
  · exact ⟨k, hk, h1, of_decide_eq_true h2⟩
theorem ack_issue {h : api_History} (hz : histE h = 0) {a : Int} (q : 0 ≤ atN h.Events h.Events.length ⟨1, a⟩) : 0 ≤ a ∧ a < (h.Writes.length : Int) ∧ atN h.Events h.Events.length ⟨0, a⟩ < atN h.Events h.Events.length ⟨1, a⟩ := by
  obtain ⟨k, hk, e1, e2⟩ := atN_at q
  have hev := hist_ev hz hk
  have nk : ¬ (ix h.Events (k : Int)).Kind = 0 := by rw [e2]; exact fun t => absurd (show (1 : Int) = 0 from t) (by decide)
  obtain ⟨_, h1, h2, _⟩ := evErr_ack hev nk
  rw [e2] at h1 h2
  have h1 : 0 ≤ a := h1
  have h2 : a < (cntI h.Events k : Int) := h2
  have h0 : ∀ j, j < k → evErr h.Events h.Writes.length j = 0 := fun j hj => hist_ev hz (by omega)
  have c := cnt_le h0
  have i1 := (at_issue h0 a).2 ⟨h1, h2⟩
  have i2 := atN_mono i1 (h.Events.length - k)
  rw [show k + (h.Events.length - k) = h.Events.length by omega] at i2
  have i3 := atN_top h.Events k ⟨0, a⟩
  exact ⟨h1, by omega, by rw [i2, e1]; exact i3⟩
theorem befP_trans {h : api_History} (hz : histE h = 0) {a b c : Nat} (h1 : befP h a b = true) (h2 : befP h b c = true) : befP h a c = true := by
  unfold befP at h1 h2 ⊢
  rw [decide_eq_true_iff] at h1 h2 ⊢
  have := (ack_issue hz h2.1).2.2
  omega
def ClosedS (h : api_History) (l : List Int) : Prop := ∀ a b : Nat, a < h.Writes.length → (b : Int) ∈ l → befP h a b = true → (a : Int) ∈ l
theorem lowC_closed {h : api_History} (hz : histE h = 0) {l : List Int} (hl : isSetB l (h.Writes.length : Int) = true) : ClosedS h (selL h.Writes.length (lowC h l)) := by
  intro a b ha hb hab
  have hb := mem_selN.1 hb
  refine mem_selN.2 ⟨ha, ?_⟩
  have h2 := hb.2
  unfold lowC at h2 ⊢
  rw [Bool.or_eq_true, decide_eq_true_iff, List.any_eq_true] at h2 ⊢
  rcases h2 with m | ⟨x, hx, hf⟩
  · exact .inr ⟨(b : Int), m, by rw [Int.toNat_natCast, befC_eq hz ha hb.1]; exact hab⟩
  · have := isSetB_mem hl hx
    rw [befC_eq hz hb.1 (by omega)] at hf
    exact .inr ⟨x, hx, by rw [befC_eq hz ha (by omega)]; exact befP_trans hz hab hf⟩
theorem lowC_in {h : api_History} (hz : histE h = 0) {l c : List Int} (hl : isSetB l (h.Writes.length : Int) = true) (hc : ClosedS h c) (hs : ∀ x ∈ l, x ∈ c) : ∀ x ∈ selL h.Writes.length (lowC h l), x ∈ c := by
  intro x hx
  obtain ⟨a, rfl, ha, h2⟩ := mem_selL.1 hx
  unfold lowC at h2
  rw [Bool.or_eq_true, decide_eq_true_iff, List.any_eq_true] at h2
  rcases h2 with m | ⟨y, hy, hf⟩
  · exact hs _ m
  · have := isSetB_mem hl hy
    have e : ((y.toNat : Nat) : Int) = y := Int.toNat_of_nonneg this.1
    rw [befC_eq hz ha (by omega)] at hf
    exact hc a y.toNat ha (by rw [e]; exact hs y hy) hf
theorem lowC_has {h : api_History} {l : List Int} {a : Nat} (ha : a < h.Writes.length) (m : (a : Int) ∈ l) : (a : Int) ∈ selL h.Writes.length (lowC h l) := mem_selN.2 ⟨ha, by unfold lowC; rw [decide_eq_true m]; rfl⟩
theorem greatC_in {h : api_History} {l : List Int} : ∀ x ∈ greatC h l, x ∈ l := by
  intro x hx
  obtain ⟨b, rfl, _, h2⟩ := mem_selL.1 hx
  unfold topC at h2
  rw [Bool.and_eq_true, decide_eq_true_iff] at h2
  exact h2.1
theorem greatC_mem {h : api_History} {l : List Int} {b : Nat} : (b : Int) ∈ greatC h l ↔ b < h.Writes.length ∧ (b : Int) ∈ l ∧ ∀ a, a < h.Writes.length → befC h a b = true → (a : Int) ∈ l := by
  unfold greatC
  rw [mem_selN]
  unfold topC
  rw [Bool.and_eq_true, decide_eq_true_iff, allN_true]
  refine and_congr_right fun _ => and_congr_right fun _ => ⟨fun t a ha hab => ?_, fun t a ha => ?_⟩
  · have := t a ha
    rw [hab, Bool.not_true, Bool.or_false, decide_eq_true_iff] at this; exact this
  · cases e : befC h a b with
    | false => rw [Bool.not_false, Bool.or_true]
    | true => rw [decide_eq_true (t a ha e)]; rfl
theorem greatC_closed {h : api_History} (hz : histE h = 0) {l : List Int} : ClosedS h (greatC h l) := by
  intro a b ha hb hab
  obtain ⟨hb1, hb2, hb3⟩ := greatC_mem.1 hb
  refine greatC_mem.2 ⟨ha, hb3 a ha (by rw [befC_eq hz ha hb1]; exact hab), fun a' ha' haa => hb3 a' ha' ?_⟩
  rw [befC_eq hz ha' ha] at haa
  rw [befC_eq hz ha' hb1]
  exact befP_trans hz haa hab
theorem greatC_over {h : api_History} (hz : histE h = 0) {l c : List Int} (hb : isSetB c (h.Writes.length : Int) = true) (hc : ClosedS h c) (hs : ∀ x ∈ c, x ∈ l) : ∀ x ∈ c, x ∈ greatC h l := by
  intro x hx
  have m := isSetB_mem hb hx
  have e : ((x.toNat : Nat) : Int) = x := Int.toNat_of_nonneg m.1
  rw [← e]
  refine greatC_mem.2 ⟨by omega, by rw [e]; exact hs x hx, fun a ha hab => hs _ ?_⟩
  rw [befC_eq hz ha (by omega)] at hab
  exact hc a x.toNat ha (by rw [e]; exact hx) hab
theorem greatC_set {h : api_History} {l : List Int} : isSetB (greatC h l) (h.Writes.length : Int) = true := selL_set (Nat.le_refl _) (Int.le_refl _)
theorem last_or_none (p : Int → Prop) : ∀ {l : List Int}, l.Pairwise (· < ·) → (∀ b ∈ l, ¬ p b) ∨ ∃ s a t, l = s ++ a :: t ∧ p a ∧ ∀ b ∈ t, ¬ p b
  | [], _ => .inl fun b hb => absurd hb List.not_mem_nil
  | x :: l, hp => by
    rcases last_or_none p (List.pairwise_cons.1 hp).2 with h | ⟨s, a, t, e, ha, ht⟩
    · by_cases q : p x
      · exact .inr ⟨[], x, l, rfl, q, h⟩
      · refine .inl fun b hb => ?_
        rcases List.mem_cons.1 hb with r | r
        · rw [r]; exact q
        · exact h b r
    · exact .inr ⟨x :: s, a, t, by rw [e]; rfl, ha, ht⟩
theorem setWr_append (h : api_History) (s t : List Int) : setWr h (s ++ t) = setWr h s ++ setWr h t := by unfold setWr; rw [List.map_append]
theorem appL_append (im : List (List Sec)) (s t : List api_Write) : appL im (s ++ t) = appL (appL im s) t := by unfold appL; rw [List.foldl_append]
theorem sec_last {h : api_History} (hz : histE h = 0) {s t : List Int} {a : Int} (hb : isSetB (s ++ a :: t) (h.Writes.length : Int) = true) {v i : Nat} (ha : covW (ix h.Writes a) v i) (ht : ∀ b ∈ t, ¬ covW (ix h.Writes b) v i) : sec (imgH h (s ++ a :: t)) v i = ix (ix h.Writes a).Data ((i : Int) - (ix h.Writes a).Start) := by
  have hs : ¬ sizesE h.Sizes ≠ 0 := by rw [(histE_zero hz).1]; simp
  have e0 := szs_zeroI (histE_zero hz).1
  have hf := setWr_fit hz hb
  rw [setWr_append] at hf
  have f1 : ∀ w ∈ setWr h s, fitW h.Sizes w = 0 := fun w hw => hf w (List.mem_append_left _ hw)
  have f2 : fitW h.Sizes (ix h.Writes a) = 0 := hf _ (List.mem_append_right _ (List.mem_cons_self ..))
  have f3 : ∀ w ∈ setWr h t, fitW h.Sizes w = 0 := fun w hw => hf w (List.mem_append_right _ (List.mem_cons_of_mem _ hw))
  have ez : szs (appL (zeroI h.Sizes) (setWr h s)) = h.Sizes := by rw [szs_appL (by rw [e0]; exact hs) (by rw [e0]; exact f1), e0]
  obtain ⟨v0, s0, hw⟩ := fitW_of (by rw [ez]; exact hs) (show fitW (szs (appL (zeroI h.Sizes) (setWr h s))) (ix h.Writes a) = 0 by rw [ez]; exact f2)
  have ez2 := szs_apply1 hw
  rw [ez] at ez2
  unfold imgH
  rw [setWr_append, appL_append]
  show sec (appL (apply1 (appL (zeroI h.Sizes) (setWr h s)) (ix h.Writes a)) (setWr h t)) v i = _
  rw [sec_none (by rw [ez2]; exact hs) (by rw [ez2]; exact f3) (fun w hw2 => by
    obtain ⟨b, hb2, rfl⟩ := List.mem_map.1 hw2
    exact ht b hb2), sec_apply1 hw, if_pos ha]
theorem sec_zero {h : api_History} {v i : Nat} (hv : v < h.Sizes.length) (hi : (i : Int) < ix h.Sizes (v : Int)) : sec (zeroI h.Sizes) v i = sec0 := by
  unfold sec
  rw [ix_zeroI hv, ix_get (by rw [List.length_replicate]; omega), List.getElem_replicate]
theorem sec_nowr {h : api_History} (hz : histE h = 0) {l : List Int} (hb : isSetB l (h.Writes.length : Int) = true) {v i : Nat} (hv : v < h.Sizes.length) (hi : (i : Int) < ix h.Sizes (v : Int)) (hn : ∀ b ∈ l, ¬ covW (ix h.Writes b) v i) : sec (imgH h l) v i = sec0 := by
  have hs : ¬ sizesE h.Sizes ≠ 0 := by rw [(histE_zero hz).1]; simp
  have e0 := szs_zeroI (histE_zero hz).1
  unfold imgH
  rw [sec_none (by rw [e0]; exact hs) (by rw [e0]; exact setWr_fit hz hb) (fun w hw2 => by
    obtain ⟨b, hb2, rfl⟩ := List.mem_map.1 hw2
    exact hn b hb2), sec_zero hv hi]
theorem sec_img {h : api_History} (hz : histE h = 0) (hd : distB h = true) {l : List Int} (hb : isSetB l (h.Writes.length : Int) = true) {v i : Nat} (hv : v < h.Sizes.length) (hi : (i : Int) < ix h.Sizes (v : Int)) :
    (sec (imgH h l) v i = sec0 ∧ ∀ b : Nat, (b : Int) ∈ l → ¬ covW (wr h b) v i) ∨
    ∃ a : Nat, (a : Int) ∈ l ∧ a < h.Writes.length ∧ covW (wr h a) v i ∧ (∀ b : Nat, (b : Int) ∈ l → a < b → ¬ covW (wr h b) v i) ∧ sec (imgH h l) v i = ix (wr h a).Data ((i : Int) - (wr h a).Start) ∧ sec (imgH h l) v i ≠ sec0 ∧ autC h (v : Int) (i : Int) (sec (imgH h l) v i) = (a : Int) := by
  rcases last_or_none (fun b => covW (ix h.Writes b) v i) (set_pair hb) with q | ⟨s, a, t, e, ha, ht⟩
  · exact .inl ⟨sec_nowr hz hb hv hi q, fun b hb2 => q _ hb2⟩
  · have ma : a ∈ l := by rw [e]; exact List.mem_append_right _ (List.mem_cons_self ..)
    have m := isSetB_mem hb ma
    have ea : ((a.toNat : Nat) : Int) = a := Int.toNat_of_nonneg m.1
    have hx : sec (imgH h l) v i = ix (wr h a.toNat).Data ((i : Int) - (wr h a.toNat).Start) := by
      unfold wr
      rw [e, sec_last hz (by rw [← e]; exact hb) ha ht, ea]
    have hc : covW (wr h a.toNat) v i := by unfold wr; rw [ea]; exact ha
    have hh : hasC (wr h a.toNat) (v : Int) (i : Int) (sec (imgH h l) v i) = true := hasC_iff.2 ⟨hc, hx.symm⟩
    refine .inr ⟨a.toNat, by rw [ea]; exact ma, by omega, hc, fun b hb2 hlt hcb => ?_, hx, hasC_nz hd (by omega) hh, autC_of hd (by omega) hh⟩
    have hp := set_pair hb
    rw [e] at hp hb2
    have hp2 := List.pairwise_append.1 hp
    have hp3 := List.pairwise_cons.1 hp2.2.1
    rcases List.mem_append.1 hb2 with r | r
    · have := hp2.2.2 _ r a (List.mem_cons_self ..); omega
    · rcases List.mem_cons.1 r with r | r
      · omega
      · exact ht _ r hcb
theorem imgE_imgH {h : api_History} (hz : histE h = 0) {l : List Int} (hb : isSetB l (h.Writes.length : Int) = true) : imgE (imgH h l) = 0 := by
  unfold imgE
  rw [szs_imgH hz hb, (histE_zero hz).1]
theorem img_place {h : api_History} (hz : histE h = 0) {l : List Int} (hb : isSetB l (h.Writes.length : Int) = true) {v k : Nat} (hv : v < (imgH h l).length) (hk : k < szN (imgH h l) v) : v < h.Sizes.length ∧ (k : Int) < ix h.Sizes (v : Int) := by
  have e := szs_imgH hz hb
  have e2 := ix_szs hv
  rw [e] at e2
  refine ⟨by rw [← e, szs_len]; exact hv, ?_⟩
  unfold szN at hk
  omega
theorem rec_unk {h : api_History} (hz : histE h = 0) (hd : distB h = true) {c : List Int} (hb : isSetB c (h.Writes.length : Int) = true) : unkV h (imgH h c) = -1 := by
  refine fst_none fun v hv k hk => ?_
  have p := img_place hz hb hv hk
  unfold unkB
  rcases sec_img hz hd hb p.1 p.2 with ⟨e, _⟩ | ⟨a, _, _, _, _, _, _, e⟩
  · rw [decide_eq_false (fun t => t e), Bool.false_and]
  · rw [e, decide_eq_false (show ¬ (a : Int) < 0 by omega), Bool.and_false]
theorem rec_need {h : api_History} (hz : histE h = 0) (hd : distB h = true) {c : List Int} (hb : isSetB c (h.Writes.length : Int) = true) : ∀ x ∈ needL h (imgH h c), x ∈ c := by
  intro x hx
  obtain ⟨w, rfl, _, hn⟩ := mem_selL.1 hx
  obtain ⟨v, k, hv, hk, h1, h2⟩ := needB_iff.1 hn
  have p := img_place hz hb hv hk
  rcases sec_img hz hd hb p.1 p.2 with ⟨e, _⟩ | ⟨a, ma, _, _, _, _, _, e⟩
  · exact absurd e h1
  · rw [e] at h2
    rw [← h2]; exact ma
theorem rec_low {h : api_History} (hz : histE h = 0) (hd : distB h = true) {c : List Int} (hb : isSetB c (h.Writes.length : Int) = true) (hc : ClosedS h c) : ∀ x ∈ lowH h (imgH h c), x ∈ c := by
  rw [lowH_sel]
  exact lowC_in hz needL_set hc (rec_need hz hd hb)
theorem rec_same {h : api_History} (hz : histE h = 0) (hd : distB h = true) {c d : List Int} (hb : isSetB c (h.Writes.length : Int) = true) (hbd : isSetB d (h.Writes.length : Int) = true)
    (h0 : ∀ v k : Nat, v < (imgH h c).length → k < szN (imgH h c) v → (∀ b : Nat, (b : Int) ∈ c → ¬ covW (wr h b) v k) → sec (imgH h c) v k = sec0 → ∀ b : Nat, (b : Int) ∈ d → ¬ covW (wr h b) v k)
    (h1 : ∀ v k a : Nat, v < (imgH h c).length → k < szN (imgH h c) v → (a : Int) ∈ c → autC h (v : Int) (k : Int) (sec (imgH h c) v k) = (a : Int) → sec (imgH h c) v k ≠ sec0 → (∀ b : Nat, (b : Int) ∈ c → a < b → ¬ covW (wr h b) v k) → (a : Int) ∈ d ∧ ∀ b : Nat, (b : Int) ∈ d → a < b → ¬ covW (wr h b) v k) : imgH h d = imgH h c := by
  have e1 := szs_imgH hz hb
  have e2 := szs_imgH hz hbd
  have el : (imgH h d).length = (imgH h c).length := by rw [← szs_len, ← szs_len, e1, e2]
  refine im_ext (e2.trans e1.symm) fun v k hv hk => ?_
  have hv' : v < (imgH h c).length := by omega
  have hk' : k < szN (imgH h c) v := by rw [← szN_of (e2.trans e1.symm) hv']; exact hk
  have p := img_place hz hb hv' hk'
  rcases sec_img hz hd hb p.1 p.2 with ⟨e, q⟩ | ⟨a, ma, ha, ca, q, e, nz, au⟩
  · rcases sec_img hz hd hbd p.1 p.2 with ⟨e3, _⟩ | ⟨a, ma, _, ca, _⟩
    · rw [e, e3]
    · exact absurd ca (h0 v k hv' hk' q e a ma)
  · obtain ⟨md, qd⟩ := h1 v k a hv' hk' ma au nz q
    rcases sec_img hz hd hbd p.1 p.2 with ⟨_, q3⟩ | ⟨a', ma', _, ca', q', e', _, _⟩
    · exact absurd ca (q3 a md)
    · have : a' = a := by
        rcases Nat.lt_trichotomy a' a with t | t | t
        · exact absurd ca (q' a md t)
        · exact t
        · exact absurd ca' (qd a' ma' t)
      subst this
      rw [e, e']
theorem rec_xim {h : api_History} (hz : histE h = 0) (hd : distB h = true) {c : List Int} (hb : isSetB c (h.Writes.length : Int) = true) (hc : ClosedS h c) : imgH h (lowH h (imgH h c)) = imgH h c := by
  refine rec_same hz hd hb lowH_set (fun v k _ _ q _ b mb => q b (rec_low hz hd hb hc _ mb)) fun v k a hv hk ma au nz q => ⟨?_, fun b mb => q b (rec_low hz hd hb hc _ mb)⟩
  have ha := isSetB_mem hb ma
  rw [lowH_sel]
  exact lowC_has (by omega) (mem_selN.2 ⟨by omega, needB_iff.2 ⟨v, k, hv, hk, nz, au⟩⟩)
theorem rec_dif {h : api_History} (hz : histE h = 0) (hd : distB h = true) {c : List Int} (hb : isSetB c (h.Writes.length : Int) = true) (hc : ClosedS h c) : difV h (imgH h c) = -1 := by
  refine fst_none fun v hv k hk => decide_eq_false ?_
  unfold ximH
  rw [rec_xim hz hd hb hc]
  exact fun t => t rfl
theorem rec_cfl {h : api_History} (hz : histE h = 0) (hd : distB h = true) {c : List Int} (hb : isSetB c (h.Writes.length : Int) = true) (hc : ClosedS h c) : cflB h (imgH h c) = false ∧ cflW h (imgH h c) = noW := by
  unfold cflB cflW
  rw [rec_unk hz hd hb, rec_dif hz hd hb hc, if_neg (by omega), if_neg (by omega)]
  exact ⟨decide_eq_false (by omega), rfl⟩
theorem cov_at {h : api_History} (hz : histE h = 0) {i k : Nat} (hi : i < h.Writes.length) (hk : k < (wr h i).Data.length) : ∃ v s : Nat, (wr h i).Volume = (v : Int) ∧ (wr h i).Start + (k : Int) = (s : Int) ∧ v < h.Sizes.length ∧ (s : Int) < ix h.Sizes (v : Int) ∧ covW (wr h i) v s := by
  have f := hist_fit hz hi
  have e1 : (((wr h i).Volume.toNat : Nat) : Int) = (wr h i).Volume := Int.toNat_of_nonneg f.1
  have e2 : ((((wr h i).Start + (k : Int)).toNat : Nat) : Int) = (wr h i).Start + (k : Int) := Int.toNat_of_nonneg (by omega)
  refine ⟨(wr h i).Volume.toNat, ((wr h i).Start + (k : Int)).toNat, e1.symm, e2.symm, by omega, by rw [e1, e2]; omega, e1.symm, by rw [e2]; omega, by rw [e2]; omega⟩
theorem alwB_iff {h : api_History} (hz : histE h = 0) {im : List (List Sec)} {i : Nat} (hi : i < h.Writes.length) : alwB h im i = true ↔ ∀ v s : Nat, covW (wr h i) v s → (i : Int) ≤ autC h (v : Int) (s : Int) (sec im v s) := by
  unfold alwB
  rw [allN_true]
  constructor
  · rintro t v s ⟨c1, c2, c3⟩
    have e : ((((s : Int) - (wr h i).Start).toNat : Nat) : Int) = (s : Int) - (wr h i).Start := Int.toNat_of_nonneg (by omega)
    have := of_decide_eq_true (t ((s : Int) - (wr h i).Start).toNat (by omega))
    rw [e, c1, show (wr h i).Start + ((s : Int) - (wr h i).Start) = (s : Int) by omega] at this
    exact this
  · intro t k hk
    obtain ⟨v, s, e1, e2, _, _, c⟩ := cov_at hz hi hk
    refine decide_eq_true ?_
    rw [e1, e2]
    exact t v s c
theorem rec_alw {h : api_History} (hz : histE h = 0) (hd : distB h = true) {c : List Int} (hb : isSetB c (h.Writes.length : Int) = true) : ∀ x ∈ c, x ∈ alwL h (imgH h c) := by
  intro x hx
  have m := isSetB_mem hb hx
  have e : ((x.toNat : Nat) : Int) = x := Int.toNat_of_nonneg m.1
  have hi : x.toNat < h.Writes.length := by omega
  rw [← e]
  refine mem_selN.2 ⟨hi, (alwB_iff hz hi).2 fun v s cv => ?_⟩
  have f := hist_fit hz hi
  obtain ⟨c1, c2, c3⟩ := cv
  rcases sec_img hz hd hb (v := v) (i := s) (by omega) (by rw [← c1]; omega) with ⟨_, q⟩ | ⟨a, ma, _, ca, q, _, _, au⟩
  · exact absurd ⟨c1, c2, c3⟩ (q x.toNat (by rw [e]; exact hx))
  · rw [au]
    rcases Nat.lt_or_ge a x.toNat with t | t
    · exact absurd ⟨c1, c2, c3⟩ (q x.toNat (by rw [e]; exact hx) t)
    · omega
theorem rec_new {h : api_History} (hz : histE h = 0) (hd : distB h = true) {c : List Int} (hb : isSetB c (h.Writes.length : Int) = true) (hc : ClosedS h c) : imgH h (greatC h (alwL h (imgH h c))) = imgH h c := by
  have low : ∀ v s b : Nat, (b : Int) ∈ greatC h (alwL h (imgH h c)) → covW (wr h b) v s → (b : Int) ≤ autC h (v : Int) (s : Int) (sec (imgH h c) v s) := fun v s b mb cv => by
    have m := mem_selN.1 (greatC_in _ mb)
    exact (alwB_iff hz m.1).1 m.2 v s cv
  refine rec_same hz hd hb greatC_set (fun v k _ _ _ e b mb cv => ?_) fun v k a _ _ ma au _ _ => ⟨greatC_over hz hb hc (rec_alw hz hd hb) _ ma, fun b mb hab cv => ?_⟩
  · have := low v k b mb cv
    rw [e, autC_zero hd] at this
    omega
  · have := low v k b mb cv
    rw [au] at this
    omega
def relP (h : api_History) : Ptr cut_relation := Ptr.mk (cut_relation.mk (h.Writes.length : Int) (h.Events.length : Int) (issW h) (ackW h))
def StL (l : List (List Int)) : Prop := l.Pairwise fun a b => cmpL a b < 0
theorem ltL_irr (a : List Int) : ¬ cmpL a a < 0 := by rw [cmpL_self]; omega
theorem ltL_trans {a b c : List Int} (h : cmpL a b < 0) (k : cmpL b c < 0) : cmpL a c < 0 := by
  have h1 := cmpL_trans a b c (by omega) (by omega)
  by_cases h2 : cmpL a c = 0
  · have := cmpL_eq a c h2
    subst this
    have := cmpL_swap a b; omega
  · omega
theorem StL.nodup {l : List (List Int)} (h : StL l) : l.Nodup := h.imp fun {a b} hab e => by subst e; exact ltL_irr a hab
theorem StL.ext : ∀ {a b : List (List Int)}, StL a → StL b → (∀ x, x ∈ a ↔ x ∈ b) → a = b
  | [], [], _, _, _ => rfl
  | [], y :: _, _, _, h => absurd ((h y).2 List.mem_cons_self) (by simp)
  | x :: _, [], _, _, h => absurd ((h x).1 List.mem_cons_self) (by simp)
  | x :: a, y :: b, ha, hb, h => by
    have h1 := List.pairwise_cons.1 ha
    have h2 := List.pairwise_cons.1 hb
    have e : x = y := by
      rcases List.mem_cons.1 ((h x).1 List.mem_cons_self) with q | q
      · exact q
      · rcases List.mem_cons.1 ((h y).2 List.mem_cons_self) with r | r
        · exact r.symm
        · have := ltL_trans (h1.1 y r) (h2.1 x q)
          exact absurd this (ltL_irr x)
    subst e
    rw [StL.ext h1.2 h2.2 fun z => ?_]
    have hz := h z
    rw [List.mem_cons, List.mem_cons] at hz
    constructor
    · intro m
      rcases hz.1 (.inr m) with q | q
      · subst q; exact absurd (h1.1 z m) (ltL_irr z)
      · exact q
    · intro m
      rcases hz.2 (.inr m) with q | q
      · subst q; exact absurd (h2.1 z m) (ltL_irr z)
      · exact q
def insU (x : List Int) (l : List (List Int)) : List (List Int) := if x ∈ l then l else insL x l
theorem mem_insL {x y : List Int} {l : List (List Int)} : y ∈ insL x l ↔ y = x ∨ y ∈ l := by
  rw [(insL_perm x l).mem_iff, List.mem_cons]
theorem mem_insU {x y : List Int} {l : List (List Int)} : y ∈ insU x l ↔ y = x ∨ y ∈ l := by
  unfold insU
  split
  · rename_i h
    exact ⟨.inr, fun t => t.elim (fun e => e ▸ h) id⟩
  · exact mem_insL
theorem insL_st {x : List Int} : ∀ {l : List (List Int)}, StL l → x ∉ l → StL (insL x l)
  | [], _, _ => by simp [insL, StL]
  | y :: r, h, hx => by
    have h1 := List.pairwise_cons.1 h
    have hxy : x ≠ y := fun e => hx (e ▸ List.mem_cons_self)
    unfold insL
    split
    · rename_i c
      have c2 : cmpL x y < 0 := by
        have : cmpL x y ≠ 0 := fun t => hxy (cmpL_eq _ _ t)
        omega
      refine List.pairwise_cons.2 ⟨fun z hz => ?_, h⟩
      rcases List.mem_cons.1 hz with rfl | hz
      · exact c2
      · exact ltL_trans c2 (h1.1 z hz)
    · rename_i c
      refine List.pairwise_cons.2 ⟨fun z hz => ?_, insL_st h1.2 fun t => hx (List.mem_cons_of_mem _ t)⟩
      rcases mem_insL.1 hz with rfl | hz
      · have := cmpL_swap z y; omega
      · exact h1.1 z hz
theorem insU_st {x : List Int} {l : List (List Int)} (h : StL l) : StL (insU x l) := by
  unfold insU
  split
  · exact h
  · rename_i q; exact insL_st h q
def dedS (l : List (List Int)) : List (List Int) := l.foldl (fun a x => insU x a) []
theorem foldU_mem {y : List Int} : ∀ {l a : List (List Int)}, y ∈ l.foldl (fun a x => insU x a) a ↔ y ∈ a ∨ y ∈ l
  | [], a => by simp
  | x :: l, a => by
    rw [List.foldl_cons, foldU_mem (l := l), mem_insU, List.mem_cons]
    constructor
    · rintro ((h | h) | h)
      · exact .inr (.inl h)
      · exact .inl h
      · exact .inr (.inr h)
    · rintro (h | h | h)
      · exact .inl (.inr h)
      · exact .inl (.inl h)
      · exact .inr h
theorem mem_dedS {y : List Int} {l : List (List Int)} : y ∈ dedS l ↔ y ∈ l := by unfold dedS; rw [foldU_mem]; simp
theorem foldU_st : ∀ {l a : List (List Int)}, StL a → StL (l.foldl (fun a x => insU x a) a)
  | [], _, h => h
  | _ :: l, _, h => foldU_st (l := l) (insU_st h)
theorem dedS_st (l : List (List Int)) : StL (dedS l) := foldU_st List.Pairwise.nil
def dedF (l : List (List Int)) : List (List Int) := l.foldl (fun a x => if x ∈ a then a else a ++ [x]) []
theorem dedF_snoc (l : List (List Int)) (x : List Int) : dedF (l ++ [x]) = if x ∈ dedF l then dedF l else dedF l ++ [x] := by unfold dedF; rw [List.foldl_append]; rfl
theorem foldF_mem {y : List Int} : ∀ {l a : List (List Int)}, y ∈ l.foldl (fun a x => if x ∈ a then a else a ++ [x]) a ↔ y ∈ a ∨ y ∈ l
  | [], a => by simp
  | x :: l, a => by
    rw [List.foldl_cons, foldF_mem (l := l), List.mem_cons]
    by_cases q : x ∈ a
    · rw [if_pos q]
      constructor
      · rintro (h | h)
        · exact .inl h
        · exact .inr (.inr h)
      · rintro (h | h | h)
        · exact .inl h
        · exact .inl (h ▸ q)
        · exact .inr h
    · rw [if_neg q, List.mem_append, List.mem_singleton]
      constructor
      · rintro ((h | h) | h)
        · exact .inl h
        · exact .inr (.inl h)
        · exact .inr (.inr h)
      · rintro (h | h | h)
        · exact .inl (.inl h)
        · exact .inl (.inr h)
        · exact .inr h
theorem mem_dedF {y : List Int} {l : List (List Int)} : y ∈ dedF l ↔ y ∈ l := by unfold dedF; rw [foldF_mem]; simp
theorem foldF_nd : ∀ {l a : List (List Int)}, a.Nodup → (l.foldl (fun a x => if x ∈ a then a else a ++ [x]) a).Nodup
  | [], _, h => h
  | x :: l, a, h => by
    rw [List.foldl_cons]
    refine foldF_nd ?_
    by_cases q : x ∈ a
    · rw [if_pos q]; exact h
    · rw [if_neg q]
      refine List.nodup_append.2 ⟨h, by simp, fun u hu v hv e => q ?_⟩
      rw [List.mem_singleton] at hv
      rw [← hv, ← e]; exact hu
theorem dedF_nd (l : List (List Int)) : (dedF l).Nodup := foldF_nd List.nodup_nil
theorem sortL_st {l : List (List Int)} (h : l.Nodup) : StL (sortL l) := by
  have h1 := sortL_sorted l
  have h2 : (sortL l).Nodup := (sortL_perm l).nodup_iff.2 h
  refine (h1.and h2).imp ?_
  rintro a b ⟨h3, h4⟩
  have : cmpL a b ≠ 0 := fun t => h4 (cmpL_eq _ _ t)
  unfold leL at h3; omega
theorem sort_dedF (l : List (List Int)) : sortL (dedF l) = dedS l := (sortL_st (dedF_nd l)).ext (dedS_st l) fun x => by
  rw [(sortL_perm _).mem_iff, mem_dedF, mem_dedS]
theorem dedF_len (l : List (List Int)) : (dedF l).length = (dedS l).length := by rw [← sort_dedF, (sortL_perm _).length_eq]
theorem dedF_le (l m : List (List Int)) : (dedF l).length ≤ (dedF (l ++ m)).length := by
  unfold dedF
  rw [List.foldl_append]
  generalize List.foldl (fun a x => if x ∈ a then a else a ++ [x]) [] l = a
  induction m generalizing a with
  | nil => exact Nat.le_refl _
  | cons x m ih =>
    rw [List.foldl_cons]
    refine Nat.le_trans ?_ (ih _)
    by_cases q : x ∈ a
    · rw [if_pos q]; exact Nat.le_refl _
    · rw [if_neg q]; simp
def canB (h : api_History) (c : List Int) (n : Nat) : Bool := !decide ((n : Int) ∈ c) && allN (fun a => !befP h a n || decide ((a : Int) ∈ c)) h.Writes.length
def extK (h : api_History) (c : List Int) (k : Nat) : List (List Int) := ((List.range k).filter (canB h c)).map fun n : Nat => insI (n : Int) c
def candL (h : api_History) (L : List (List Int)) : List (List Int) := L.flatMap fun c => extK h c h.Writes.length
theorem extK_succ {h : api_History} {c : List Int} {k : Nat} : extK h c (k + 1) = extK h c k ++ (if canB h c k = true then [insI (k : Int) c] else []) := by
  unfold extK
  rw [filter_range_snoc, List.map_append]
  by_cases q : canB h c k = true
  · rw [if_pos q, if_pos q]; rfl
  · rw [if_neg q, if_neg q]; rfl
theorem candL_take {h : api_History} {L : List (List Int)} {i : Nat} (hi : i < L.length) : candL h (L.take (i + 1)) = candL h (L.take i) ++ extK h (ix L (i : Int)) h.Writes.length := by
  unfold candL
  rw [take_ix hi, List.flatMap_append]; simp
def nextL (h : api_History) (L : List (List Int)) : List (List Int) := dedS (candL h L)
def allK (h : api_History) (most : Int) : Nat → List (List Int) → List (List Int) → List (List Int) × Int
  | 0, _, _ => ([], 6)
  | f + 1, out, L => if L = [] then (out, 0) else if most < ((out ++ L).length : Int) then ([], 6) else allK h most f (out ++ L) (nextL h L)
def allR (h : api_History) (most : Int) : List (List Int) × Int := if histE h ≠ 0 then ([], histE h) else if most < 0 ∨ 4096 < most then ([], 2) else allK h most (h.Writes.length + 2) [] [[]]
def LevelOk (h : api_History) (k : Nat) (L : List (List Int)) : Prop := ∀ c ∈ L, isSetB c (h.Writes.length : Int) = true ∧ c.length = k
theorem set_of_pair {n : Int} : ∀ {l : List Int}, l.Pairwise (· < ·) → (∀ x ∈ l, 0 ≤ x ∧ x < n) → isSetB l n = true := by
  intro l hp hr
  refine allN_true.2 fun k hk => decide_eq_true ?_
  have m := hr _ (ix_mem (xs := l) (i := (k : Int)) ⟨by omega, by omega⟩)
  refine ⟨m.1, m.2, fun h0 => ?_⟩
  have := List.pairwise_iff_getElem.1 hp (k - 1) k (by omega) hk (by omega)
  rw [← ix_get (xs := l) (k := k - 1) (by omega), ← ix_get hk] at this
  rw [show ((k - 1 : Nat) : Int) = (k : Int) - 1 by omega] at this
  exact this
theorem mem_insI {x y : Int} {l : List Int} : y ∈ insI x l ↔ y = x ∨ y ∈ l := by rw [(insI_perm x l).mem_iff, List.mem_cons]
theorem insI_lt {x : Int} : ∀ {l : List Int}, l.Pairwise (· < ·) → x ∉ l → (insI x l).Pairwise (· < ·)
  | [], _, _ => by simp [insI]
  | y :: r, h, hx => by
    have h1 := List.pairwise_cons.1 h
    have hxy : x ≠ y := fun e => hx (e ▸ List.mem_cons_self)
    unfold insI
    split
    · rename_i c
      refine List.pairwise_cons.2 ⟨fun z hz => ?_, h⟩
      rcases List.mem_cons.1 hz with rfl | hz
      · omega
      · have := h1.1 z hz; omega
    · rename_i c
      refine List.pairwise_cons.2 ⟨fun z hz => ?_, insI_lt h1.2 fun t => hx (List.mem_cons_of_mem _ t)⟩
      rcases mem_insI.1 hz with rfl | hz
      · omega
      · exact h1.1 z hz
theorem insI_set {n : Nat} {N : Int} {c : List Int} (hn : (n : Int) < N) (hc : isSetB c N = true) (hx : (n : Int) ∉ c) : isSetB (insI (n : Int) c) N = true :=
  set_of_pair (insI_lt (set_pair hc) hx) fun x hx => (mem_insI.1 hx).elim (fun e => by omega) fun m => isSetB_mem hc m
theorem mem_extK {h : api_History} {c d : List Int} {k : Nat} : d ∈ extK h c k ↔ ∃ n : Nat, n < k ∧ canB h c n = true ∧ d = insI (n : Int) c := by
  unfold extK
  rw [List.mem_map]
  constructor
  · rintro ⟨n, hn, rfl⟩
    have := List.mem_filter.1 hn
    exact ⟨n, List.mem_range.1 this.1, this.2, rfl⟩
  · rintro ⟨n, h1, h2, rfl⟩
    exact ⟨n, List.mem_filter.2 ⟨List.mem_range.2 h1, h2⟩, rfl⟩
theorem canB_not {h : api_History} {c : List Int} {n : Nat} (q : canB h c n = true) : (n : Int) ∉ c := by
  unfold canB at q
  rw [Bool.and_eq_true, Bool.not_eq_true', decide_eq_false_iff_not] at q
  exact q.1
theorem ext_ok {h : api_History} {c d : List Int} {k : Nat} (hc : isSetB c (h.Writes.length : Int) = true ∧ c.length = k) (hd : d ∈ extK h c h.Writes.length) : isSetB d (h.Writes.length : Int) = true ∧ d.length = k + 1 := by
  obtain ⟨n, h1, h2, rfl⟩ := mem_extK.1 hd
  exact ⟨insI_set (by omega) hc.1 (canB_not h2), by rw [(insI_perm _ _).length_eq, List.length_cons, hc.2]⟩
theorem cand_ok {h : api_History} {k : Nat} {L : List (List Int)} (hL : LevelOk h k L) : LevelOk h (k + 1) (candL h L) := by
  intro d hd
  obtain ⟨c, hc, hd⟩ := List.mem_flatMap.1 hd
  exact ext_ok (hL c hc) hd
theorem next_ok {h : api_History} {k : Nat} {L : List (List Int)} (hL : LevelOk h k L) : LevelOk h (k + 1) (nextL h L) := fun d hd => cand_ok hL d (mem_dedS.1 hd)
theorem level_le {h : api_History} {k : Nat} {L : List (List Int)} (hL : LevelOk h k L) (hn : L ≠ []) : k ≤ h.Writes.length := by
  cases L with
  | nil => exact absurd rfl hn
  | cons c L =>
    have := hL c List.mem_cons_self
    have := isSetB_le this.1 (by omega)
    omega
theorem set_eq {n : Nat} {a b : List Int} (ha : isSetB a (n : Int) = true) (hb : isSetB b (n : Int) = true) (h : ∀ w : Nat, w < n → ((w : Int) ∈ a ↔ (w : Int) ∈ b)) : a = b := by
  refine set_ext (n := 0) (set_pair ha) (set_pair hb) fun x => ?_
  constructor
  · intro hx
    have m := isSetB_mem ha hx
    have e : ((x.toNat : Nat) : Int) = x := Int.toNat_of_nonneg m.1
    rw [← e] at hx ⊢
    exact (h x.toNat (by omega)).1 hx
  · intro hx
    have m := isSetB_mem hb hx
    have e : ((x.toNat : Nat) : Int) = x := Int.toNat_of_nonneg m.1
    rw [← e] at hx ⊢
    exact (h x.toNat (by omega)).2 hx
theorem befP_iss {h : api_History} (hz : histE h = 0) {a b : Nat} (q : befP h a b = true) : atN h.Events h.Events.length ⟨0, (a : Int)⟩ < atN h.Events h.Events.length ⟨0, (b : Int)⟩ := by
  unfold befP at q
  rw [decide_eq_true_iff] at q
  have := (ack_issue hz q.1).2.2
  omega
theorem cntI_mono (l : List api_HistoryEvent) : ∀ {i : Nat} (m : Nat), cntI l i ≤ cntI l (i + m)
  | _, 0 => Nat.le_refl _
  | i, m + 1 => by
    have ih := cntI_mono l (i := i) m
    by_cases q : (ix l ((i + m : Nat) : Int)).Kind = 0
    · rw [show i + (m + 1) = (i + m) + 1 by omega, cnt_issue q]; omega
    · rw [show i + (m + 1) = (i + m) + 1 by omega, cnt_ack q]; exact ih
theorem iss_at {h : api_History} (hz : histE h = 0) {a : Nat} (ha : a < h.Writes.length) : ∃ k : Nat, k < h.Events.length ∧ atN h.Events h.Events.length ⟨0, (a : Int)⟩ = (k : Int) ∧ (ix h.Events (k : Int)).Kind = 0 ∧ cntI h.Events k = a := by
  obtain ⟨k, hk, e1, e2⟩ := atN_at (iss_nn hz ha)
  have kd : (ix h.Events (k : Int)).Kind = 0 := by rw [e2]
  have := (evErr_issue (hist_ev hz hk) kd).1
  rw [e2] at this
  have e3 : (a : Int) = (cntI h.Events k : Int) := congrArg api_HistoryEvent.Write this
  exact ⟨k, hk, e1, kd, by omega⟩
theorem iss_mono {h : api_History} (hz : histE h = 0) {a b : Nat} (ha : a < h.Writes.length) (hb : b < h.Writes.length) (q : atN h.Events h.Events.length ⟨0, (a : Int)⟩ < atN h.Events h.Events.length ⟨0, (b : Int)⟩) : a < b := by
  obtain ⟨i, hi, e1, k1, c1⟩ := iss_at hz ha
  obtain ⟨j, hj, e2, k2, c2⟩ := iss_at hz hb
  have m := cntI_mono h.Events (i := i + 1) (j - (i + 1))
  rw [cnt_issue k1, show i + 1 + (j - (i + 1)) = j by omega] at m
  omega
def lev (h : api_History) : Nat → List (List Int)
  | 0 => [[]]
  | k + 1 => nextL h (lev h k)
theorem lev_ok (h : api_History) : ∀ k, LevelOk h k (lev h k)
  | 0 => fun c hc => by rw [List.mem_singleton.1 hc]; exact ⟨rfl, rfl⟩
  | k + 1 => next_ok (lev_ok h k)
theorem lev_st (h : api_History) : ∀ k, StL (lev h k)
  | 0 => List.pairwise_singleton _ _
  | _ + 1 => dedS_st _
theorem canB_iff {h : api_History} {c : List Int} {n : Nat} : canB h c n = true ↔ (n : Int) ∉ c ∧ ∀ a : Nat, a < h.Writes.length → befP h a n = true → (a : Int) ∈ c := by
  unfold canB
  rw [Bool.and_eq_true, Bool.not_eq_true', decide_eq_false_iff_not, allN_true]
  refine and_congr_right fun _ => forall_congr' fun a => forall_congr' fun _ => ?_
  cases befP h a n <;> simp
theorem ins_closed {h : api_History} {c : List Int} {n : Nat} (hc : ClosedS h c) (q : canB h c n = true) : ClosedS h (insI (n : Int) c) := by
  intro a b ha hb hab
  rcases mem_insI.1 hb with e | m
  · have e : b = n := by omega
    subst e
    exact mem_insI.2 (.inr ((canB_iff.1 q).2 a ha hab))
  · exact mem_insI.2 (.inr (hc a b ha m hab))
theorem max_ex : ∀ {l : List Int}, l ≠ [] → ∃ x ∈ l, ∀ y ∈ l, y ≤ x
  | [], h => absurd rfl h
  | [x], _ => ⟨x, List.mem_cons_self, fun y hy => by rw [List.mem_singleton.1 hy]; omega⟩
  | x :: y :: r, _ => by
    obtain ⟨z, hz, h2⟩ := max_ex (l := y :: r) (by simp)
    by_cases c : x ≤ z
    · exact ⟨z, List.mem_cons_of_mem _ hz, fun u hu => (List.mem_cons.1 hu).elim (fun e => e ▸ c) (h2 u)⟩
    · exact ⟨x, List.mem_cons_self, fun u hu => (List.mem_cons.1 hu).elim (fun e => by omega) fun m => by have := h2 u m; omega⟩
theorem bef_lt {h : api_History} (hz : histE h = 0) {a b : Nat} (ha : a < h.Writes.length) (hb : b < h.Writes.length) (hab : befP h a b = true) : a < b := iss_mono hz ha hb (befP_iss hz hab)
theorem lev_mem {h : api_History} (hz : histE h = 0) : ∀ {k : Nat} {c : List Int}, c ∈ lev h k ↔ isSetB c (h.Writes.length : Int) = true ∧ c.length = k ∧ ClosedS h c
  | 0, c => by
    constructor
    · intro hc
      rw [List.mem_singleton.1 hc]
      exact ⟨rfl, rfl, fun _ _ _ hb => absurd hb (by simp)⟩
    · rintro ⟨_, h2, _⟩
      rw [List.eq_nil_of_length_eq_zero h2]; exact List.mem_singleton.2 rfl
  | k + 1, c => by
    constructor
    · intro hc
      have h1 := lev_ok h (k + 1) c hc
      obtain ⟨d, hd, he⟩ := List.mem_flatMap.1 (mem_dedS.1 hc)
      obtain ⟨n, _, h3, rfl⟩ := mem_extK.1 he
      exact ⟨h1.1, h1.2, ins_closed ((lev_mem hz).1 hd).2.2 h3⟩
    · rintro ⟨h1, h2, h3⟩
      obtain ⟨x, hx, hmax⟩ := max_ex (l := c) (fun e => by rw [e] at h2; cases h2)
      have m := isSetB_mem h1 hx
      obtain ⟨n, rfl⟩ : ∃ n : Nat, x = (n : Int) := ⟨x.toNat, by omega⟩
      have hn : n < h.Writes.length := by omega
      have hd1 : isSetB (c.filter fun x => !decide (x = (n : Int))) (h.Writes.length : Int) = true := by
        rw [set_filter h1]; exact selL_set (Nat.le_refl _) (Int.le_refl _)
      have md : ∀ y, y ∈ (c.filter fun x => !decide (x = (n : Int))) ↔ y ∈ c ∧ y ≠ (n : Int) := fun y => by
        rw [List.mem_filter, Bool.not_eq_true', decide_eq_false_iff_not]
      have hd3 : ClosedS h (c.filter fun x => !decide (x = (n : Int))) := fun a b ha hb hab => by
        have hb := (md _).1 hb
        have bm := isSetB_mem h1 hb.1
        have := bef_lt hz ha (b := b) (by omega) hab
        have := hmax _ hb.1
        exact (md _).2 ⟨h3 a b ha hb.1 hab, by omega⟩
      have hc : canB h (c.filter fun x => !decide (x = (n : Int))) n = true := canB_iff.2 ⟨fun t => ((md _).1 t).2 rfl, fun a ha hab => (md _).2 ⟨h3 a n ha hx hab, by have := bef_lt hz ha hn hab; omega⟩⟩
      have e : insI (n : Int) (c.filter fun x => !decide (x = (n : Int))) = c := set_ext (n := (h.Writes.length : Int)) (insI_lt (set_pair hd1) fun t => ((md _).1 t).2 rfl) (set_pair h1) fun y => by
        rw [mem_insI, md]
        constructor
        · rintro (q | q)
          · rw [q]; exact hx
          · exact q.1
        · intro q
          by_cases r : y = (n : Int)
          · exact .inl r
          · exact .inr ⟨q, r⟩
      have hl : (c.filter fun x => !decide (x = (n : Int))).length = k := by
        have := (insI_perm (n : Int) (c.filter fun x => !decide (x = (n : Int)))).length_eq
        rw [e, List.length_cons] at this
        omega
      refine mem_dedS.2 (List.mem_flatMap.2 ⟨_, (lev_mem hz).2 ⟨hd1, hl, hd3⟩, mem_extK.2 ⟨n, hn, hc, e.symm⟩⟩)
def levs (h : api_History) (k : Nat) : List (List Int) := (List.range k).flatMap (lev h)
theorem levs_succ {h : api_History} {k : Nat} : levs h (k + 1) = levs h k ++ lev h k := by unfold levs; rw [List.range_succ, List.flatMap_append]; simp
theorem mem_levs {h : api_History} (hz : histE h = 0) {k : Nat} {c : List Int} : c ∈ levs h k ↔ isSetB c (h.Writes.length : Int) = true ∧ c.length < k ∧ ClosedS h c := by
  unfold levs
  rw [List.mem_flatMap]
  constructor
  · rintro ⟨j, hj, hc⟩
    obtain ⟨h1, h2, h3⟩ := (lev_mem hz).1 hc
    exact ⟨h1, by have := List.mem_range.1 hj; omega, h3⟩
  · rintro ⟨h1, h2, h3⟩
    exact ⟨c.length, List.mem_range.2 h2, (lev_mem hz).2 ⟨h1, rfl, h3⟩⟩
theorem levs_ord {h : api_History} : ∀ {k : Nat}, (levs h k).Pairwise fun a b => a.length ≤ b.length ∧ a ≠ b
  | 0 => List.Pairwise.nil
  | k + 1 => by
    rw [levs_succ]
    refine List.pairwise_append.2 ⟨levs_ord, (lev_st h k).nodup.imp_of_mem fun {a b} ha hb e => ⟨by rw [(lev_ok h k a ha).2, (lev_ok h k b hb).2]; exact Nat.le_refl _, e⟩, fun a ha b hb => ?_⟩
    obtain ⟨j, hj, ha⟩ := List.mem_flatMap.1 ha
    have := List.mem_range.1 hj
    have h1 := (lev_ok h j a ha).2
    have h2 := (lev_ok h k b hb).2
    exact ⟨by omega, fun e => by rw [e] at h1; omega⟩
theorem lev_nil {h : api_History} {k : Nat} (e : lev h k = []) : ∀ j, lev h (k + j) = []
  | 0 => e
  | j + 1 => by
    show nextL h (lev h (k + j)) = []
    rw [lev_nil e j]; rfl
theorem levs_nil {h : api_History} {k : Nat} (e : lev h k = []) : ∀ j, levs h (k + j) = levs h k
  | 0 => rfl
  | j + 1 => by
    rw [show k + (j + 1) = (k + j) + 1 by omega, levs_succ, lev_nil e j, List.append_nil, levs_nil e j]
theorem levs_mono {h : api_History} {k : Nat} : ∀ j, (levs h k).length ≤ (levs h (k + j)).length
  | 0 => Nat.le_refl _
  | j + 1 => by
    rw [show k + (j + 1) = (k + j) + 1 by omega, levs_succ, List.length_append]
    have := levs_mono (h := h) (k := k) j
    omega
theorem allK_spec {h : api_History} {most : Int} : ∀ {f k : Nat}, h.Writes.length + 2 ≤ f + k → k ≤ h.Writes.length + 1 → ((levs h k).length : Int) ≤ most → (allK h most f (levs h k) (lev h k) = (levs h (h.Writes.length + 1), 0) ∧ ((levs h (h.Writes.length + 1)).length : Int) ≤ most) ∨ allK h most f (levs h k) (lev h k) = ([], 6) ∧ most < ((levs h (h.Writes.length + 1)).length : Int)
  | 0, k, hk, hk2, _ => by omega
  | f + 1, k, hk, hk2, hm => by
    unfold allK
    by_cases e : lev h k = []
    · rw [if_pos e]
      obtain ⟨j, hj⟩ : ∃ j, h.Writes.length + 1 = k + j := ⟨h.Writes.length + 1 - k, by omega⟩
      rw [hj, levs_nil e j]
      exact .inl ⟨rfl, hm⟩
    · rw [if_neg e]
      have hk3 : k ≤ h.Writes.length := level_le (lev_ok h k) e
      have e2 : levs h k ++ lev h k = levs h (k + 1) := levs_succ.symm
      rw [e2]
      by_cases q : most < ((levs h (k + 1)).length : Int)
      · rw [if_pos q]
        obtain ⟨j, hj⟩ : ∃ j, h.Writes.length + 1 = k + 1 + j := ⟨h.Writes.length - k, by omega⟩
        have := levs_mono (h := h) (k := k + 1) j
        rw [← hj] at this
        exact .inr ⟨rfl, by omega⟩
      · rw [if_neg q]
        exact allK_spec (f := f) (k := k + 1) (by omega) (by omega) (by omega)
theorem allR_spec {h : api_History} {most : Int} (hz : histE h = 0) (h0 : 0 ≤ most) (h1 : most ≤ 4096) : (allR h most = (levs h (h.Writes.length + 1), 0) ∧ ((levs h (h.Writes.length + 1)).length : Int) ≤ most) ∨ allR h most = ([], 6) ∧ most < ((levs h (h.Writes.length + 1)).length : Int) := by
  unfold allR
  rw [if_neg (fun t => t hz), if_neg (by omega)]
  exact allK_spec (f := h.Writes.length + 2) (k := 0) (by omega) (by omega) (by show (0 : Int) ≤ most; exact h0)
theorem sort_ins {n : Int} {c : List Int} (hc : c.Pairwise (· < ·)) (hn : n ∉ c) : sortI (c ++ [n]) = insI n c := by
  have h1 : (sortI (c ++ [n])).Perm (insI n c) := (sortI_perm _).trans ((List.perm_append_comm (l₁ := c) (l₂ := [n])).trans (insI_perm n c).symm)
  have h2 := sortI_sorted (c ++ [n])
  have h3 : (insI n c).Pairwise (· ≤ ·) := (insI_lt hc hn).imp fun {a b} h => by omega
  exact List.Perm.eq_of_pairwise (le := fun a b : Int => a ≤ b) (fun a b _ _ h k => by omega) h2 h3 h1
theorem digS_inj {a b : Int} (ha : 0 ≤ a) (ha2 : a < 100) (hb : 0 ≤ b) (hb2 : b < 100) {x y : List UInt8} (h : digS a ++ x = digS b ++ y) : a = b ∧ x = y := by
  obtain ⟨n, rfl⟩ : ∃ n : Nat, a = (n : Int) := ⟨a.toNat, by omega⟩
  obtain ⟨m, rfl⟩ : ∃ m : Nat, b = (m : Int) := ⟨b.toNat, by omega⟩
  have dig : ∀ k j : Nat, k < 10 → j < 10 → UInt8.ofNat (48 + k) = UInt8.ofNat (48 + j) → k = j := by
    intro k j hk hj e
    have := congrArg UInt8.toNat e
    rw [UInt8.toNat_ofNat', UInt8.toNat_ofNat'] at this
    omega
  have spc : ∀ k : Nat, k < 10 → UInt8.ofNat (48 + k) = 32 → False := by
    intro k hk e
    have := congrArg UInt8.toNat e
    rw [UInt8.toNat_ofNat'] at this
    have e2 : (32 : UInt8).toNat = 32 := rfl
    rw [e2] at this
    omega
  unfold digS at h
  simp only [Int.toNat_natCast] at h
  by_cases p : (n : Int) < 10
  · rw [if_pos p] at h
    by_cases q : (m : Int) < 10
    · rw [if_pos q] at h
      simp only [List.cons_append, List.nil_append, List.cons.injEq, true_and] at h
      exact ⟨by rw [dig n m (by omega) (by omega) h.1], h.2⟩
    · rw [if_neg q] at h
      simp only [List.cons_append, List.nil_append, List.cons.injEq] at h
      exact (spc (m % 10) (by omega) h.2.1.symm).elim
  · rw [if_neg p] at h
    by_cases q : (m : Int) < 10
    · rw [if_pos q] at h
      simp only [List.cons_append, List.nil_append, List.cons.injEq] at h
      exact (spc (n % 10) (by omega) h.2.1).elim
    · rw [if_neg q] at h
      simp only [List.cons_append, List.nil_append, List.cons.injEq, true_and] at h
      have e1 := dig (n / 10) (m / 10) (by omega) (by omega) h.1
      have e2 := dig (n % 10) (m % 10) (by omega) (by omega) h.2.1
      exact ⟨by omega, h.2.2⟩
theorem digs_inj : ∀ {a b : List Int}, (∀ x ∈ a, 0 ≤ x ∧ x < 100) → (∀ x ∈ b, 0 ≤ x ∧ x < 100) → a.flatMap digS = b.flatMap digS → a = b
  | [], [], _, _, _ => rfl
  | [], y :: b, _, _, h => by
    rw [List.flatMap_nil, List.flatMap_cons] at h
    unfold digS at h
    split at h <;> cases h
  | x :: a, [], _, _, h => by
    rw [List.flatMap_nil, List.flatMap_cons] at h
    unfold digS at h
    split at h <;> cases h
  | x :: a, y :: b, ha, hb, h => by
    rw [List.flatMap_cons, List.flatMap_cons] at h
    have h1 := ha x List.mem_cons_self
    have h2 := hb y List.mem_cons_self
    obtain ⟨rfl, h3⟩ := digS_inj h1.1 h1.2 h2.1 h2.2 h
    rw [digs_inj (fun z hz => ha z (List.mem_cons_of_mem _ hz)) (fun z hz => hb z (List.mem_cons_of_mem _ hz)) h3]
theorem textS_inj {a b : List Int} (ha : ∀ x ∈ a, 0 ≤ x ∧ x < 100) (hb : ∀ x ∈ b, 0 ≤ x ∧ x < 100) (h : textS a = textS b) : a = b := by
  refine digs_inj ha hb ?_
  have h1 : (textS a).data = (textS b).data := congrArg ByteArray.data h
  have h2 : (textS a).data.toList = (textS b).data.toList := congrArg Array.toList h1
  exact h2
theorem smallB_of {l : List Int} (hl : l.length ≤ 4096) (h : ∀ x ∈ l, 0 ≤ x ∧ x < 100) : smallB l = true := by
  unfold smallB
  rw [Bool.and_eq_true, List.all_eq_true]
  exact ⟨Nat.ble_eq_true_of_le hl, fun x hx => by rw [Bool.and_eq_true, decide_eq_true_iff, decide_eq_true_iff]; exact h x hx⟩
theorem mfind_putE {κ ν : Type} [DecidableEq κ] (k : κ) (v : ν) (c : κ) : ∀ m : List (κ × ν), mfind (mput m k v) c = if c = k then some v else mfind m c
  | [] => by
    unfold mput mfind mfind
    rfl
  | p :: l => by
    have ih := mfind_putE k v c l
    unfold mput
    by_cases h1 : k = p.1
    · rw [if_pos h1]
      unfold mfind
      by_cases h2 : c = p.1
      · rw [if_pos h2, if_pos (h2.trans h1.symm)]
      · simp only [if_neg h2, if_neg (show ¬ c = k from fun e => h2 (e.trans h1))]
    · rw [if_neg h1]
      conv => lhs; unfold mfind
      by_cases h2 : c = p.1
      · rw [if_pos h2, if_neg (fun e => h1 (e.symm.trans h2))]
        conv => rhs; unfold mfind
        rw [if_pos h2]
      · rw [if_neg h2, ih]
        by_cases h3 : c = k
        · rw [if_pos h3, if_pos h3]
        · rw [if_neg h3, if_neg h3]
          conv => rhs; unfold mfind
          rw [if_neg h2]
theorem mget_putE {κ ν : Type} [DecidableEq κ] (k : κ) (v z : ν) (c : κ) (m : List (κ × ν)) : mget (mput m k v) c z = if c = k then v else mget m c z := by
  unfold mget
  rw [mfind_putE]
  by_cases q : c = k
  · rw [if_pos q, if_pos q]
  · rw [if_neg q, if_neg q]
theorem cut_ready_ok {h : api_History} {c : List Int} {n : Nat} {Φ : Bool → Prop} (hz : histE h = 0) (hw : h.Writes.length ≤ 4096) (hn : n < h.Writes.length) (hΦ : Φ (allN (fun a => !befP h a n || decide ((a : Int) ∈ c)) h.Writes.length)) : Z20 (relP h) (markL h.Writes.length c) (n : Int) Φ := by
  refine LoopW.allL h.Writes.length (fun a => !befP h a n || decide ((a : Int) ∈ c)) hΦ (fun a rec ha _ hf ht => ⟨fun _ => ?_, fun r => absurd (show (a : Int) < (h.Writes.length : Int) by omega) r⟩) fun rec h0 _ => ⟨fun r => absurd r (by show ¬ ((h.Writes.length : Int) < (h.Writes.length : Int)); omega), fun _ => h0⟩
  have hx : ix (markL h.Writes.length c) (a : Int) = decide ((a : Int) ∈ c) := ix_markL ha
  have eb : befC h a n = befP h a n := befC_eq hz ha hn
  refine cut_before_ok ha hn ⟨fun t => ⟨iX (by omega) (by rw [markL_len]; omega), fun q => hf ?_, fun q => ⟨iI (by omega) (by omega), ht ?_⟩⟩, fun t => ⟨iI (by omega) (by omega), ht ?_⟩⟩
  · rw [hx] at q
    show (!befP h a n || decide ((a : Int) ∈ c)) = false
    rw [← eb, t, Bool.eq_false_iff.2 q]; rfl
  · rw [hx] at q
    show (!befP h a n || decide ((a : Int) ∈ c)) = true
    rw [Classical.not_not.1 q, Bool.or_true]
  · show (!befP h a n || decide ((a : Int) ∈ c)) = true
    rw [← eb, Bool.eq_false_iff.2 t]; rfl
def FoundM (h : api_History) (pre : List (List Int)) (m : List (ByteArray × Bool)) : Prop := ∀ c : List Int, isSetB c (h.Writes.length : Int) = true → mget m (textS c) false = decide (c ∈ pre)
theorem set_small {h : api_History} (hw : h.Writes.length ≤ 90) {c : List Int} (hc : isSetB c (h.Writes.length : Int) = true) : ∀ x ∈ c, 0 ≤ x ∧ x < 100 := fun x hx => by have := isSetB_mem hc hx; omega
theorem FoundM.put {h : api_History} (hw : h.Writes.length ≤ 90) {pre : List (List Int)} {m : List (ByteArray × Bool)} (hm : FoundM h pre m) {d : List Int} (hd : isSetB d (h.Writes.length : Int) = true) : FoundM h (pre ++ [d]) (mput m (textS d) true) := fun c hc => by
  rw [mget_putE, hm c hc]
  by_cases q : c = d
  · rw [if_pos (by rw [q]), decide_eq_true (by rw [q]; simp)]
  · rw [if_neg (fun e => q (textS_inj (set_small hw hc) (set_small hw hd) e))]
    by_cases r : c ∈ pre
    · rw [decide_eq_true r, decide_eq_true (List.mem_append_left _ r)]
    · rw [decide_eq_false r, decide_eq_false (fun t => (List.mem_append.1 t).elim r fun s => q (List.mem_singleton.1 s))]
theorem FoundM.old {h : api_History} {pre : List (List Int)} {m : List (ByteArray × Bool)} (hm : FoundM h pre m) {d : List Int} (hd : d ∈ pre) : FoundM h (pre ++ [d]) m := fun c hc => by
  rw [hm c hc]
  by_cases r : c ∈ pre
  · rw [decide_eq_true r, decide_eq_true (List.mem_append_left _ r)]
  · rw [decide_eq_false r, decide_eq_false (fun t => (List.mem_append.1 t).elim r fun s => r (List.mem_singleton.1 s ▸ hd))]
theorem ext_split {h : api_History} {c : List Int} {k : Nat} : ∀ j, ∃ r, extK h c (k + j) = extK h c k ++ r
  | 0 => ⟨[], by simp⟩
  | j + 1 => by
    obtain ⟨r, e⟩ := ext_split (h := h) (c := c) (k := k) j
    exact ⟨r ++ (if canB h c (k + j) = true then [insI ((k + j : Nat) : Int) c] else []), by rw [show k + (j + 1) = (k + j) + 1 by omega, extK_succ, e, List.append_assoc]⟩
def preL (h : api_History) (L : List (List Int)) (i n : Nat) : List (List Int) := candL h (L.take i) ++ extK h (ix L (i : Int)) n
theorem preL_all {h : api_History} {L : List (List Int)} {i : Nat} (hi : i < L.length) : preL h L i h.Writes.length = candL h (L.take (i + 1)) := (candL_take hi).symm
theorem cand_split {h : api_History} {L : List (List Int)} {i : Nat} : ∃ r, candL h L = candL h (L.take i) ++ r := ⟨candL h (L.drop i), by
  unfold candL
  rw [← List.flatMap_append, List.take_append_drop]⟩
theorem preL_split {h : api_History} {L : List (List Int)} {i n : Nat} (hi : i < L.length) (hn : n ≤ h.Writes.length) : ∃ r, candL h L = preL h L i n ++ r := by
  obtain ⟨r, e⟩ := cand_split (h := h) (L := L) (i := i + 1)
  obtain ⟨r2, e2⟩ := ext_split (h := h) (c := ix L (i : Int)) (k := n) (h.Writes.length - n)
  rw [show n + (h.Writes.length - n) = h.Writes.length by omega] at e2
  refine ⟨r2 ++ r, ?_⟩
  rw [e, candL_take hi, e2]
  unfold preL
  rw [List.append_assoc, List.append_assoc, List.append_assoc]
theorem preL_succ {h : api_History} {L : List (List Int)} {i n : Nat} : preL h L i (n + 1) = preL h L i n ++ (if canB h (ix L (i : Int)) n = true then [insI (n : Int) (ix L (i : Int))] else []) := by
  unfold preL
  rw [extK_succ, List.append_assoc]
theorem cut_next_ok {h : api_History} {k : Nat} {L : List (List Int)} {most : Int} {Φ : List (List Int) × Bool → Prop} (hz : histE h = 0) (hw : h.Writes.length ≤ 90) (hL : LevelOk h k L) (hl : L.length ≤ 100000) (h0 : 0 ≤ most) (hm : most ≤ 5000)
    (h1 : ((nextL h L).length : Int) ≤ most → Φ (nextL h L, true)) (h2 : most < ((nextL h L).length : Int) → Φ ([], false)) : Z28 (relP h) L most Φ := by
  have fail : ∀ pre r, candL h L = pre ++ r → most < ((dedF pre).length : Int) → Φ ([], false) := fun pre r e q => h2 (by
    have := dedF_le pre r
    rw [← e, dedF_len (candL h L)] at this
    show most < ((dedS (candL h L)).length : Int)
    omega)
  refine LoopW.of_inv (fun s => ∃ i : Nat, i ≤ L.length ∧ s.1 = (i : Int) ∧ FoundM h (candL h (L.take i)) s.2.1 ∧ s.2.2 = dedF (candL h (L.take i)) ∧ (s.2.2.length : Int) ≤ most) (fun s => L.length - s.1.toNat) ?_ ⟨0, Nat.zero_le _, rfl, fun c _ => rfl, rfl, h0⟩
  rintro ⟨v1, m, out⟩ rec1 ⟨i, hi, hv1, hfm, hout, hlen⟩ hrec1
  have hv1 : v1 = (i : Int) := hv1
  subst hv1
  have hout : out = dedF (candL h (L.take i)) := hout
  have hlen : (out.length : Int) ≤ most := hlen
  have hfm : FoundM h (candL h (L.take i)) m := hfm
  refine ⟨fun q => ?_, fun q => ?_⟩
  · have hil : i < L.length := by omega
    have hc := hL (ix L (i : Int)) (ix_mem ⟨by omega, by omega⟩)
    have hcl : (ix L (i : Int)).length ≤ 90 := by have := isSetB_le hc.1 (by omega); omega
    refine ⟨iX (by omega) (by omega), cut_relation_mark_ok (r := relP h) rfl (by omega) (by omega) (fun _ => ?_) fun t => absurd hc.1 (by rw [t]; simp)⟩
    have key : LoopW (Z26 (relP h) L most (i : Int) rec1 (markL h.Writes.length (ix L (i : Int)), true) Φ) (0, m, out) := by
      refine LoopW.of_inv (fun s => ∃ n : Nat, n ≤ h.Writes.length ∧ s.1 = (n : Int) ∧ FoundM h (preL h L i n) s.2.1 ∧ s.2.2 = dedF (preL h L i n) ∧ (s.2.2.length : Int) ≤ most) (fun s => h.Writes.length - s.1.toNat) ?_ ⟨0, Nat.zero_le _, rfl, by
        have : preL h L i 0 = candL h (L.take i) := by unfold preL extK; simp
        rw [this]; exact hfm, by
        have : preL h L i 0 = candL h (L.take i) := by unfold preL extK; simp
        rw [this]; exact hout, hlen⟩
      rintro ⟨v5, m, out⟩ rec2 ⟨n, hn, hv5, hfm, hout, hlen⟩ hrec2
      have hv5 : v5 = (n : Int) := hv5
      subst hv5
      have hout : out = dedF (preL h L i n) := hout
      have hlen : (out.length : Int) ≤ most := hlen
      have hfm : FoundM h (preL h L i n) m := hfm
      refine ⟨fun q => ?_, fun q => ⟨iI (by omega) (by omega), hrec1 _ ⟨i + 1, hil, rfl, ?_, ?_, hlen⟩ ?_⟩⟩
      · have q : (n : Int) < (h.Writes.length : Int) := q
        have hnl : n < h.Writes.length := by omega
        have hx : ix (markL h.Writes.length (ix L (i : Int))) (n : Int) = decide ((n : Int) ∈ ix L (i : Int)) := ix_markL hnl
        have j3 : ∀ b, b = !canB h (ix L (i : Int)) n → Z25 L most (i : Int) (n : Int) m out rec2 Φ b := by
          intro b hb
          refine ⟨fun t => ⟨iI (by omega) (by omega), hrec2 _ ⟨n + 1, hnl, rfl, ?_, ?_, hlen⟩ ?_⟩, fun t => ?_⟩
          · have e : canB h (ix L (i : Int)) n = false := by rw [t] at hb; simpa using hb.symm
            rw [preL_succ, if_neg (by rw [e]; simp), List.append_nil]; exact hfm
          · have e : canB h (ix L (i : Int)) n = false := by rw [t] at hb; simpa using hb.symm
            rw [preL_succ, if_neg (by rw [e]; simp), List.append_nil]; exact hout
          · show h.Writes.length - ((n : Int) + 1).toNat < h.Writes.length - ((n : Int)).toNat
            omega
          · have e : canB h (ix L (i : Int)) n = true := by
              have : b = false := Bool.eq_false_iff.2 t
              rw [this] at hb; simpa using hb.symm
            have ps : preL h L i (n + 1) = preL h L i n ++ [insI (n : Int) (ix L (i : Int))] := by rw [preL_succ, if_pos e]
            have hno : (n : Int) ∉ ix L (i : Int) := canB_not e
            have hd : isSetB (insI (n : Int) (ix L (i : Int))) (h.Writes.length : Int) = true := insI_set (by omega) hc.1 hno
            have hdl : (insI (n : Int) (ix L (i : Int))).length ≤ 91 := by rw [(insI_perm _ _).length_eq, List.length_cons]; omega
            have sc : sortI (ix L (i : Int) ++ [(n : Int)]) = insI (n : Int) (ix L (i : Int)) := sort_ins (set_pair hc.1) hno
            have lo : lenOk (ix L (i : Int) ++ ([(n : Int)] : List Int)).length 8 := by
              refine iL ?_ (by omega)
              rw [List.length_append, List.length_singleton]; omega
            have j4 : ∀ s : (List (ByteArray × Bool)) × List (List Int), FoundM h (preL h L i (n + 1)) s.1 → s.2 = dedF (preL h L i (n + 1)) → Z24 most (n : Int) rec2 Φ s := by
              rintro ⟨m2, o2⟩ f1 f2
              refine ⟨fun t => ?_, fun t => ⟨iI (by omega) (by omega), hrec2 _ ⟨n + 1, hnl, rfl, f1, f2, ?_⟩ ?_⟩⟩
              · obtain ⟨r, er⟩ := preL_split (h := h) (L := L) (i := i) (n := n + 1) hil hnl
                have f2 : o2 = dedF (preL h L i (n + 1)) := f2
                exact fail _ r er (by rw [← f2]; exact t)
              · show (o2.length : Int) ≤ most
                omega
              · show h.Writes.length - ((n : Int) + 1).toNat < h.Writes.length - ((n : Int)).toNat
                omega
            have fin : Z22 (ix L (i : Int) ++ ([(n : Int)] : List Int)) fun v10 => Join (Z24 most (n : Int) rec2 Φ) fun J4 => cut_text_W v10 fun v13 =>
              (¬ ((mget m v13 false) = true) → lenOk (out ++ ([v10] : List (List Int))).length 24 ∧ J4 ((mput m v13 true), (out ++ ([v10] : List (List Int))))) ∧ (¬ (¬ ((mget m v13 false) = true)) → J4 (m, out)) := by
              refine ⟨by rw [List.length_append, List.length_singleton]; omega, ?_⟩
              rw [sc]
              refine ⟨smallB_of (by omega) (set_small hw hd), fun r => ⟨?_, j4 _ ?_ ?_⟩, fun r => j4 _ ?_ ?_⟩
              · refine iL ?_ (by omega)
                rw [List.length_append, List.length_singleton]; omega
              · rw [ps]; exact hfm.put hw hd
              · rw [hfm _ hd, decide_eq_true_iff] at r
                show out ++ [_] = _
                rw [ps, dedF_snoc, if_neg (fun t => r (mem_dedF.1 t)), ← hout]
              · rw [hfm _ hd, decide_eq_true_iff] at r
                rw [ps]; exact hfm.old (Classical.not_not.1 r)
              · rw [hfm _ hd, decide_eq_true_iff] at r
                show out = _
                rw [ps, dedF_snoc, if_pos (mem_dedF.2 (Classical.not_not.1 r)), ← hout]
            refine ⟨fun e0 => ?_, ⟨by rw [List.nil_append]; exact iL (by omega) (by omega), ?_⟩⟩
            · rw [e0] at lo fin
              exact ⟨lo, fin⟩
            · rw [List.nil_append]
              exact ⟨lo, fin⟩
        show inX (n : Int) (markL h.Writes.length (ix L (i : Int))).length ∧ _
        refine ⟨iX (by omega) (by rw [markL_len]; omega), fun t => j3 true ?_, fun t => cut_ready_ok hz (by omega) hnl (j3 _ ?_)⟩
        · have t : ix (markL h.Writes.length (ix L (i : Int))) (n : Int) = true := t
          rw [hx, decide_eq_true_iff] at t
          unfold canB
          rw [decide_eq_true t]; rfl
        · have t : ¬ ix (markL h.Writes.length (ix L (i : Int))) (n : Int) = true := t
          rw [hx, decide_eq_true_iff] at t
          unfold canB
          rw [decide_eq_false t, Bool.not_false, Bool.true_and]
          cases allN (fun a => !befP h a n || decide ((a : Int) ∈ ix L (i : Int))) h.Writes.length <;> rfl
      · have q : ¬ (n : Int) < (h.Writes.length : Int) := q
        obtain rfl : n = h.Writes.length := by omega
        rw [← preL_all hil]; exact hfm
      · have q : ¬ (n : Int) < (h.Writes.length : Int) := q
        obtain rfl : n = h.Writes.length := by omega
        rw [← preL_all hil]; exact hout
      · show L.length - ((i : Int) + 1).toNat < L.length - ((i : Int)).toNat
        omega
    exact key
  · obtain rfl : i = L.length := by omega
    rw [List.take_length] at hout
    refine ⟨by omega, ?_⟩
    rw [hout, sort_dedF]
    refine h1 ?_
    have e1 := dedF_len (candL h L)
    have e2 : out.length = (dedF (candL h L)).length := congrArg List.length hout
    show ((dedS (candL h L)).length : Int) ≤ most
    omega
theorem all_relate {h : api_History} {most : Int} {Φ : List (List Int) × Int → Prop} (hh : SmallH h) (hz : histE h = 0) (he : Join (cut_All_J4 h most (issW h) (ackW h) Φ) fun J4 => (most < 0 → J4 true) ∧ (¬ (most < 0) → J4 (decide (4096 < most)))) :
    LoopW (cut_All_L3 h most Φ) (0, List.replicate h.Writes.length (h.Events.length : Int), List.replicate h.Writes.length (h.Events.length : Int)) := by
  have hev := hh.ev
  refine LoopW.upT h.Events.length (fun k => ((k : Int), relL h.Events 0 h.Writes.length h.Events.length k, relL h.Events 1 h.Writes.length h.Events.length k)) (by rw [relL_zero, relL_zero]; rfl) (fun k rec hk hr => ⟨fun _ => ⟨iX (by omega) (by omega), fun q => ?_, fun q => ?_⟩, fun r => absurd (show (k : Int) < (h.Events.length : Int) by omega) r⟩) fun rec => ⟨fun r => absurd r (by show ¬ ((h.Events.length : Int) < (h.Events.length : Int)); omega), fun _ => ⟨fun r => absurd rfl r, fun _ => he⟩⟩
  · obtain ⟨w, e1, e2, e3, e4⟩ := (ev_put hz (N := (h.Events.length : Int)) hk).1 q
    refine ⟨iX (by rw [e1]; omega) (by rw [e1, relL_len]; omega), iI (by omega) (by omega), hr _ ?_⟩
    rw [e1, e3, e4]; rfl
  · obtain ⟨w, e1, e2, e3, e4⟩ := (ev_put hz (N := (h.Events.length : Int)) hk).2 q
    refine ⟨iX (by rw [e1]; omega) (by rw [e1, relL_len]; omega), iI (by omega) (by omega), hr _ ?_⟩
    rw [e1, e3, e4]; rfl
theorem allK_over {h : api_History} {most : Int} {f : Nat} {out L : List (List Int)} (hL : L ≠ []) (hm : most < ((out ++ L).length : Int)) : allK h most f out L = ([], 6) := by
  cases f with
  | zero => rfl
  | succ f => unfold allK; rw [if_neg hL, if_pos hm]
theorem all_L5 {h : api_History} {most : Int} {Φ : List (List Int) × Int → Prop} (hz : histE h = 0) (hw : h.Writes.length ≤ 90) (h0 : 0 ≤ most) (hm : most ≤ 4096) : ∀ {f k : Nat} {out L : List (List Int)}, h.Writes.length + 2 ≤ f + 1 + k → LevelOk h k L → L.length ≤ 4096 → (out.length : Int) ≤ most → Φ (allK h most (f + 1) out L) → LoopN (cut_All_L5 h most (issW h) (ackW h) Φ) (f + 1) (out, L)
  | f, k, out, L, hk, hL, hl, ho, hΦ => by
    unfold allK at hΦ
    refine ⟨fun q => ?_, fun q => ?_⟩
    · have hn : L ≠ [] := fun e => by rw [e] at q; simp at q
      have hkl := level_le hL hn
      have la : ((out ++ L).length : Int) = (out.length : Int) + (L.length : Int) := by rw [List.length_append]; omega
      rw [if_neg hn] at hΦ
      refine ⟨iI (by omega) (by omega), fun r => ?_, fun r => ?_⟩
      · rw [if_pos (by omega)] at hΦ; exact hΦ
      · rw [if_neg (by omega)] at hΦ
        obtain ⟨f, rfl⟩ : ∃ g, f = g + 1 := ⟨f - 1, by omega⟩
        refine ⟨iL (by omega) (by omega), iI (by omega) (by omega), cut_next_ok hz hw hL (by omega) (by omega) (by omega) (fun t => ⟨fun u => absurd rfl u, fun _ => ?_⟩) fun t => ⟨fun _ => ?_, fun u => absurd (fun v => Bool.noConfusion v) u⟩⟩
        · have t : ((nextL h L).length : Int) ≤ most - ((out ++ L).length : Int) := t
          exact all_L5 hz hw h0 hm (f := f) (k := k + 1) (by omega) (next_ok hL) (show (nextL h L).length ≤ 4096 by omega) (by omega) hΦ
        · have e : nextL h L ≠ [] := fun e => by rw [e] at t; simp at t; omega
          rw [allK_over e (by rw [List.length_append]; omega)] at hΦ
          exact hΦ
    · have hn : L = [] := List.eq_nil_of_length_eq_zero (by omega)
      rw [if_pos hn] at hΦ
      exact hΦ
theorem cut_All_ok {h : api_History} {most : Int} {Φ : List (List Int) × Int → Prop} (hh : SmallH h) (hw : h.Writes.length ≤ 90) (hΦ : Φ (allR h most)) : cut_All_W h most Φ := by
  unfold allR at hΦ
  refine history_Check_ok hh ⟨fun q => ⟨fun _ => by rw [if_pos q] at hΦ; exact hΦ, fun r => absurd q r⟩, fun q => ?_⟩
  rw [if_neg q] at hΦ
  have hz : histE h = 0 := Classical.not_not.1 q
  refine ⟨_, slices_Repeat_int_ok (by omega) rfl, _, slices_Repeat_int_ok (by omega) rfl, all_relate hh hz ?_⟩
  have j4 : ∀ b, b = decide (most < 0 ∨ 4096 < most) → cut_All_J4 h most (issW h) (ackW h) Φ b := by
    intro b hb
    refine ⟨fun t => ?_, fun t => ?_⟩
    · rw [t] at hb
      rw [if_pos (of_decide_eq_true hb.symm)] at hΦ
      exact hΦ
    · have : b = false := Bool.eq_false_iff.2 t
      rw [this] at hb
      have hb := of_decide_eq_false hb.symm
      rw [if_neg hb] at hΦ
      exact ⟨_, all_L5 hz hw (by omega) (by omega) (f := h.Writes.length + 1) (k := 0) (by omega) (fun c hc => by rw [List.mem_singleton.1 hc]; exact ⟨rfl, rfl⟩) (by simp) (by simp; omega) hΦ⟩
  refine ⟨fun t => j4 true ?_, fun t => j4 _ ?_⟩
  · rw [decide_eq_true (.inl t)]
  · rw [decide_eq_decide]
    exact ⟨fun u => .inr u, fun u => u.resolve_left t⟩
theorem slices_Index_int_ok {l : List Int} {x : Int} {Φ : Int → Prop} (hl : l.length ≤ 1000000) (h1 : x ∈ l → ∀ k : Nat, Φ (k : Int)) (h0 : x ∉ l → Φ (-1)) : Z43 l x Φ := by
  refine LoopW.upI l.length (fun k => (k : Int)) (fun k => ∀ j, j < k → ix l (j : Int) ≠ x) rfl (fun j hj => absurd hj (Nat.not_lt_zero j)) (fun k rec hk hI hr => ⟨fun hlt => ⟨iX (by omega) hlt, fun q => h1 (by rw [q]; exact ix_mem (iX (by omega) hlt)) k, fun q => ⟨iI (by omega) (by omega), hr (fun j hj => ?_) _ rfl⟩⟩, fun r => absurd (show (k : Int) < (l.length : Int) by omega) r⟩) fun rec hI => ⟨fun r => absurd r (by omega), fun _ => h0 fun hx => ?_⟩
  · rcases Nat.lt_or_ge j k with c | c
    · exact hI j c
    · obtain rfl : j = k := by omega
      exact fun t => q t.symm
  · obtain ⟨k, hk, e⟩ := List.getElem_of_mem hx
    exact hI k hk (by rw [ix_get hk, e])
theorem slices_Contains_int_ok {l : List Int} {x : Int} {Φ : Bool → Prop} (hl : l.length ≤ 1000000) (hΦ : Φ (decide (x ∈ l))) : Z44 l x Φ := by
  refine slices_Index_int_ok hl (fun hx k => ?_) fun hx => ?_
  · rw [decide_eq_true (show (0 : Int) ≤ (k : Int) by omega)]; rw [decide_eq_true hx] at hΦ; exact hΦ
  · rw [decide_eq_false hx] at hΦ; exact hΦ
theorem equal_int_ok {a b : List Int} {Φ : Bool → Prop} (hl : a.length ≤ 1000000) (hΦ : Φ (decide (a = b))) : Z40 a b Φ := by
  refine ⟨fun q => by rw [decide_eq_false (fun e => q (by rw [e]))] at hΦ; exact hΦ, fun q => ?_⟩
  have e : decide (a = b) = allN (fun k => decide (ix a (k : Int) = ix b (k : Int))) a.length := by
    rw [Bool.eq_iff_iff, decide_eq_true_iff, allN_true]
    exact ⟨fun e k _ => by rw [e]; exact decide_eq_true rfl, fun h => ext_ix (by omega) fun k hk => of_decide_eq_true (h k hk)⟩
  rw [e] at hΦ
  exact LoopW.allL _ _ hΦ (fun k rec hk _ h1 h2 => ⟨fun _ => ⟨iX (by omega) (by omega), iX (by omega) (by omega), fun r => h1 (decide_eq_false r), fun r => ⟨iI (by omega) (by omega), h2 (decide_eq_true (Classical.not_not.1 r))⟩⟩, fun r => absurd (show (k : Int) < (a.length : Int) by omega) r⟩) fun rec h0 _ => ⟨fun r => absurd r (by omega), fun _ => h0⟩
theorem nodup_len {α : Type} [DecidableEq α] : ∀ {L S : List α}, (L.Pairwise fun a b => a ≠ b) → (∀ x ∈ L, x ∈ S) → L.length ≤ S.length
  | [], _, _, _ => Nat.zero_le _
  | x :: L, S, hp, hs => by
    have hx := hs x List.mem_cons_self
    have h1 := List.pairwise_cons.1 hp
    have := nodup_len (L := L) (S := S.erase x) h1.2 fun y hy => (List.mem_erase_of_ne (fun e => h1.1 y hy e.symm)).2 (hs y (.tail _ hy))
    rw [List.length_erase_of_mem hx] at this
    have := List.length_pos_of_mem hx
    rw [List.length_cons]; omega
def subsN : Nat → List (List Int)
  | 0 => [[]]
  | n + 1 => subsN n ++ (subsN n).map (· ++ [(n : Int)])
theorem subsN_len : ∀ n, (subsN n).length = 2 ^ n
  | 0 => rfl
  | n + 1 => by
    show (subsN n ++ (subsN n).map (· ++ [(n : Int)])).length = _
    rw [List.length_append, List.length_map, subsN_len n, Nat.pow_succ]; omega
theorem sel_subs (p : Nat → Bool) : ∀ n, selL n p ∈ subsN n
  | 0 => List.mem_singleton.2 rfl
  | n + 1 => by
    rw [selL_succ]
    refine List.mem_append.2 ?_
    by_cases q : p n = true
    · rw [if_pos q]; exact .inr (List.mem_map.2 ⟨_, sel_subs p n, rfl⟩)
    · rw [if_neg q, List.append_nil]; exact .inl (sel_subs p n)
theorem levs_few {h : api_History} (hz : histE h = 0) (h8 : h.Writes.length ≤ 8) : (levs h (h.Writes.length + 1)).length ≤ 256 := by
  have h1 := nodup_len (L := levs h (h.Writes.length + 1)) (S := subsN h.Writes.length) ((levs_ord (h := h)).imp fun t => t.2) fun c hc => by
    have hb := ((mem_levs hz).1 hc).1
    rw [set_eq hb (selL_set (p := fun w => decide ((w : Int) ∈ c)) (Nat.le_refl _) (Int.le_refl _)) fun w hw => by rw [mem_selN, decide_eq_true_iff]; exact ⟨fun t => ⟨hw, t⟩, fun t => t.2⟩]
    exact sel_subs _ _
  rw [subsN_len] at h1
  have : 2 ^ h.Writes.length ≤ 2 ^ 8 := Nat.pow_le_pow_right (by omega) h8
  have e : (2 : Nat) ^ 8 = 256 := by decide
  omega
theorem equal_sec_ok {a b : List Sec} {Φ : Bool → Prop} (hl : a.length ≤ 1000000) (hΦ : Φ (decide (a = b))) : Z120 a b Φ := by
  refine ⟨fun q => by rw [decide_eq_false (fun e => q (by rw [e]))] at hΦ; exact hΦ, fun q => ?_⟩
  have e : decide (a = b) = allN (fun k => decide (ix a (k : Int) = ix b (k : Int))) a.length := by
    rw [Bool.eq_iff_iff, decide_eq_true_iff, allN_true]
    exact ⟨fun e k _ => by rw [e]; exact decide_eq_true rfl, fun h => ext_ix (by omega) fun k hk => of_decide_eq_true (h k hk)⟩
  rw [e] at hΦ
  exact LoopW.allL _ _ hΦ (fun k rec hk _ h1 h2 => ⟨fun _ => ⟨iX (by omega) (by omega), iX (by omega) (by omega), fun r => h1 (decide_eq_false r), fun r => ⟨iI (by omega) (by omega), h2 (decide_eq_true (Classical.not_not.1 r))⟩⟩, fun r => absurd (show (k : Int) < (a.length : Int) by omega) r⟩) fun rec h0 _ => ⟨fun r => absurd r (by omega), fun _ => h0⟩
theorem image_Same_ok {a b : List (List Sec)} {Φ : Bool → Prop} (hi : imgE a = 0) (hΦ : Φ (decide (a = b))) : image_Same_W a b Φ := by
  have sm := fit_small (im := a) (by rw [show sizesE (szs a) = 0 from hi]; simp)
  refine ⟨fun q => by rw [decide_eq_false (fun e => q (by rw [e]))] at hΦ; exact hΦ, fun q => ?_⟩
  have e : decide (a = b) = allN (fun k => decide (ix a (k : Int) = ix b (k : Int))) a.length := by
    rw [Bool.eq_iff_iff, decide_eq_true_iff, allN_true]
    exact ⟨fun e k _ => by rw [e]; exact decide_eq_true rfl, fun h => ext_ix (by omega) fun k hk => of_decide_eq_true (h k hk)⟩
  rw [e] at hΦ
  exact LoopW.allL _ _ hΦ (fun k rec hk _ h1 h2 => ⟨fun _ => ⟨iX (by omega) (by omega), iX (by omega) (by omega), equal_sec_ok (by have := (sm.2.2 k hk).2; omega) ⟨fun r => h1 (by simpa using r), fun r => ⟨iI (by omega) (by omega), h2 (Classical.not_not.1 r)⟩⟩⟩, fun r => absurd (show (k : Int) < (a.length : Int) by omega) r⟩) fun rec h0 _ => ⟨fun r => absurd r (by omega), fun _ => h0⟩
theorem law18_contains_ok {a b : List Int} {Φ : Bool → Prop} (ha : a.length ≤ 1000000) (hb : b.length ≤ 1000000) (hs : ∀ x ∈ b, x ∈ a) (hΦ : Φ true) : Z122 a b Φ := by
  refine LoopW.upT b.length (fun k => (k : Int)) rfl (fun k rec hk hr => ⟨fun hlt => ⟨iX (by omega) hlt, slices_Contains_int_ok ha ?_⟩, fun r => absurd (show (k : Int) < (b.length : Int) by omega) r⟩) fun rec => ⟨fun r => absurd r (by omega), fun _ => hΦ⟩
  rw [decide_eq_true (hs _ (ix_mem (iX (by omega) (by omega))))]
  exact ⟨fun t => absurd rfl t, fun _ => ⟨iI (by omega) (by omega), hr _ rfl⟩⟩
theorem low_shows {h : api_History} {im : List (List Sec)} (hz : histE h = 0) (hs : szs im = h.Sizes) (hc : cflB h im = false) : imgH h (lowH h im) = im := by
  have hd : ¬ 0 ≤ difV h im := fun t => by
    unfold cflB at hc
    exact absurd (decide_eq_true (p := 0 ≤ unkV h im ∨ 0 ≤ difV h im) (.inr t)) (by rw [hc]; exact Bool.false_ne_true)
  have hx := szs_imgH hz (lowH_set (h := h) (im := im))
  have hl : (imgH h (lowH h im)).length = im.length := by rw [← szs_len, hx, ← hs, szs_len]
  unfold difV at hd
  rcases fst_cases im.length (szN im) (difB (ximH h im) im) with ⟨_, h2⟩ | ⟨v, k, _, _, h3, _⟩
  · refine ext_ix hl fun v hv => ?_
    have e1 := ix_szs hv
    have e2 := ix_szs (im := im) (k := v) (by omega)
    rw [hx, ← hs] at e1
    have el : (ix (imgH h (lowH h im)) (v : Int)).length = (ix im (v : Int)).length := by omega
    refine ext_ix el fun k hk => ?_
    have := h2 v (by omega) k (by unfold szN; omega)
    exact Classical.not_not.1 (of_decide_eq_false this)
  · exact absurd (by rw [h3]; omega) hd
def someN (p : Nat → Bool) (n : Nat) : Bool := (List.range n).any p
theorem someN_succ {p : Nat → Bool} {n : Nat} : someN p (n + 1) = (someN p n || p n) := by
  unfold someN
  rw [List.range_succ, List.any_append]
  simp
theorem someN_iff {p : Nat → Bool} {n : Nat} : someN p n = true ↔ ∃ k, k < n ∧ p k = true := by
  unfold someN
  rw [List.any_eq_true]
  exact ⟨fun ⟨k, h1, h2⟩ => ⟨k, List.mem_range.1 h1, h2⟩, fun ⟨k, h1, h2⟩ => ⟨k, List.mem_range.2 h1, h2⟩⟩
theorem consistencyDecides_law (h : api_History) (im : List (List Sec)) (_ : Rg.rg h) (_ : Rg.rg im) : Z127 h im fun y => y = true := by
  have aw : law18_awake_W fun y => y = true := law18_awake_ok rfl
  have nf : ¬ (false = true) := Bool.false_ne_true
  have skip : Z126 h im (fun y => y = true) true := ⟨fun _ => aw, fun r => absurd rfl r⟩
  unfold Z127 Join
  refine law18_few_ok ⟨fun _ => skip, fun r => absurd nf r⟩ fun hh hw il => ⟨fun r => absurd rfl r, fun _ => ?_⟩
  by_cases h8 : (8 : Int) < (h.Writes.length : Int)
  · rw [decide_eq_true h8]; exact skip
  rw [decide_eq_false h8]
  refine ⟨fun r => absurd r nf, fun _ => consistency_Find_ok hh (by omega) (consistency_Newest_ok hh (by omega) (cut_All_ok hh (by omega) ?_))⟩
  show ((findR h im).2.2 ≠ 0 → Z125 h im (findR h im) (nwsR h im) (allR h 300) (fun y => y = true) true) ∧ (¬ ((findR h im).2.2 ≠ 0) → ((nwsR h im).2.2 ≠ 0 → Z125 h im (findR h im) (nwsR h im) (allR h 300) (fun y => y = true) true) ∧ (¬ ((nwsR h im).2.2 ≠ 0) → Z125 h im (findR h im) (nwsR h im) (allR h 300) (fun y => y = true) (decide ((allR h 300).2 ≠ 0))))
  by_cases e : rgtE h im ≠ 0
  · have eF : findR h im = ([], false, rgtE h im) := by unfold findR; rw [if_pos e]
    have eN : nwsR h im = ([], false, rgtE h im) := by unfold nwsR; rw [if_pos e]
    rw [eF, eN]
    exact ⟨fun _ => ⟨fun _ => ⟨fun _ => ⟨fun _ => ⟨fun _ => aw, fun r => absurd nf r⟩, fun r => absurd nf r⟩, fun r => absurd rfl r⟩, fun r => absurd rfl r⟩, fun r => absurd e r⟩
  have e : rgtE h im = 0 := Classical.not_not.1 e
  obtain ⟨hz, hi, hs, hd⟩ := rgtE_zero e
  have few := levs_few hz (by omega)
  have hA : allR h 300 = (levs h (h.Writes.length + 1), 0) := by
    rcases allR_spec (most := 300) hz (by omega) (by omega) with ⟨t, _⟩ | ⟨_, t⟩
    · exact t
    · omega
  have e3 : (findR h im).2.2 = 0 := by unfold findR; rw [if_neg (fun t => t e)]; split <;> rfl
  have e4 : (nwsR h im).2.2 = 0 := by unfold nwsR; rw [if_neg (fun t => t e)]; split <;> rfl
  refine ⟨fun r => absurd e3 r, fun _ => ⟨fun r => absurd e4 r, fun _ => ?_⟩⟩
  rw [hA]
  have fF : cflB h im = false → findR h im = (lowH h im, true, 0) := fun t => by unfold findR; rw [if_neg (fun t => t e), if_neg (by rw [t]; exact nf)]
  have fN : cflB h im = false → nwsR h im = (greatC h (alwL h im), true, 0) := fun t => by unfold nwsR; rw [if_neg (fun t => t e), if_neg (by rw [t]; exact nf)]
  have gF : cflB h im = true → findR h im = ([], false, 0) := fun t => by unfold findR; rw [if_neg (fun t => t e), if_pos t]
  have gN : cflB h im = true → nwsR h im = ([], false, 0) := fun t => by unfold nwsR; rw [if_neg (fun t => t e), if_pos t]
  have memL : ∀ c, c ∈ levs h (h.Writes.length + 1) ↔ isSetB c (h.Writes.length : Int) = true ∧ ClosedS h c := fun c => by
    rw [mem_levs hz]
    exact ⟨fun t => ⟨t.1, t.2.2⟩, fun t => ⟨t.1, by have := isSetB_le t.1 (by omega); omega, t.2⟩⟩
  have hit : ∀ c ∈ levs h (h.Writes.length + 1), imgH h c = im → cflB h im = false ∧ (∀ x ∈ lowH h im, x ∈ c) ∧ ∀ x ∈ c, x ∈ greatC h (alwL h im) := fun c hc hx => by
    obtain ⟨hb, hcl⟩ := (memL c).1 hc
    rw [← hx]
    exact ⟨(rec_cfl hz hd hb hcl).1, rec_low hz hd hb hcl, greatC_over hz hb hcl (rec_alw hz hd hb)⟩
  generalize levs h (h.Writes.length + 1) = X at few memL hit ⊢
  generalize findR h im = F at fF gF ⊢
  generalize nwsR h im = G at fN gN ⊢
  show Z125 h im F G (X, 0) (fun y => y = true) (decide ((0 : Int) ≠ 0))
  rw [decide_eq_false (fun t => t rfl)]
  refine ⟨fun r => absurd r nf, fun _ => ?_⟩
  obtain ⟨p, hp⟩ : ∃ p : Nat → Bool, ∀ k : Nat, p k = decide (imgH h (ix X (k : Int)) = im) := ⟨_, fun _ => rfl⟩
  obtain ⟨pa, hpa⟩ : ∃ pa : Nat → Bool, ∀ k : Nat, pa k = (p k && decide (ix X (k : Int) = F.1)) := ⟨_, fun _ => rfl⟩
  obtain ⟨pb, hpb⟩ : ∃ pb : Nat → Bool, ∀ k : Nat, pb k = (p k && decide (ix X (k : Int) = G.1)) := ⟨_, fun _ => rfl⟩
  refine LoopW.upT X.length (fun k => (someN p k, someN pa k, someN pb k, (k : Int))) rfl (fun k rec hk hr => ?_) fun rec => ?_
  · refine ⟨fun hlt => ⟨iX (by omega) hlt, ?_⟩, fun r => absurd (show (k : Int) < (X.length : Int) by omega) r⟩
    have hm : ix X (k : Int) ∈ X := ix_mem (iX (by omega) (by omega))
    obtain ⟨hb, hcl⟩ := (memL _).1 hm
    have lc := isSetB_le hb (by omega)
    show Z60 h (ix X (k : Int)) _
    refine history_Image_ok hh (by omega) (fun _ _ => ⟨fun r => absurd rfl r, fun _ => image_Same_ok (imgE_imgH hz hb) ?_⟩) (fun r => absurd hz r) fun _ r => absurd (hb.symm.trans r) (by decide)
    by_cases q : imgH h (ix X (k : Int)) = im
    · have hpk : p k = true := by rw [hp]; exact decide_eq_true q
      obtain ⟨hcf, h1, h2⟩ := hit _ hm q
      have eF := fF hcf
      have eG := fN hcf
      have ll := isSetB_le (lowH_set (h := h) (im := im)) (by omega)
      have lg := isSetB_le (greatC_set (h := h) (l := alwL h im)) (by omega)
      rw [decide_eq_true (show imgH h (ix X (k : Int)) = im from q)]
      refine ⟨fun r => absurd rfl r, fun _ => ?_⟩
      have fin : ∀ a b : Bool, a = someN pa (k + 1) → b = someN pb (k + 1) → Z123 F G (X, 0) (k : Int) rec (fun y => y = true) (a, b) := fun a b ea eb => by
        refine law18_contains_ok (by show (ix X (k : Int)).length ≤ _; omega) (by rw [eF]; show (lowH h im).length ≤ _; omega) (by rw [eF]; exact h1) ⟨fun r => absurd rfl r, fun _ => ?_⟩
        refine law18_contains_ok (by rw [eG]; show (greatC h (alwL h im)).length ≤ _; omega) (by show (ix X (k : Int)).length ≤ _; omega) (by rw [eG]; exact h2) ⟨fun r => absurd rfl r, fun _ => ⟨iI (by omega) (by omega), hr _ ?_⟩⟩
        rw [ea, eb, someN_succ (p := p), hpk, Bool.or_true]
        rfl
      have sa : someN pa (k + 1) = (someN pa k || decide (ix X (k : Int) = F.1)) := by rw [someN_succ, hpa, hpk, Bool.true_and]
      have sb : someN pb (k + 1) = (someN pb k || decide (ix X (k : Int) = G.1)) := by rw [someN_succ, hpb, hpk, Bool.true_and]
      unfold Join
      refine ⟨fun ha => ⟨fun hb' => fin _ _ (by rw [sa, ha]; rfl) (by rw [sb, hb']; rfl), fun hb' => equal_int_ok (by show (ix X (k : Int)).length ≤ _; omega) (fin _ _ (by rw [sa, ha]; rfl) (by rw [sb, Bool.eq_false_iff.2 hb', Bool.false_or]))⟩, fun ha => equal_int_ok (by show (ix X (k : Int)).length ≤ _; omega) ⟨fun hb' => fin _ _ (by rw [sa, Bool.eq_false_iff.2 ha, Bool.false_or]) (by rw [sb, hb']; rfl), fun hb' => equal_int_ok (by show (ix X (k : Int)).length ≤ _; omega) (fin _ _ (by rw [sa, Bool.eq_false_iff.2 ha, Bool.false_or]) (by rw [sb, Bool.eq_false_iff.2 hb', Bool.false_or]))⟩⟩
    · have hpk : p k = false := by rw [hp]; exact decide_eq_false q
      rw [decide_eq_false (show ¬ imgH h (ix X (k : Int)) = im from q)]
      refine ⟨fun _ => ⟨iI (by omega) (by omega), hr _ ?_⟩, fun r => absurd nf r⟩
      rw [someN_succ (p := p), someN_succ (p := pa), someN_succ (p := pb), hpa, hpb, hpk, Bool.false_and, Bool.false_and, Bool.or_false, Bool.or_false, Bool.or_false]
      rfl
  · refine ⟨fun r => absurd r (by show ¬ ((X.length : Int) < (X.length : Int)); omega), fun _ => ?_⟩
    have all3 : F.2.1 = someN p X.length ∧ G.2.1 = someN p X.length ∧ (someN p X.length = true → someN pa X.length = true ∧ someN pb X.length = true) := by
      cases hc : cflB h im with
      | true =>
        have : someN p X.length = false := Bool.eq_false_iff.2 fun t => by
          obtain ⟨k, hk, hpk⟩ := someN_iff.1 t
          rw [hp] at hpk
          have := (hit _ (ix_mem (iX (by omega) (by omega))) (of_decide_eq_true hpk)).1
          rw [hc] at this
          exact nf this.symm
        rw [this, gF hc, gN hc]
        exact ⟨rfl, rfl, fun t => absurd t nf⟩
      | false =>
        have i1 := low_shows hz hs hc
        have c1 : ClosedS h (lowH h im) := by rw [lowH_sel]; exact lowC_closed hz needL_set
        have m1 : lowH h im ∈ X := (memL _).2 ⟨lowH_set, c1⟩
        have m2 : greatC h (alwL h im) ∈ X := (memL _).2 ⟨greatC_set, greatC_closed hz⟩
        have i2 : imgH h (greatC h (alwL h im)) = im := by
          have := rec_new hz hd (lowH_set (h := h) (im := im)) c1
          rw [i1] at this; exact this
        obtain ⟨j, hj, ej⟩ := List.getElem_of_mem m1
        obtain ⟨g, hg, eg⟩ := List.getElem_of_mem m2
        have xj : ix X (j : Int) = lowH h im := by rw [ix_get hj, ej]
        have xg : ix X (g : Int) = greatC h (alwL h im) := by rw [ix_get hg, eg]
        have pj : p j = true := by rw [hp, xj]; exact decide_eq_true i1
        have pg : p g = true := by rw [hp, xg]; exact decide_eq_true i2
        have sp : someN p X.length = true := someN_iff.2 ⟨j, hj, pj⟩
        refine ⟨by rw [fF hc, sp], by rw [fN hc, sp], fun _ => ⟨someN_iff.2 ⟨j, hj, ?_⟩, someN_iff.2 ⟨g, hg, ?_⟩⟩⟩
        · rw [hpa, pj, Bool.true_and, fF hc]; exact decide_eq_true xj
        · rw [hpb, pg, Bool.true_and, fN hc]; exact decide_eq_true xg
    exact ⟨fun _ => ⟨fun _ => ⟨fun _ => aw, fun t => ⟨fun _ => ⟨fun _ => aw, fun r => absurd (all3.2.2 (Classical.not_not.1 t)).2 r⟩, fun r => absurd (all3.2.2 (Classical.not_not.1 t)).1 r⟩⟩, fun r => absurd all3.2.1 r⟩, fun r => absurd all3.1 r⟩
end Go.Proofs.YtpmjodnmnffmhaaGreatDoor
namespace Go.Proofs.YtpmjodnmnffmhaaGreatDoor
open Go.RowKit Go.ChangeShapes Go.WideShapes Go.ChangeAt
set_option maxRecDepth 100000 in
theorem consistencyDecides_lifted (os : Os) (started : os.Started) (H : Type) (enc : TypeId × Value → H) :
    ReturnsInHanded {} Tryz.checked os 11 .any (fun w args => (Rows.consistencyDecidesSpec.pre enc Tryz.prog Tryz.f11 [] false w args ∧ laidMetH Tryz.prog [("math/bits.deBruijn32tab", Rows.laid_math_bits_deBruijn32tab), ("math/bits.deBruijn64tab", Rows.laid_math_bits_deBruijn64tab), ("internal/strconv.uint64pow10", Rows.laid_internal_strconv_uint64pow10)] w) ∧ sizedMet enc Tryz.prog Tryz.f11 (OpenSpec.ofChange Rows.consistencyDecidesSpec) false w args)
      (Rows.consistencyDecidesSpec.post enc Tryz.prog Tryz.f11 false true false false) := by
  refine returnsInHanded_of_change_and (C := Tryz.checked) (X := fun w _ => laidMetH Tryz.prog [("math/bits.deBruijn32tab", Rows.laid_math_bits_deBruijn32tab), ("math/bits.deBruijn64tab", Rows.laid_math_bits_deBruijn64tab), ("internal/strconv.uint64pow10", Rows.laid_internal_strconv_uint64pow10)] w) (fun _ _ _ hh h => h.of_heap hh) Tryz.own started (by kernel_rfl) Tryz.func11
    (ChangeSpec.witness_shaped (enc := enc) (C := Tryz.checked) (os := os) (X := fun w _ => laidMetH Tryz.prog [("math/bits.deBruijn32tab", Rows.laid_math_bits_deBruijn32tab), ("math/bits.deBruijn64tab", Rows.laid_math_bits_deBruijn64tab), ("internal/strconv.uint64pow10", Rows.laid_internal_strconv_uint64pow10)] w) false (World.doorLaid Tryz.prog 24 os) #[.agg #[.slice none 0 0, .slice none 0 0, .slice none 0 0], .slice none 0 0] 8 rfl (World.shaped_of_RefB (by kernel_rfl) (by kernel_rfl)) (by kernel_rfl) (by kernel_rfl) (by kernel_rfl) (Tryz.doorMet os _)) ?_
  intro W base args ds gs before hval0 hW _ _ hL _
  have hval : ∀ (j : Nat) t v, Tryz.f11.params[j]? = some t → args[j]? = some v → Value.okWide Tryz.prog W .any base t v := hval0
  have hW' := hW
  obtain ⟨p, q, hA0, hV, hpq, _, _⟩ := hW
  have hA : DataW.TrodAll enc Tryz.prog W 0 (fun _ => true) true Tryz.f11.params.toList args.toList ds p := hA0
  rw [Tryz.params11] at hA hval
  obtain ⟨v0, v1, d0, d1, p0, p1, rfl, rfl, rfl, h0, h1⟩ := trodAll_two hA
  obtain ⟨rfl, rfl⟩ := trodVars_none hV
  obtain ⟨ks0, x0, rfl, hr0, hg0⟩ := open_strD Tryz.underlying26 rd26 (hval 0 26 v0 rfl rfl) h0
  obtain ⟨Az1, nz1, cz1, sz1, x1, rfl, hz1, hg1⟩ := open_slD Tryz.underlying71 rd71 (hval 1 71 v1 rfl rfl) h1
  refine Calls.mono ((RetP.toV (y := true) (F := fun z => .bool z) (RetP.mono (ok11 (x0, x1, ()) (fun y => y.1 = true) (consistencyDecides_law x0 x1 hg0 hg1) (HW W) [.agg ks0.toArray, .slice Az1 nz1 cz1] trivial ⟨_, ks0, _, rfl, by rw [pkw26], (show Dt.rd (α := api_History) (HW W) _ _ from hr0), ⟨_, [.slice Az1 nz1 cz1], _, rfl, by rw [pkw71], (show Dt.rd (α := List (List Sec)) (HW W) _ _ from ⟨Az1, nz1, cz1, sz1, rfl, hz1⟩), rfl⟩⟩) fun _ _ _ _ ⟨y, hy, hr⟩ => lawRes y hy hr)) W fun b o e => e) ?_
  rintro e W' ⟨v, _, rfl, _, _, _, hb, rfl⟩
  exact ⟨_, rfl, post_law Tryz.laidOut Tryz.underlying4 rfl (by kernel_rfl) hW' rfl rfl hb⟩
theorem consistencyDecides_holds : Rows.ConsistencyDecidesSaid :=
  OpenClaim.holds_of_wide 11 Tryz.f11 rfl rfl rfl rfl rfl rfl rfl ⟨rfl, rfl, rfl, rfl, rfl⟩ rfl rfl rfl rfl rfl (by kernel_rfl) Tryz.func11 (by kernel_rfl)
    (of_decide_eq_true (by kernel_rfl)) (by unfold Func.isWrapper; first | (rw [if_pos (by decide +kernel)]; kernel_rfl) | (rw [if_neg (by decide +kernel)]; exact ⟨rfl, rfl⟩))
    (fun os started H enc _ => consistencyDecides_lifted os started H enc)
theorem consistencyDecides_card : Rows.ConsistencyDecidesCardSaid :=
  Claim7.holds_tied_plain_at .later [] [.data, .data, .data] true (true, "982b85d7fc28f81cd50639e72151f7db201b988bd90d7a0b40d133412f752128") false
    consistencyDecides_holds (fun _ h => by cases h) (by kernel_rfl) (fun _ h => by cases h) consistencyDecides_row_tie rfl ⟨rfl, rfl⟩ (by kernel_rfl) rfl
    (fun f fn hf hfn => by
      obtain rfl : f = 11 := Option.some.inj ((show Tryz.prog.funcNamed "standby/standbylaw18.ConsistencyDecides" = some 11 by kernel_rfl).symm.trans hf) |>.symm
      obtain rfl : fn = Tryz.f11 := (Option.some.inj (Tryz.func11.symm.trans hfn)).symm
      exact ⟨by kernel_rfl, fun j t ht => by
        rw [Tryz.params11] at ht
        have hm : t ∈ [26, 71] := by
          have := Array.mem_of_getElem? ht
          simpa using this
        have hall : ([26, 71].all fun u => !Tryz.prog.wantsStandIn u) = true := by kernel_rfl
        exact (show Tryz.prog.wantsStandIn t = false by simpa using List.all_eq_true.1 hall t hm)⟩)
    (by kernel_rfl)
end Go.Proofs.YtpmjodnmnffmhaaGreatDoor
