/- Proved: the tied card of the statement TopFailbackNeeded: for every argument that can be read the law returns true and leaves its arguments as they were. Conditions: the row's own alone: the table math/bits.deBruijn64tab reads as listed, which the card ties to the program's text. -/
import Derived.Test.YtbcembjnddnneaaGreatDoorM6
namespace Go.Proofs.YtbcembjnddnneaaGreatDoor
open Go.RowKit
theorem sum_bd {xs : List Int} {B : Int} (h : ∀ x ∈ xs, 0 ≤ x ∧ x ≤ B) : 0 ≤ xs.sum ∧ xs.sum ≤ B * xs.length := by
  induction xs with
  | nil => simp
  | cons x xs ih =>
    have h1 := h x List.mem_cons_self; have h2 := ih fun y hy => h y (List.mem_cons_of_mem _ hy); rw [List.sum_cons, List.length_cons]; have e : B * ((xs.length + 1 : Nat) : Int) = B * (xs.length : Int) + B := by rw [Int.natCast_add, Int.mul_add]; simp
    rw [e]; omega
theorem q273 {α : Type} [Dt α] (f : α → Int) {xs : List α} {k : Nat} (h : k < xs.length) : ((xs.take (k + 1)).map f).sum = ((xs.take k).map f).sum + f (ix xs (k : Int)) := by
  rw [q119 h, List.map_append, List.sum_append]; simp
theorem q172 {α : Type} {f : α → Int} {xs : List α} {B : Int} (h : ∀ x ∈ xs, 0 ≤ f x ∧ f x ≤ B) (h0 : 0 ≤ B) (k : Nat) : 0 ≤ ((xs.take k).map f).sum ∧ ((xs.take k).map f).sum ≤ B * xs.length := by
  have h1 := sum_bd (xs := (xs.take k).map f) (B := B) fun y hy => by
    obtain ⟨x, hx, rfl⟩ := List.mem_map.1 hy; exact h x (List.mem_of_mem_take hx)
  rw [List.length_map, List.length_take] at h1; have h2 : B * ((min k xs.length : Nat) : Int) ≤ B * (xs.length : Int) := Int.mul_le_mul_of_nonneg_left (by omega) h0; omega
def cntX (l : List q8) : Int := (l.map (·.Count)).sum
def cntS (ls : List (List q8)) : Int := (ls.map cntX).sum
theorem q294 {n : Nat} {p : Nat → Bool} (hn : n ≤ 4096) : ∀ e ∈ runX n p, 0 ≤ e.Count ∧ e.Count ≤ 4096 := fun e he => by
  have h1 := (q28 p n).low e he; have h2 := (q28 p n).can.pos e he; omega
theorem q794 {n : Nat} {p : Nat → Bool} (hn : n ≤ 4096) : 0 ≤ cntX (runX n p) ∧ cntX (runX n p) ≤ 16777216 := by
  have h := q172 (f := fun e : q8 => e.Count) (B := 4096) (q294 (p := p) hn) (by omega) (runX n p).length; rw [List.take_length] at h; have := (q28 p n).len; unfold cntX; omega
theorem RunsX.each {im : List (List Sec)} {l : List (List q8)} {p : Nat → Nat → Bool} (hs : imgE im = 0) (h : RunsX im l p) : l.length ≤ 8 ∧ ∀ x ∈ l, ∃ (n : Nat) (q : Nat → Bool), n ≤ 4096 ∧ x = runX n q := by
  have hl := q19 hs; rw [q15] at hl; have h1 := h.len; refine ⟨by omega, fun x hx => ?_⟩; obtain ⟨v, hv, rfl⟩ := List.getElem_of_mem hx; have := h.at_ v (by omega); rw [q34 hv] at this; exact ⟨_, _, q50 hs v (by omega), this⟩
theorem q602 {l : List (List q8)} (h : ∀ x ∈ l, ∃ (n : Nat) (q : Nat → Bool), n ≤ 4096 ∧ x = runX n q) : ∀ x ∈ l, 0 ≤ cntX x ∧ cntX x ≤ 16777216 := fun x hx => by
  obtain ⟨n, q, h1, rfl⟩ := h x hx; exact q794 h1
theorem q295 {a b : List (List Sec)} {Φ : Int × Int → Prop} (ha : imgE a = 0) (hs : szs a = szs b) (hΦ : Φ (cntS (difX a b), 0)) : Z120 a b Φ := by
  obtain ⟨e1, e2⟩ := (q361 (a := a) (b := b)).each ha; refine q123 ha hs ⟨fun q => absurd rfl q, fun _ => ?_⟩; generalize difX a b = ls at e1 e2 hΦ; have ec := q602 e2; refine LoopW.upT ls.length (fun k => (((ls.take k).map cntX).sum, (k : Int))) rfl (fun k rec hk hr => ⟨fun q => ⟨iX (by omega) q, ?_⟩, fun q => absurd (show (k : Int) < (ls.length : Int) by omega) q⟩) fun rec => ⟨fun q => absurd (show (ls.length : Int) < (ls.length : Int) from q) (by omega), fun _ => by rw [q31]; exact hΦ⟩
  obtain ⟨n, q, hn, hx⟩ := e2 _ (q45 (xs := ls) (i := (k : Int)) (iX (by omega) (by omega))); have hp := q172 ec (by omega) k; have hcn := q294 (p := q) hn; rw [← hx] at hcn; have hln := (q28 q n).len; rw [← hx] at hln; refine LoopW.upT (ix ls (k : Int)).length (fun j => (((ls.take k).map cntX).sum + (((ix ls (k : Int)).take j).map (·.Count)).sum, (j : Int))) (by simp) (fun j rec2 hj hr2 => ⟨fun u => ?_, fun u => absurd (show (j : Int) < ((ix ls (k : Int)).length : Int) by omega) u⟩) fun rec2 => ⟨fun u => absurd (show ((ix ls (k : Int)).length : Int) < ((ix ls (k : Int)).length : Int) from u) (by omega), fun _ => ⟨iI (by omega) (by omega), hr _ ?_⟩⟩
  · have hj2 := q172 (f := fun e : q8 => e.Count) (B := 4096) hcn (by omega) j
    have hce := hcn _ (q45 (xs := ix ls (k : Int)) (i := (j : Int)) (iX (by omega) (by omega))); refine ⟨iX (by omega) u, iI (by show -9223372036854775808 ≤ _ + (ix (ix ls (k : Int)) (j : Int)).Count; omega) (by show _ + (ix (ix ls (k : Int)) (j : Int)).Count ≤ _; omega), iI (by omega) (by omega), hr2 _ ?_⟩; rw [q273 (·.Count) hj, ← Int.add_assoc]; rfl
  · rw [q273 cntX hk, q31]; rfl
theorem q363 {n : Nat} {p : Nat → Bool} {Φ : Int → Prop} (hn : n ≤ 4096) (hΦ : Φ (cntX (runX n p))) : Z163 (runX n p) Φ := by
  refine q292 hn ?_; have hcn := q294 (p := p) hn; have hln := (q28 p n).len; generalize runX n p = l at hcn hln hΦ; refine LoopW.upT l.length (fun j => (((l.take j).map (·.Count)).sum, (j : Int))) rfl (fun j rec hj hr => ⟨fun u => ?_, fun u => absurd (show (j : Int) < (l.length : Int) by omega) u⟩) fun rec => ⟨fun u => absurd (show (l.length : Int) < (l.length : Int) from u) (by omega), fun _ => by rw [q31]; exact hΦ⟩
  have hj2 := q172 (f := fun e : q8 => e.Count) (B := 4096) hcn (by omega) j; have hce := hcn _ (q45 (xs := l) (i := (j : Int)) (iX (by omega) (by omega))); refine ⟨iX (by omega) u, iI (by show -9223372036854775808 ≤ _ + (ix l (j : Int)).Count; omega) (by show _ + (ix l (j : Int)).Count ≤ _; omega), iI (by omega) (by omega), hr _ ?_⟩; rw [q273 (·.Count) hj]; rfl
theorem q374 {ls : List (List q8)} {Φ : Int → Prop} (e1 : ls.length ≤ 8) (e2 : ∀ x ∈ ls, ∃ (n : Nat) (q : Nat → Bool), n ≤ 4096 ∧ x = runX n q) (hΦ : Φ (cntS ls)) : q165 ls Φ := by
  have ec := q602 e2; refine LoopW.upT ls.length (fun k => ((k : Int), (ls.take k).map cntX)) rfl (fun k rec hk hr => ⟨fun q => ⟨iX (by omega) q, ?_⟩, fun q => absurd (show (k : Int) < (ls.length : Int) by omega) q⟩) fun rec => ⟨fun q => absurd (show (ls.length : Int) < (ls.length : Int) from q) (by omega), fun _ => ?_⟩
  · obtain ⟨n, q, hn, hx⟩ := e2 _ (q45 (xs := ls) (i := (k : Int)) (iX (by omega) (by omega)))
    show Z163 (ix ls (k : Int)) _; rw [hx]; refine q363 hn ?_; rw [← hx]; exact ⟨iL (by simp; omega) (by omega), iI (by omega) (by omega), hr _ (by rw [q27 cntX hk]; rfl)⟩
  · rw [q31]
    refine LoopW.upT ls.length (fun k => (((ls.take k).map cntX).sum, (k : Int))) rfl (fun k rec hk hr => ⟨fun q => ?_, fun q => absurd (show (k : Int) < ((ls.map cntX).length : Int) by rw [List.length_map]; omega) q⟩) fun rec => ⟨fun q => absurd (show (ls.length : Int) < ((ls.map cntX).length : Int) from q) (by rw [List.length_map]; omega), fun _ => by rw [q31]; exact hΦ⟩
    have hp := q172 ec (by omega) k; have hce := ec _ (q45 (xs := ls) (i := (k : Int)) (iX (by omega) (by omega))); rw [q600 cntX hk]; exact ⟨iX (by omega) q, iI (by omega) (by omega), iI (by omega) (by omega), hr _ (by rw [q273 cntX hk]; rfl)⟩
abbrev EntX := Int × q8 × Unit
def volD : Nat → List (List q8) → List EntX
  | _, [] => []
  | v, l :: r => l.map (fun e => ((v : Int), e, ())) ++ volD (v + 1) r
def wrE (im : List (List Sec)) (q : EntX) : q10 := ⟨q.1, q.2.1.Start, sub (ix im q.1) q.2.1.Start (q.2.1.Start + q.2.1.Count)⟩
def wrsX (im : List (List Sec)) (ls : List (List q8)) : List q10 := (volD 0 ls).map (wrE im)
theorem q274 {q : EntX} : ∀ {ls : List (List q8)} {v : Nat}, q ∈ volD v ls ↔ ∃ j : Nat, j < ls.length ∧ q.1 = ((v + j : Nat) : Int) ∧ q.2.1 ∈ ix ls (j : Int)
  | [], v => by simp [volD]
  | l :: r, v => by
    rw [volD, List.mem_append, q274 (ls := r), List.mem_map]; constructor
    · rintro (⟨e, he, rfl⟩ | ⟨j, h1, h2, h3⟩)
      · exact ⟨0, by simp, rfl, he⟩
      · refine ⟨j + 1, by simp; exact h1, by rw [h2]; congr 1; omega, ?_⟩
        rw [q479] at h3 ⊢; simpa [List.getD_eq_getElem?_getD] using h3
    · rintro ⟨j, h1, h2, h3⟩
      cases j with
      | zero => exact .inl ⟨q.2.1, h3, by obtain ⟨a, b, c⟩ := q; simp only at h2; subst h2; rfl⟩
      | succ j =>
        refine .inr ⟨j, by simpa using h1, by rw [h2]; congr 1; omega, ?_⟩; rw [q479] at h3 ⊢; simpa [List.getD_eq_getElem?_getD] using h3
theorem q603 : ∀ {ls : List (List q8)} {v : Nat}, (∀ x ∈ ls, CanE x) → (volD v ls).Pairwise fun a b => a.1 < b.1 ∨ a.1 = b.1 ∧ a.2.1.Start + a.2.1.Count < b.2.1.Start
  | [], v, _ => List.Pairwise.nil
  | l :: r, v, h => by
    rw [volD]; refine List.pairwise_append.2 ⟨List.pairwise_map.2 ((h l List.mem_cons_self).asc.imp fun q => .inr ⟨rfl, q⟩), q603 fun x hx => h x (List.mem_cons_of_mem _ hx), fun a ha b hb => ?_⟩; obtain ⟨e, _, rfl⟩ := List.mem_map.1 ha; obtain ⟨j, _, h2, _⟩ := q274.1 hb
    left
    rw [h2]; show (v : Int) < _; omega
theorem q604 : ∀ {ls : List (List q8)} {v : Nat}, ((volD v ls).map fun q => q.2.1.Count).sum = cntS ls
  | [], _ => rfl
  | l :: r, v => by
    rw [volD, List.map_append, List.sum_append, q604]; unfold cntS cntX; rw [List.map_cons, List.sum_cons, List.map_map]; rfl
theorem q445 : ∀ {ls : List (List q8)} {v : Nat}, (∀ x ∈ ls, x.length ≤ 4096) → (volD v ls).length ≤ 4096 * ls.length
  | [], _, _ => by simp [volD]
  | l :: r, v, h => by
    rw [volD, List.length_append, List.length_map, List.length_cons]; have h1 := h l List.mem_cons_self; have h2 := q445 (ls := r) (v := v + 1) fun x hx => h x (List.mem_cons_of_mem _ hx); omega
theorem q623 {ls : List (List q8)} (h8 : ls.length ≤ 8) (h : ∀ x ∈ ls, x.length ≤ 4096) : q56 ls (volD 0 ls) := by
  unfold q56; refine LoopW.upT ls.length (fun k => (volD k (ls.drop k), (k : Int))) rfl (fun k rec hk hr => ⟨fun q => ⟨iX (by omega) q, ?_⟩, fun q => absurd (show (k : Int) < (ls.length : Int) by omega) q⟩) fun rec => ⟨fun q => absurd (show (ls.length : Int) < (ls.length : Int) from q) (by omega), fun _ => by rw [List.drop_length]; rfl⟩
  have hx := h _ (q45 (xs := ls) (i := (k : Int)) (iX (by omega) (by omega))); rw [q713 hk, volD]; refine LoopW.upT (ix ls (k : Int)).length (fun j => (((ix ls (k : Int)).drop j).map (fun e => ((k : Int), e, ())) ++ volD (k + 1) (ls.drop (k + 1)), (j : Int))) rfl (fun j rec2 hj hr2 => ⟨fun u => ⟨iX (by omega) u, ?_⟩, fun u => absurd (show (j : Int) < ((ix ls (k : Int)).length : Int) by omega) u⟩) fun rec2 => ⟨fun u => absurd (show ((ix ls (k : Int)).length : Int) < ((ix ls (k : Int)).length : Int) from u) (by omega), fun _ => ⟨iI (by omega) (by omega), hr _ (by rw [List.drop_length]; rfl)⟩⟩
  rw [q713 hj, List.map_cons, List.cons_append]; exact ⟨rfl, ⟨iI (by omega) (by omega), hr2 _ rfl⟩, trivial⟩
theorem q316 {im : List (List Sec)} {ls : List (List q8)} {p : Nat → Nat → Bool} {Φ : List q10 × Int → Prop} (hs : imgE im = 0) (h : RunsX im ls p) (hΦ : Φ (wrsX im ls, 0)) : Z107 im ls Φ := by
  have hl := q19 hs; rw [q15] at hl; obtain ⟨e1, e2⟩ := h.each hs
  have hlen : ∀ x ∈ ls, x.length ≤ 4096 := fun x hx => by
    obtain ⟨n, q, hn, rfl⟩ := e2 x hx; have := (q28 q n).len; omega
  have hvl := q445 (v := 0) hlen; refine q40 (by omega) ⟨fun q => absurd hs q, fun _ => q225 hs h ⟨fun q => absurd rfl q, fun _ => ⟨volD 0 ls, q623 e1 hlen, ?_⟩⟩⟩
  have hent : ∀ q ∈ volD 0 ls, ∃ j : Nat, j < im.length ∧ q.1 = (j : Int) ∧ 0 ≤ q.2.1.Start ∧ 0 < q.2.1.Count ∧ q.2.1.Start + q.2.1.Count ≤ ((ix im (j : Int)).length : Int) := fun q hq => by
    obtain ⟨j, h1, h2, h3⟩ := q274.1 hq; have hj : j < im.length := by have := h.len; omega
    rw [h.at_ j hj] at h3; have h4 := (q28 (p j) (ix im (j : Int)).length).low _ h3; exact ⟨j, hj, by rw [h2]; congr 1; omega, h4.1, (q28 (p j) (ix im (j : Int)).length).can.pos _ h3, h4.2⟩
  unfold wrsX at hΦ; generalize volD 0 ls = E at hvl hent hΦ; refine LoopW.upT E.length (fun k => (E.drop k, (E.take k).map (wrE im))) rfl (fun k rec hk hr => ?_) fun rec => ?_
  · have hk' := List.drop_eq_getElem_cons hk
    unfold Z106; rw [hk']; obtain ⟨j, h1, h2, h3, h4, h5⟩ := hent _ (List.getElem_mem hk); have hsm := q50 hs j h1; refine ⟨by rw [h2]; exact iX (by omega) (by omega), iI (by omega) (by omega), by rw [h2]; exact iS h3 (by omega) h5, (_, ()), q122 ?_ rfl, iL (by rw [List.length_append, List.length_map, List.length_take, List.length_singleton]; omega) (by omega), hr _ ?_⟩
    · rw [h2]
      unfold sub; rw [List.length_take, List.length_drop]; omega
    · rw [List.take_succ_eq_append_getElem hk, List.map_append]; rfl
  · unfold Z106
    rw [List.drop_length, List.take_length]; exact hΦ
theorem q795 {im : List Sec} {s c : Int} (h0 : 0 ≤ s) (hc : 0 ≤ c) (h : s + c ≤ (im.length : Int)) : ((sub im s (s + c)).length : Int) = c := by
  unfold sub; rw [List.length_take, List.length_drop]; omega
structure WrsX (im : List (List Sec)) (p : Nat → Nat → Bool) (l : List q10) : Prop where
  fit : ∀ w ∈ l, fitW (szs im) w = 0
  ord : wrsE (szs im) l = 0
  len : l.length ≤ 32768
  dat : ∀ w ∈ l, w.Data.length ≤ 4096
  cov : ∀ v i : Nat, v < im.length → i < (ix im (v : Int)).length → ((∃ w ∈ l, covW w v i) ↔ p v i = true)
  val : ∀ w ∈ l, ∀ v i : Nat, covW w v i → ix w.Data ((i : Int) - w.Start) = sec im v i
theorem ix_sub {α : Type} [Dt α] {xs : List α} {s c : Int} {i : Nat} (h0 : 0 ≤ s) (h1 : s ≤ (i : Int)) (h2 : (i : Int) < s + c) : ix (sub xs s (s + c)) ((i : Int) - s) = ix xs (i : Int) := by
  obtain ⟨a, rfl⟩ := Int.eq_ofNat_of_zero_le h0; have e : ((i : Int) - ((a : Nat) : Int)) = ((i - a : Nat) : Int) := by omega
  rw [e, q479, q479]; unfold sub; rw [List.getD_eq_getElem?_getD, List.getD_eq_getElem?_getD, List.getElem?_take_of_lt (by omega), List.getElem?_drop]
  congr 2
  omega
theorem q736 {im : List (List Sec)} {ls : List (List q8)} {p : Nat → Nat → Bool} (hs : imgE im = 0) (h : RunsX im ls p) : WrsX im p (wrsX im ls) ∧ ((wrsX im ls).map fun w => (w.Data.length : Int)).sum = cntS ls := by
  have hl := q19 hs; rw [q15] at hl; obtain ⟨e1, e2⟩ := h.each hs
  have hlen : ∀ x ∈ ls, x.length ≤ 4096 := fun x hx => by
    obtain ⟨n, q, hn, rfl⟩ := e2 x hx; have := (q28 q n).len; omega
  have hcan : ∀ x ∈ ls, CanE x := fun x hx => by
    obtain ⟨n, q, hn, rfl⟩ := e2 x hx; exact (q28 q n).can
  have hvl := q445 (v := 0) hlen; have hasc := q603 (v := 0) hcan
  have hent : ∀ q ∈ volD 0 ls, ∃ j : Nat, j < im.length ∧ q.1 = (j : Int) ∧ 0 ≤ q.2.1.Start ∧ 0 < q.2.1.Count ∧ q.2.1.Start + q.2.1.Count ≤ ((ix im (j : Int)).length : Int) ∧ q.2.1 ∈ runX (ix im (j : Int)).length (p j) := fun q hq => by
    obtain ⟨j, h1, h2, h3⟩ := q274.1 hq; have hj : j < im.length := by have := h.len; omega
    rw [h.at_ j hj] at h3; have h4 := (q28 (p j) (ix im (j : Int)).length).low _ h3; exact ⟨j, hj, by rw [h2]; congr 1; omega, h4.1, (q28 (p j) (ix im (j : Int)).length).can.pos _ h3, h4.2, h3⟩
  have hdl : ∀ q ∈ volD 0 ls, ((wrE im q).Data.length : Int) = q.2.1.Count := fun q hq => by
    obtain ⟨j, h1, h2, h3, h4, h5, _⟩ := hent q hq; show ((sub (ix im q.1) q.2.1.Start (q.2.1.Start + q.2.1.Count)).length : Int) = _; rw [h2]; exact q795 h3 (by omega) h5
  have hfit : ∀ q ∈ volD 0 ls, fitW (szs im) (wrE im q) = 0 := fun q hq => by
    obtain ⟨j, h1, h2, h3, h4, h5, _⟩ := hent q hq; have h6 := hdl q hq
    have e : ix (szs im) (wrE im q).Volume = ((ix im (j : Int)).length : Int) := by
      show ix (szs im) q.1 = _; rw [h2, q88 h1]
    unfold fitW; rw [e, q15, h6]; show (if q.1 < 0 ∨ (im.length : Int) ≤ q.1 then 7 else if q.2.1.Count = 0 then 1 else if q.2.1.Start < 0 ∨ _ - q.2.1.Start < q.2.1.Count then 2 else 0) = (0 : Int)
    rw [if_neg (by omega), if_neg (by omega), if_neg (by omega)]
  refine ⟨⟨fun w hw => ?_, ?_, ?_, fun w hw => ?_, fun v i hv hi => ?_, fun w hw v i hc => ?_⟩, ?_⟩
  · obtain ⟨q, hq, rfl⟩ := List.mem_map.1 hw; exact hfit q hq
  · unfold wrsE
    refine q46.2 fun k hk => ?_; unfold wrsX at hk ⊢; rw [List.length_map] at hk; have ek : ∀ {j : Nat} (hj : j < (volD 0 ls).length), ix ((volD 0 ls).map (wrE im)) (j : Int) = wrE im (volD 0 ls)[j] := fun {j} hj => by rw [q34 (by rw [List.length_map]; exact hj), List.getElem_map]
    unfold ordW; rw [ek hk, if_neg (fun q => q (hfit _ (List.getElem_mem hk)))]; by_cases h0 : k = 0
    · rw [if_pos h0]
    · rw [if_neg h0, show ((k : Int) - 1) = ((k - 1 : Nat) : Int) by omega, ek (show k - 1 < _ by omega), hdl _ (List.getElem_mem _)]
      have := List.pairwise_iff_getElem.1 hasc (k - 1) k (by omega) hk (by omega)
      exact if_neg (by
        show ¬ ((volD 0 ls)[k].1 < (volD 0 ls)[k - 1].1 ∨ (volD 0 ls)[k].1 = (volD 0 ls)[k - 1].1 ∧ (volD 0 ls)[k].2.1.Start ≤ (volD 0 ls)[k - 1].2.1.Start + (volD 0 ls)[k - 1].2.1.Count)
        omega)
  · unfold wrsX; rw [List.length_map]; omega
  · obtain ⟨q, hq, rfl⟩ := List.mem_map.1 hw
    obtain ⟨j, h1, h2, h3, h4, h5, _⟩ := hent q hq; have := hdl q hq; have := q50 hs j h1; omega
  · have hr := q28 (p v) (ix im (v : Int)).length
    constructor
    · rintro ⟨w, hw, c1, c2, c3⟩
      obtain ⟨q, hq, rfl⟩ := List.mem_map.1 hw; obtain ⟨j, h1, h2, h3, h4, h5, h6⟩ := hent q hq
      have hjv : j = v := by
        have : q.1 = (v : Int) := c1; omega
      subst hjv; rw [hdl q hq] at c3; obtain ⟨i', g1, g2, g3⟩ := (hr.mem (i : Int)).1 ⟨q.2.1, h6, c2, c3⟩; obtain rfl : i = i' := by omega
      exact g2
    · intro hp
      obtain ⟨e, he, h1, h2⟩ := (hr.mem (i : Int)).2 ⟨i, hi, hp, rfl⟩; have hq : (((v : Int), e, ()) : EntX) ∈ volD 0 ls := q274.2 ⟨v, by have := h.len; omega, by show (v : Int) = _; congr 1; omega, by rw [h.at_ v hv]; exact he⟩; refine ⟨wrE im ((v : Int), e, ()), List.mem_map.2 ⟨_, hq, rfl⟩, rfl, h1, ?_⟩; rw [hdl _ hq]; exact h2
  · obtain ⟨q, hq, rfl⟩ := List.mem_map.1 hw
    obtain ⟨j, h1, h2, h3, h4, h5, h6⟩ := hent q hq; obtain ⟨c1, c2, c3⟩ := hc; rw [hdl q hq] at c3; have c1 : q.1 = (v : Int) := c1; show ix (sub (ix im q.1) q.2.1.Start (q.2.1.Start + q.2.1.Count)) ((i : Int) - q.2.1.Start) = ix (ix im (v : Int)) (i : Int); rw [c1]; exact ix_sub h3 c2 c3
  · unfold wrsX
    rw [List.map_map, ← q604 (v := 0)]
    congr 1
    exact List.map_congr_left fun q hq => hdl q hq
theorem q237 {l : List q10} {Φ : Int → Prop} (hl : l.length ≤ 100000) (hd : ∀ w ∈ l, w.Data.length ≤ 4096) (hΦ : Φ ((l.map fun w => (w.Data.length : Int)).sum)) : Z144 l Φ := by
  have hb : ∀ w ∈ l, 0 ≤ (w.Data.length : Int) ∧ (w.Data.length : Int) ≤ 4096 := fun w hw => by have := hd w hw; omega
  refine LoopW.upT l.length (fun j => (((l.take j).map fun w => (w.Data.length : Int)).sum, (j : Int))) rfl (fun j rec hj hr => ⟨fun u => ?_, fun u => absurd (show (j : Int) < (l.length : Int) by omega) u⟩) fun rec => ⟨fun u => absurd (show (l.length : Int) < (l.length : Int) from u) (by omega), fun _ => by rw [q31]; exact hΦ⟩
  have hp := q172 hb (by omega) j; have hw := hb _ (q45 (xs := l) (i := (j : Int)) (iX (by omega) (by omega))); exact ⟨iX (by omega) u, iI (by omega) (by omega), iI (by omega) (by omega), hr _ (by rw [q273 (fun w : q10 => (w.Data.length : Int)) hj]; rfl)⟩
theorem q375 {im : List (List Sec)} {w : q10} {Φ : Int → Prop} (hd : w.Data.length ≤ maxLen) (hv : ∀ k : Nat, k < im.length → (ix im (k : Int)).length ≤ 1000000) (h0 : fitW (szs im) w = 0 → Φ 0) (h1 : ∀ e, e ≠ 0 → Φ e) : q81 im w Φ := by
  simp only [maxLen] at hd
  have tail : 0 ≤ w.Volume → w.Volume < (im.length : Int) → q106 im w Φ false := fun q1 q2 => by
    obtain ⟨v, hvv⟩ := Int.eq_ofNat_of_zero_le q1; have hvl : v < im.length := by omega
    have hl := hv v hvl; have e : ix (szs im) w.Volume = ((ix im w.Volume).length : Int) := by rw [hvv, q88 hvl]
    have hl' : (ix im w.Volume).length ≤ 1000000 := by rw [hvv]; exact hl
    refine ⟨fun q => (by cases q), fun _ => ⟨fun _ => h1 1 (by omega), fun hz => ⟨fun _ => h1 2 (by omega), fun hst => ⟨iX q1 q2, iI (by omega) (by omega), fun _ => h1 2 (by omega), fun hlt => h0 ?_⟩⟩⟩⟩; unfold fitW; rw [e, q15, if_neg (by omega), if_neg (by omega), if_neg (by omega)]
  refine ⟨fun _ => ⟨fun _ => h1 7 (by omega), fun q => absurd rfl q⟩, fun q => ?_⟩; by_cases r : (im.length : Int) ≤ w.Volume
  · rw [decide_eq_true r]; exact ⟨fun _ => h1 7 (by omega), fun q => absurd rfl q⟩
  · rw [decide_eq_false r]; exact tail (by omega) (by omega)
theorem q376 {im : List (List Sec)} {l : List q10} {Φ : List (List Sec) × Int × Int → Prop} (him : im.length ≤ 100000) (hl : l.length ≤ maxLen) (hd : ∀ w ∈ l, w.Data.length ≤ maxLen) (h0 : imgE im = 0 → (∀ w ∈ l, fitW (szs im) w = 0) → Φ (appL im l, 0, 0)) (h1 : ∀ o i e, e ≠ 0 → Φ (o, i, e)) : q39 im l Φ := by
  simp only [maxLen] at hl; refine q40 him ⟨fun q => h1 _ _ _ q, fun hs => ?_⟩; have hs : imgE im = 0 := Classical.not_not.1 hs; refine q175 hs ?_; refine LoopW.upI l.length (fun k => (appL im (l.take k), (k : Int))) (fun k => ∀ w ∈ l.take k, fitW (szs im) w = 0) rfl (fun w hw => by cases hw) (fun k rec hk hI hr => ?_) fun rec hI => ⟨fun q => absurd (show (l.length : Int) < (l.length : Int) from q) (by omega), fun _ => by rw [q31] at hI ⊢; exact h0 hs hI⟩
  have e : szs (appL im (l.take k)) = szs im := q169 (by rw [show q25 (szs im) = 0 from hs]; simp) hI; have hs' : imgE (appL im (l.take k)) = 0 := by unfold imgE; rw [e]; exact hs
  refine ⟨fun _ => ⟨iX (by omega) (by omega), q375 (hd _ (q45 (iX (by omega) (by omega)))) (fun j hj => Nat.le_trans (q50 hs' j hj) (by omega)) (fun hf => ⟨fun q => absurd rfl q, fun _ => ?_⟩) fun e' he' => ⟨fun _ => h1 _ _ _ he', fun q => absurd he' q⟩⟩, fun q => absurd (show (k : Int) < (l.length : Int) by omega) q⟩; rw [e] at hf; obtain ⟨v, s, hfw⟩ := q287 (by rw [show q25 (szs im) = 0 from hs]; simp) hf; have hv := hfw.hv; have hle := hfw.le; rw [← e, q15] at hv; rw [← e, q88 hv] at hle; refine ⟨by rw [hfw.vol]; exact iX (by omega) (by omega), by rw [hfw.vol, hfw.start]; exact iS (by omega) (by omega) (by omega), iI (by omega) (by omega), hr (fun w hw => ?_) _ (by rw [q486 hk]; rfl)⟩; rw [q119 hk] at hw; rcases List.mem_append.1 hw with hw | hw
  · exact hI w hw
  · obtain rfl := List.mem_singleton.1 hw; exact hf
theorem q495 {im : List (List Sec)} {Φ : Bool → Prop} (h0 : Φ false) (h1 : im.length ≤ 9 → Φ true) : q234 im Φ := by
  refine ⟨fun _ => h0, fun q => ?_⟩; refine LoopW.upT im.length (fun k => (k : Int)) rfl (fun k rec hk hr => ⟨fun _ => ⟨iX (by omega) (by omega), fun _ => h0, fun _ => ⟨iI (by omega) (by omega), hr _ rfl⟩⟩, fun q => absurd (show (k : Int) < (im.length : Int) by omega) q⟩) fun rec => ⟨fun q => absurd (show (im.length : Int) < (im.length : Int) from q) (by omega), fun _ => h1 (by omega)⟩
structure q737 (x : q14) : Prop where
  im : imgE x.Common = 0
  old : ∀ w ∈ x.Old, fitW (szs x.Common) w = 0
  new : ∀ w ∈ x.New, fitW (szs x.Common) w = 0
  lold : x.Old.length ≤ 40
  lnew : x.New.length ≤ 40
theorem few_by {x : q14} {Φ : Bool → Prop} (hx : Rg.rg x) (h0 : Φ false) (h1 : q737 x → Φ true) : Z11 x Φ := by
  obtain ⟨_, r1, r2, r3⟩ := hx; refine q495 ⟨fun _ => h0, fun q => absurd (by simp) q⟩ fun h9 => ⟨fun q => absurd rfl q, fun _ => ⟨fun _ => h0, fun h6 => ⟨iL (by simp; omega) (by omega), ?_⟩⟩⟩
  have hX : ∀ y ∈ [x.Old, x.New] ++ x.Rounds, y.length ≤ maxLen ∧ ∀ w ∈ y, w.Data.length ≤ maxLen := fun y hy => by
    have : Rg.rg y := by
      rcases List.mem_append.1 hy with h | h
      · rcases List.mem_cons.1 h with rfl | h
        · exact r1
        · rw [List.mem_singleton.1 h]; exact r2
      · exact r3.2 y h
    exact ⟨this.1, fun w hw => (this.2 w hw).2.2.1⟩
  have hlen : ([x.Old, x.New] ++ x.Rounds).length = x.Rounds.length + 2 := by simp
  have e0 : ix ([x.Old, x.New] ++ x.Rounds) ((0 : Nat) : Int) = x.Old := rfl; have e1 : ix ([x.Old, x.New] ++ x.Rounds) ((1 : Nat) : Int) = x.New := rfl; refine LoopW.upI ([x.Old, x.New] ++ x.Rounds).length (fun k => (k : Int)) (fun k => ∀ j : Nat, j < k → imgE x.Common = 0 ∧ (ix ([x.Old, x.New] ++ x.Rounds) (j : Int)).length ≤ 40 ∧ ∀ w ∈ ix ([x.Old, x.New] ++ x.Rounds) (j : Int), fitW (szs x.Common) w = 0) rfl (fun j hj => absurd hj (Nat.not_lt_zero j)) (fun k rec hk hI hr => ?_) fun rec hI => ⟨fun q => absurd (show (([x.Old, x.New] ++ x.Rounds).length : Int) < (([x.Old, x.New] ++ x.Rounds).length : Int) from q) (by omega), fun _ => ?_⟩
  · have hm := hX _ (q45 (xs := [x.Old, x.New] ++ x.Rounds) (i := (k : Int)) (iX (by omega) (by omega)))
    refine ⟨fun q => ⟨iX (by omega) q, q376 (by omega) hm.1 hm.2 (fun hs hf => ?_) fun o i e he => ?_⟩, fun q => absurd (show (k : Int) < (([x.Old, x.New] ++ x.Rounds).length : Int) by omega) q⟩
    · refine q304 ⟨fun _ => h0, fun q => absurd (by simp) q⟩ fun hl _ => ⟨fun q => absurd rfl q, fun _ => ⟨fun q => absurd rfl q, fun _ => ⟨iI (by omega) (by omega), hr (fun j hj => ?_) _ rfl⟩⟩⟩
      rcases Nat.lt_or_ge j k with h | h
      · exact hI j h
      · obtain rfl : j = k := by omega
        exact ⟨hs, hl, hf⟩
    · exact q304 ⟨fun _ => h0, fun q => absurd (by simp) q⟩ fun hl _ => ⟨fun q => absurd rfl q, fun _ => ⟨fun _ => h0, fun q => absurd he q⟩⟩
  · have a0 := hI 0 (by omega)
    have a1 := hI 1 (by omega); rw [e0] at a0; rw [e1] at a1; exact h1 ⟨a0.1, a0.2.2, a1.2.2, a0.2.1, a1.2.1⟩
def trk1 (sz : List Int) (s : Int) (D : List q9) : q13 := ⟨sz, [⟨s, 5, D⟩]⟩
theorem q537 {sz : List Int} {s : Int} {D : List q9} (hs : q25 sz = 0) (hD : BmsOk sz D) (h0 : 0 ≤ s) (h4 : s < 4) : TrkOk (trk1 sz s D) := by
  refine ⟨hs, by show 1 ≤ 4; omega, fun k hk => ?_, fun k hk => ?_, fun k hk => ?_, fun i j hij hj => ?_⟩
  · have hk : k < 1 := hk
    obtain rfl : k = 0 := by omega
    exact hD
  · have hk : k < 1 := hk
    obtain rfl : k = 0 := by omega
    exact ⟨h0, h4⟩
  · have hk : k < 1 := hk
    obtain rfl : k = 0 := by omega
    exact ⟨by show (0 : Int) ≤ 5; omega, by show (5 : Int) ≤ _; omega⟩
  · have hj : j < 1 := hj
    omega
theorem write1 {sz : List Int} {s : Int} {D : List q9} {w : q10} (h : TrkOk (trk1 sz s D)) (hw : fitW sz w = 0) : q493 (trk1 sz s D) w = (trk1 sz s (markL D [w]), 0) := by
  unfold q493; rw [if_neg (by rw [q827 h]; simp), if_neg (by show ¬ fitW sz w ≠ 0; rw [hw]; simp)]; rfl
theorem dirty1 {sz : List Int} {s : Int} {D : List q9} (h : TrkOk (trk1 sz s D)) : q599 (trk1 sz s D) s = (D, 5, 0) := by
  have f : fndK (trk1 sz s D).Peers s = 0 := by unfold fndK trk1; simp [List.findIdx_cons]
  unfold q599; rw [if_neg (by rw [q827 h]; simp), f, if_pos (by show 0 < 1; omega)]; rfl
theorem q829 {sz : List Int} {s : Int} {D : List q9} (h : TrkOk (trk1 sz s D)) : ∀ p ∈ (trk1 sz s D).Peers, p.Dirty.length ≤ 100000 := fun p hp => by
  have := (h.small.2.2 p hp).1; omega
theorem q738 (C : List q9) {l : List q10} {k : Nat} (hk : k < l.length) : markL (markL C (l.take k)) [ix l (k : Int)] = markL C (l.take (k + 1)) := by
  rw [q618 C hk]; rfl
theorem new1 {sz : List Int} {s : Int} (hs : q25 sz = 0) (h : s = 0 ∨ s = 1) : newT sz [s] 5 = (trk1 sz s (sz.map newB), 0) := by
  rcases h with rfl | rfl <;>
  · unfold newT
    rw [if_neg (by rw [hs]; simp), if_neg (by show ¬ (4 : Int) < 1; omega), if_neg (by decide), if_neg (by decide), if_neg (by omega)]; rfl
theorem q364 {sz : List Int} {s : Int} {l : List q10} {Φ : q13 × Bool → Prop} (hs : q25 sz = 0) (h : s = 0 ∨ s = 1) (hf : ∀ w ∈ l, fitW sz w = 0) (hl : l.length ≤ 40) (hΦ : Φ (trk1 sz s (markL (sz.map newB) l), true)) : Z39 sz s 5 l Φ := by
  refine q372 ?_; rw [new1 hs h]; refine LoopW.upT l.length (fun k => ((0 : Int), (k : Int), sz, (trk1 sz s (markL (sz.map newB) (l.take k))).Peers)) rfl (fun k rec hk hr => ⟨fun q => ⟨iX (by omega) q, fun _ => ?_, fun q => absurd rfl q⟩, fun q => absurd (show (k : Int) < (l.length : Int) by omega) q⟩) fun rec => ⟨fun q => absurd (show (l.length : Int) < (l.length : Int) from q) (by omega), fun _ => by rw [q31]; exact hΦ⟩
  have hw := hf _ (q45 (xs := l) (i := (k : Int)) (iX (by omega) (by omega))); have ht := q537 (s := s) hs (q214 (q61 hs).toBmsOk fun w hw => hf w (List.mem_of_mem_take (i := k) hw)) (by omega) (by omega); refine q313 (q829 ht) (by have := q596 hs hw; omega) ?_; show (fun v6 => inI ((k : Int) + 1) ∧ rec (v6.2, (k : Int) + 1, v6.1.Sizes, v6.1.Peers)) (q493 (trk1 sz s (markL (sz.map newB) (l.take k))) (ix l (k : Int))); rw [write1 ht hw, q738 _ hk]; exact ⟨iI (by omega) (by omega), hr _ rfl⟩
theorem q365 {sz : List Int} {s site : Int} {lin : List q23} {D : List q9} {im : List (List Sec)} {Φ : q16 × Bool → Prop} (h : TrkOk (trk1 sz s D)) (hΦ : Φ (⟨site, lin, D, im⟩, true)) : Z42 site lin (trk1 sz s D) s im Φ := by
  refine q312 (q829 h) ?_; rw [dirty1 h]; exact hΦ
theorem q538 {im : List (List Sec)} {Φ : List Int → Prop} (hl : im.length ≤ 100000) (hΦ : Φ (szs im)) : Z13 im Φ := by
  refine LoopW.upT im.length (fun k => ((k : Int), (im.take k).map fun v => (v.length : Int))) rfl (fun k rec hk hr => ⟨fun q => ⟨iX (by omega) q, iL (by simp; omega) (by omega), iI (by omega) (by omega), hr _ (by rw [q27 (fun v : List Sec => (v.length : Int)) hk]; rfl)⟩, fun q => absurd (show (k : Int) < (im.length : Int) by omega) q⟩) fun rec => ⟨fun q => absurd (show (im.length : Int) < (im.length : Int) from q) (by omega), fun _ => by rw [q31]; exact hΦ⟩
def linA : List q23 := [⟨1, 1, 7⟩]
def linB : List q23 := [⟨1, 1, 5⟩, ⟨2, 6, 9⟩]
def ptA (x : q14) : q16 := ⟨0, linA, markL ((szs x.Common).map newB) x.Old, appL x.Common x.Old⟩
def ptB (x : q14) : q16 := ⟨1, linB, markL ((szs x.Common).map newB) x.New, appL x.Common x.New⟩
theorem q624 {x : q14} {Φ : q16 × q16 × q13 × Bool → Prop} (h : q737 x) (hΦ : ∀ t, Φ (ptA x, ptB x, t, true)) : Z43 x Φ := by
  have hl := q19 h.im; rw [q15] at hl; have hs : q25 (szs x.Common) = 0 := h.im; have b0 := q214 (q61 hs).toBmsOk h.old; have b1 := q214 (q61 hs).toBmsOk h.new; refine q538 (by omega) (q138 (by have := h.lold; omega) h.im h.old (q138 (by have := h.lnew; omega) h.im h.new ?_)); refine q364 hs (.inr rfl) h.old h.lold (q364 hs (.inl rfl) h.new h.lnew ?_); refine q365 (q537 hs b0 (by omega) (by omega)) (q365 (q537 hs b1 (by omega) (by omega)) ?_); exact ⟨fun _ => ⟨fun _ => ⟨fun _ => ⟨fun _ => ⟨fun _ => hΦ _, fun q => absurd rfl q⟩, fun q => absurd rfl q⟩, fun q => absurd rfl q⟩, fun q => absurd rfl q⟩, fun q => absurd rfl q⟩
theorem q173 {a b : Int} {Φ : Bool → Prop} (h1 : b ≤ a) (h2 : a ≤ 1073741824) (hΦ : Φ true) : q211 a b Φ := ⟨fun _ => by rw [decide_eq_true h2]; exact hΦ, fun q => absurd h1 q⟩
theorem corA {Φ : Bool → Prop} (hΦ : Φ true) : Z45 linA Φ := by
  refine ⟨2, ⟨fun _ => ⟨iX (by omega) (by decide), iI (by omega) (by omega), fun q => absurd rfl q, fun _ => ⟨fun q => absurd q (by decide), fun _ => ⟨fun q => absurd q (by decide), fun _ => q173 (by decide) (by decide) ⟨fun q => absurd rfl q, fun _ => ⟨fun q => absurd q (by decide), fun _ => ⟨iI (by omega) (by omega), ?_⟩⟩⟩⟩⟩⟩, fun q => absurd (show (0 : Int) < (linA.length : Int) by decide) q⟩⟩; exact ⟨fun q => absurd q (by decide), fun _ => hΦ⟩
theorem corB {Φ : Bool → Prop} (hΦ : Φ true) : Z45 linB Φ := by
  refine ⟨3, ⟨fun _ => ⟨iX (by omega) (by decide), iI (by omega) (by omega), fun q => absurd rfl q, fun _ => ⟨fun q => absurd q (by decide), fun _ => ⟨fun q => absurd q (by decide), fun _ => q173 (by decide) (by decide) ⟨fun q => absurd rfl q, fun _ => ⟨fun q => absurd q (by decide), fun _ => ⟨iI (by omega) (by omega), ?_⟩⟩⟩⟩⟩⟩, fun q => absurd (show (0 : Int) < (linB.length : Int) by decide) q⟩⟩; refine ⟨fun _ => ⟨iX (by omega) (by decide), iI (by decide) (by decide), fun q => absurd (show (ix linB (0 + 1)).From = (ix linB 0).To + 1 from rfl) q, fun _ => ⟨fun q => absurd q (by decide), fun _ => ⟨fun q => absurd q (by decide), fun _ => q173 (by decide) (by decide) ⟨fun q => absurd rfl q, fun _ => ⟨fun q => absurd q (by decide), fun _ => ⟨iI (by omega) (by omega), ?_⟩⟩⟩⟩⟩⟩, fun q => absurd (show (0 + 1 : Int) < (linB.length : Int) by decide) q⟩; exact ⟨fun q => absurd q (by decide), fun _ => hΦ⟩
theorem headA {Φ : Int × Int → Prop} (hΦ : Φ (1, 7)) : Z59 linA Φ := ⟨fun q => absurd q (by decide), fun _ => ⟨iI (by decide) (by decide), iX (by decide) (by decide), hΦ⟩⟩
theorem headB {Φ : Int × Int → Prop} (hΦ : Φ (2, 9)) : Z59 linB Φ := ⟨fun q => absurd q (by decide), fun _ => ⟨iI (by decide) (by decide), iX (by decide) (by decide), hΦ⟩⟩
theorem q226 {p : q16} {Φ : Int → Prop} (h0 : 0 ≤ p.Site) (h1 : p.Site ≤ 3) (hc : ∀ Φ : Bool → Prop, Φ true → Z45 p.Lineage Φ) (hs : imgE p.Image = 0) (hD : BmsOk (szs p.Image) p.Dirty) (hΦ : Φ 0) : q87 p Φ := by
  have hl := q19 hs; rw [q15] at hl; have hDl := hD.len; rw [q15] at hDl; refine q173 h0 (by omega) ⟨fun q => absurd rfl q, fun _ => hc _ ⟨fun q => absurd rfl q, fun _ => q40 (by omega) ⟨fun q => absurd hs q, fun _ => ⟨fun q => absurd (by rw [hDl]) q, fun _ => ?_⟩⟩⟩⟩; refine LoopW.upT p.Dirty.length (fun k => (k : Int)) rfl (fun k rec hk hr => ⟨fun q => ⟨iX (by omega) q, q35 ?_⟩, fun q => absurd (show (k : Int) < (p.Dirty.length : Int) by omega) q⟩) fun rec => ⟨fun q => absurd (show (p.Dirty.length : Int) < (p.Dirty.length : Int) from q) (by omega), fun _ => hΦ⟩
  obtain ⟨c1, c2⟩ := hD.chk k (by rw [q15]; omega); rw [q88 (by omega)] at c2; exact ⟨fun q => absurd c1 q, fun _ => ⟨iX (by omega) (by omega), fun q => absurd c2 q, fun _ => ⟨iI (by omega) (by omega), hr _ rfl⟩⟩⟩
theorem q377 {a b : List (List Sec)} {Φ : Bool → Prop} (hs : imgE a = 0) (h : szs a = szs b) (hΦ : Φ true) : q162 a b Φ := by
  have hl := q19 hs; rw [q15] at hl; obtain ⟨h1, h2⟩ := q272 h; refine ⟨fun q => absurd (by rw [h1]) q, fun _ => LoopW.upT a.length (fun k => (k : Int)) rfl (fun k rec hk hr => ⟨fun q => ⟨iX (by omega) q, iX (by omega) (by omega), ?_⟩, fun q => absurd (show (k : Int) < (a.length : Int) by omega) q⟩) fun rec => ⟨fun q => absurd (show (a.length : Int) < (a.length : Int) from q) (by omega), fun _ => hΦ⟩⟩; have hz : decide (((ix a (k : Int)).length : Int) = ((ix b (k : Int)).length : Int)) = true := decide_eq_true (by rw [h2 k hk]); exact ⟨fun q => absurd hz q, fun _ => ⟨iI (by omega) (by omega), hr _ rfl⟩⟩
def mrkX (D E : List q9) : List (List q8) := (List.range D.length).map fun v : Nat => exts (orB (ix D (v : Int)) (ix E (v : Int))).1
theorem q739 {α : Type} [Dt α] (f : Nat → α) (z : α) {n k : Nat} (h : k < n) : put ((List.range k).map f ++ List.replicate (n - k) z) (k : Int) (f k) = (List.range (k + 1)).map f ++ List.replicate (n - (k + 1)) z := by
  rw [q528, q139, show n - k = (n - (k + 1)) + 1 by omega, List.replicate_succ]; have hl : ((List.range k).map f).length = k := by simp
  rw [List.set_append_right _ _ (by omega), hl, Nat.sub_self, List.set_cons_zero, List.append_assoc]; rfl
theorem q366 {a b : q16} {G : List (List q8) → Prop} (hl : a.Dirty.length ≤ 100000) (hlb : b.Dirty.length = a.Dirty.length) (hG : G (mrkX a.Dirty b.Dirty)) : Z55 a b G := by
  have e : (a.Dirty.length : Int).toNat = a.Dirty.length := by simp
  refine ⟨by omega, iL (by rw [e]; omega) (by omega), ?_⟩; rw [e]; refine LoopW.upT a.Dirty.length (fun k => ((k : Int), (List.range k).map (fun v : Nat => exts (orB (ix a.Dirty (v : Int)) (ix b.Dirty (v : Int))).1) ++ List.replicate (a.Dirty.length - k) [])) (by simp) (fun k rec hk hr => ?_) fun rec => ?_
  · have hll : ((List.replicate (a.Dirty.length : Int).toNat (([] : List q8) : List q8)).length : Int) = a.Dirty.length := by simp
    refine ⟨fun _ => ⟨iX (by omega) (by omega), iX (by omega) (by omega), ((orB (ix a.Dirty (k : Int)) (ix b.Dirty (k : Int))).1, (orB (ix a.Dirty (k : Int)) (ix b.Dirty (k : Int))).2, ()), q482 rfl, q291 ⟨iX (by omega) (by simp; omega), iI (by omega) (by omega), hr _ ?_⟩⟩, fun q => absurd (by rw [hll]; omega) q⟩; rw [q739 (fun v : Nat => exts (orB (ix a.Dirty (v : Int)) (ix b.Dirty (v : Int))).1) [] hk]; rfl
  · have hll : ((List.replicate (a.Dirty.length : Int).toNat (([] : List q8) : List q8)).length : Int) = a.Dirty.length := by simp
    refine ⟨fun q => absurd q (by rw [hll]; omega), fun _ => ?_⟩; rw [Nat.sub_self, List.replicate_zero, List.append_nil]; exact hG
theorem q740 {im : List (List Sec)} {D E : List q9} {P Q : Nat → Nat → Prop} (hD : q357 (szs im) D P) (hE : q357 (szs im) E Q) : RunsX im (mrkX D E) (fun v i => bitN (orB (ix D (v : Int)) (ix E (v : Int))).1.Words i) ∧ ∀ v i : Nat, v < im.length → i < (ix im (v : Int)).length → (bitN (orB (ix D (v : Int)) (ix E (v : Int))).1.Words i = true ↔ P v i ∨ Q v i) := by
  have hl := hD.len; rw [q15] at hl; have key : ∀ v : Nat, v < im.length → _ := fun v hv => orB_ok (hD.chk v (by rw [q15]; exact hv)).1 (hE.chk v (by rw [q15]; exact hv)).1 ((hD.chk v (by rw [q15]; exact hv)).2.trans (hE.chk v (by rw [q15]; exact hv)).2.symm)
  have size : ∀ v : Nat, v < im.length → (ix D (v : Int)).Size = ((ix im (v : Int)).length : Int) := fun v hv => by
    rw [(hD.chk v (by rw [q15]; exact hv)).2, q88 hv]
  refine ⟨⟨by unfold mrkX; simp; exact hl, fun v hv => ?_⟩, fun v i hv hi => ?_⟩
  · obtain ⟨_, k2, k3, _⟩ := key v hv
    unfold mrkX; rw [q305 _ (by omega)]; exact q790 k2 (by rw [k3, size v hv])
  · obtain ⟨_, _, _, k4⟩ := key v hv
    rw [k4 i (by rw [size v hv]; omega), hD.bit v i (by rw [q15]; exact hv) (by rw [q88 hv]; omega), hE.bit v i (by rw [q15]; exact hv) (by rw [q88 hv]; omega)]
theorem q796 {x : q14} {Φ : q26 × List (List q8) × Int → Prop} (h : q737 x) (hΦ : ∀ p, Φ (p, mrkX (ptA x).Dirty (ptB x).Dirty, 0)) : Z64 (ptA x) (ptB x) 3 Φ := by
  have hl := q19 h.im; rw [q15] at hl; have hs : q25 (szs x.Common) = 0 := h.im; have hs' : ¬ q25 (szs x.Common) ≠ 0 := by rw [hs]; simp
  have b0 := q214 (q61 hs).toBmsOk h.old; have b1 := q214 (q61 hs).toBmsOk h.new; have e0 : szs (ptA x).Image = szs x.Common := q169 hs' h.old; have e1 : szs (ptB x).Image = szs x.Common := q169 hs' h.new; have i0 : imgE (ptA x).Image = 0 := by unfold imgE; rw [e0]; exact hs
  have i1 : imgE (ptB x).Image = 0 := by unfold imgE; rw [e1]; exact hs
  have hA : ∀ Ψ : Int → Prop, Ψ 0 → q87 (ptA x) Ψ := fun Ψ hq => q226 (by show (0 : Int) ≤ 0; omega) (by show (0 : Int) ≤ 3; omega) (fun _ q => corA q) i0 (by rw [e0]; exact b0) hq; have hB : ∀ Ψ : Int → Prop, Ψ 0 → q87 (ptB x) Ψ := fun Ψ hq => q226 (by show (0 : Int) ≤ 1; omega) (by show (1 : Int) ≤ 3; omega) (fun _ q => corB q) i1 (by rw [e1]; exact b1) hq; have d0 : (ptA x).Dirty.length = x.Common.length := by have := b0.len; rw [q15] at this; exact this
  have d1 : (ptB x).Dirty.length = x.Common.length := by have := b1.len; rw [q15] at this; exact this
  have anc : ∀ Ψ : Int × Int → Prop, (∀ v, Ψ v) → Z63 linA linB Ψ := fun Ψ hq => by
    refine corA ⟨fun q => absurd rfl q, fun _ => corB ?_⟩; refine ⟨fun _ => hq _, fun _ => ?_⟩; refine ⟨1, ?_⟩; have J : Z60 linA linB 0 0 0 (LoopN (Z61 linA linB Ψ) 0) Ψ true := ⟨fun _ => ⟨iX (by omega) (by decide), iX (by omega) (by decide), iX (by omega) (by decide), iX (by omega) (by decide), iX (by omega) (by decide), fun _ => hq _, fun q => absurd (by decide) q⟩, fun q => absurd rfl q⟩
    exact ⟨fun _ => ⟨iX (by omega) (by decide), iX (by omega) (by decide), J⟩, fun q => absurd (by decide) q⟩
  -- the body
  have rest : (fun v1 : List (List q8) × Int => (¬ (v1.2 = 0) → False) ∧ (¬ (¬ (v1.2 = 0)) → Z58 (ptA x).Site fun v2 => (v2 = true → Z58 (ptB x).Site fun v3 => (¬ (v3 = true) → False) ∧ (¬ (¬ (v3 = true)) → (¬ ((ptA x).Site ≠ (ptB x).Site) → False) ∧ (¬ (¬ ((ptA x).Site ≠ (ptB x).Site)) → Z59 (ptA x).Lineage fun v4 => Z59 (ptB x).Lineage fun v5 => (v4.1 < 3 → (¬ (v5.1 < 3) → False) ∧ (¬ (¬ (v5.1 < 3)) → (¬ ((3 : Int) ≤ 1073741824) → False) ∧ (¬ (¬ ((3 : Int) ≤ 1073741824)) → Z63 (ptA x).Lineage (ptB x).Lineage fun v6 => ((0 : Int) ≠ 0 → Φ ((q26.mk 0 0 0 0 0 0 false false), ([] : List (List q8)), 0)) ∧ (¬ ((0 : Int) ≠ 0) → Φ ((q26.mk 3 (ptB x).Site (ptA x).Site 0 3 v6.1 false false), v1.1, 0))))) ∧ (¬ (v4.1 < 3) → False)))) ∧ (¬ (v2 = true) → False))) (mrkX (ptA x).Dirty (ptB x).Dirty, 0) := by
    refine ⟨fun q => absurd rfl q, fun _ => ⟨fun _ => ?_, fun q => absurd (show (0 : Int) ≤ 0 by omega) q⟩⟩; rw [decide_eq_true (show (ptA x).Site < 4 by show (0 : Int) < 4; omega)]; refine ⟨fun _ => ⟨fun _ => ?_, fun q => absurd (show (0 : Int) ≤ 1 by omega) q⟩, fun q => absurd rfl q⟩; rw [decide_eq_true (show (ptB x).Site < 4 by show (1 : Int) < 4; omega)]; refine ⟨fun q => absurd rfl q, fun _ => ⟨fun q => absurd (show (0 : Int) ≠ 1 by omega) q, fun _ => ?_⟩⟩; refine headA (headB ?_); exact ⟨fun _ => ⟨fun q => absurd (show (2 : Int) < 3 by omega) q, fun _ => ⟨fun q => absurd (show (3 : Int) ≤ 1073741824 by omega) q, fun _ => anc _ fun v => ⟨fun q => absurd rfl q, fun _ => hΦ _⟩⟩⟩, fun q => absurd (show (1 : Int) < 3 by omega) q⟩
  refine ⟨3, ⟨fun _ => ⟨iX (by omega) (by simp), hA _ ⟨fun q => absurd rfl q, fun _ => ⟨iI (by omega) (by omega), ?_⟩⟩⟩, fun q => absurd (show (0 : Int) < _ by simp) q⟩⟩; refine ⟨fun _ => ⟨iX (by omega) (by simp), hB _ ⟨fun q => absurd rfl q, fun _ => ⟨iI (by omega) (by omega), ?_⟩⟩⟩, fun q => absurd (show (0 : Int) + 1 < _ by simp) q⟩; refine ⟨fun q => absurd q (by simp), fun _ => q377 i0 (e0.trans e1.symm) ⟨fun q => absurd rfl q, fun _ => q366 (by omega) (by omega) rest⟩⟩
theorem q496 {im : List (List Sec)} {p : Nat → Nat → Bool} {l : List q10} (hs : imgE im = 0) (h : WrsX im p l) : cycE ⟨5, 10, 0, [], l⟩ (szs im) = 0 := by
  unfold cycE; rw [if_neg (by rw [show q25 (szs im) = 0 from hs]; simp), if_neg (by show ¬ ((5 : Int) < 0 ∨ (10 : Int) ≤ 5 ∨ (1073741824 : Int) < 10); omega), if_neg (by show ¬ ((0 : Int) < 0 ∨ (1073741824 : Int) < 0); omega), if_neg (by rw [posR0]; simp [posE, q101])]; exact h.ord
theorem q605 {im : List (List Sec)} {k : Nat} (hk : k < im.length) : (im.take (k + 1)).map (fun v => (v.length : Int)) = (im.take k).map (fun v => (v.length : Int)) ++ [((ix im (k : Int)).length : Int)] := q27 (fun v : List Sec => (v.length : Int)) hk
theorem q367 {im : List (List Sec)} {ls : List (List q8)} {p : Nat → Nat → Bool} {Φ : q21 × Int → Prop} (hs : imgE im = 0) (h : RunsX im ls p) (hΦ : Φ (⟨5, 10, 0, [], wrsX im ls⟩, 0)) : Z116 im ls 5 10 0 [] Φ := by
  have hl := q19 hs; rw [q15] at hl; have hw := (q736 hs h).1; refine q316 hs h ⟨fun q => absurd rfl q, fun _ => q79 (by simp) ?_⟩; refine LoopW.upT im.length (fun k => ((k : Int), (im.take k).map fun v => (v.length : Int))) rfl (fun k rec hk hr => ⟨fun q => ⟨iX (by omega) q, iL (by simp; omega) (by omega), iI (by omega) (by omega), hr _ (by rw [q605 hk]; rfl)⟩, fun q => absurd (show (k : Int) < (im.length : Int) by omega) q⟩) fun rec => ⟨fun q => absurd (show (im.length : Int) < (im.length : Int) from q) (by omega), fun _ => ?_⟩
  rw [q31]; refine q224 (by simp) (by have := hw.len; show (wrsX im ls).length ≤ _; omega) (fun w hq => by have := hw.dat w hq; omega) ?_; have hz : cycE ⟨5, 10, 0, [], (wrsX im ls, (0 : Int)).1⟩ (im.map fun v => (v.length : Int)) = 0 := q496 hs hw; exact ⟨fun q => absurd hz q, fun _ => hΦ⟩
theorem q378 {im : List (List Sec)} {c : q21} {Φ : List (List Sec) × Int → Prop} (hs : imgE im = 0) (hp : c.Positions.length ≤ 100000) (hl : c.Writes.length ≤ 100000) (hd : ∀ w ∈ c.Writes, w.Data.length ≤ 1000000) (hf : ∀ w ∈ c.Writes, fitW (szs im) w = 0) (hc : cycE c (szs im) = 0) (hΦ : Φ (appL im c.Writes, 0)) : q164 im c Φ := by
  have h8 := q19 hs; rw [q15] at h8; refine q40 (by omega) ⟨fun q => absurd hs q, fun _ => ?_⟩; refine LoopW.upT im.length (fun k => ((k : Int), (im.take k).map fun v => (v.length : Int))) rfl (fun k rec hk hr => ⟨fun q => ⟨iX (by omega) q, iL (by simp; omega) (by omega), iI (by omega) (by omega), hr _ (by rw [q605 hk]; rfl)⟩, fun q => absurd (show (k : Int) < (im.length : Int) by omega) q⟩) fun rec => ⟨fun q => absurd (show (im.length : Int) < (im.length : Int) from q) (by omega), fun _ => ?_⟩
  rw [q31]; refine q224 hp hl hd ?_; have hz : cycE c (im.map fun v => (v.length : Int)) = 0 := hc; exact ⟨fun q => absurd hz q, fun _ => q138 (by omega) hs hf hΦ⟩
theorem q379 {c : q21} {Φ : Int → Prop} (hl : c.Writes.length ≤ 100000) (hd : ∀ w ∈ c.Writes, w.Data.length ≤ 4096) (hΦ : Φ ((c.Writes.map fun w => (w.Data.length : Int)).sum)) : Z146 [c] Φ := by
  have hb : ∀ w ∈ c.Writes, 0 ≤ (w.Data.length : Int) ∧ (w.Data.length : Int) ≤ 4096 := fun w hw => by have := hd w hw; omega
  have hs := q172 hb (by omega) c.Writes.length; rw [List.take_length] at hs; refine ⟨2, ⟨fun _ => ⟨iX (by omega) (by simp), q237 hl hd ⟨(show inI (0 + (c.Writes.map fun w => (w.Data.length : Int)).sum) from iI (by omega) (by omega)), iI (by omega) (by omega), ?_⟩⟩, fun q => absurd (show (0 : Int) < _ by simp) q⟩⟩; refine ⟨fun q => absurd q (by simp), fun _ => ?_⟩; show Φ (0 + _); rw [Int.zero_add]; exact hΦ
theorem q201 (x : q14) (hx : Rg.rg x) : Z168 x fun y => y = true := by
  refine few_by hx ⟨fun _ => rfl, fun q => absurd (by simp) q⟩ fun h => ⟨fun q => absurd rfl q, fun _ => q624 h fun t => q796 h fun p => ?_⟩
  have hs : q25 (szs x.Common) = 0 := h.im; have hs' : ¬ q25 (szs x.Common) ≠ 0 := by rw [hs]; simp
  have hl := q19 h.im; rw [q15] at hl; have e0 : szs (ptA x).Image = szs x.Common := q169 hs' h.old; have e1 : szs (ptB x).Image = szs x.Common := q169 hs' h.new; have i0 : imgE (ptA x).Image = 0 := by unfold imgE; rw [e0]; exact hs
  have i1 : imgE (ptB x).Image = 0 := by unfold imgE; rw [e1]; exact hs
  have m0 := q235 (q61 hs) h.old; have m1 := q235 (q61 hs) h.new; have eBA : szs (ptB x).Image = szs (ptA x).Image := e1.trans e0.symm; obtain ⟨hR, hM⟩ := q740 (im := (ptB x).Image) (D := (ptA x).Dirty) (E := (ptB x).Dirty) (by rw [e1]; exact m0) (by rw [e1]; exact m1)
  -- what differs is marked
  have hdm : ∀ v i : Nat, v < (ptB x).Image.length → i < (ix (ptB x).Image (v : Int)).length → difB (ix (ptB x).Image (v : Int)) (ix (ptA x).Image (v : Int)) i = true → bitN (orB (ix (ptA x).Dirty (v : Int)) (ix (ptB x).Dirty (v : Int))).1.Words i = true := fun v i hv hi hd => by
    rw [hM v i hv hi]; by_cases q0 : ∃ w ∈ x.Old, covT w v i
    · exact .inl (.inr q0)
    · by_cases q1 : ∃ w ∈ x.New, covT w v i
      · exact .inr (.inr q1)
      · exfalso
        refine of_decide_eq_true hd ?_; have a0 := q595 (v := v) (i := i) hs' h.old fun w hw hc => q0 ⟨w, hw, hc⟩; have a1 := q595 (v := v) (i := i) hs' h.new fun w hw hc => q1 ⟨w, hw, hc⟩; exact a1.trans a0.symm
  have hX : RunsX (ptB x).Image (difX (ptB x).Image (ptA x).Image) _ := q361; obtain ⟨hW, hsum⟩ := q736 i1 hX; refine q177 i1 eBA hR hdm (q367 i1 hX ?_); have hfA : ∀ w ∈ wrsX (ptB x).Image (difX (ptB x).Image (ptA x).Image), fitW (szs (ptA x).Image) w = 0 := fun w hw => by rw [← eBA]; exact hW.fit w hw
  refine q378 i0 (by simp) (show (wrsX (ptB x).Image (difX (ptB x).Image (ptA x).Image)).length ≤ 100000 by have := hW.len; omega) (fun w hw => by have := hW.dat w hw; omega) hfA (by rw [← eBA]; exact q496 i1 hW) ?_
  have hsame : appL (ptA x).Image (wrsX (ptB x).Image (difX (ptB x).Image (ptA x).Image)) = (ptB x).Image := by
    have hsA : ¬ q25 (szs (ptA x).Image) ≠ 0 := by rw [e0]; exact hs'
    have hsz : szs (appL (ptA x).Image (wrsX (ptB x).Image (difX (ptB x).Image (ptA x).Image))) = szs (ptB x).Image := (q169 hsA hfA).trans eBA.symm; refine im_ext hsz fun v i hv hi => ?_; obtain ⟨l1, l2⟩ := q272 hsz; have hvB : v < (ptB x).Image.length := by omega
    have hiB : i < (ix (ptB x).Image (v : Int)).length := by have := l2 v hv; omega
    refine q784 hsA hfA (fun w hw hc => hW.val w hw v i hc) ?_; by_cases hd : difB (ix (ptB x).Image (v : Int)) (ix (ptA x).Image (v : Int)) i = true
    · exact .inl ((hW.cov v i hvB hiB).2 hd)
    · refine .inr ?_
      have : ix (ix (ptB x).Image (v : Int)) (i : Int) = ix (ix (ptA x).Image (v : Int)) (i : Int) := Classical.not_not.1 fun q => hd (decide_eq_true q); exact this.symm
  refine q295 i0 eBA.symm ?_; rw [← q735 eBA.symm]; refine ⟨fun q => absurd rfl q, fun _ => ⟨fun q => absurd rfl q, fun _ => ⟨fun q => absurd rfl q, fun _ => ⟨fun q => absurd rfl q, fun _ => ⟨fun q => absurd rfl q, fun _ => ⟨fun q => absurd rfl q, fun _ => ⟨fun q => absurd ?_ q, fun _ => ?_⟩⟩⟩⟩⟩⟩⟩
  · show ((difX (ptB x).Image (ptA x).Image).length : Int) = ((mrkX (ptA x).Dirty (ptB x).Dirty).length : Int)
    rw [q75, hR.len]
  · have hlB : (ptB x).Image.length ≤ 8 := by have := q19 i1; rw [q15] at this; omega
    refine LoopW.upT (ptB x).Image.length (fun k => (k : Int)) rfl (fun k rec hk hr => ⟨fun q => ⟨iX (by omega) q, iX (by omega) (by show (k : Int) < ((mrkX _ _).length : Int); rw [hR.len]; omega), ([], ()), ?_, fun q => absurd q (by simp), fun _ => ⟨iI (by omega) (by omega), hr _ rfl⟩⟩, fun q => absurd (show (k : Int) < ((difX (ptB x).Image (ptA x).Image).length : Int) by rw [q75]; omega) q⟩) fun rec => ⟨fun q => absurd (show ((ptB x).Image.length : Int) < ((difX (ptB x).Image (ptA x).Image).length : Int) from q) (by rw [q75]; omega), fun _ => ?_⟩
    · show Z135 (ix (difX (ptB x).Image (ptA x).Image) (k : Int)) (ix (mrkX (ptA x).Dirty (ptB x).Dirty) (k : Int)) _
      rw [q293 hk, hR.at_ k hk]; exact q216 (by have := q50 i1 k hk; omega) (fun i hi hd => hdm k i hk hi hd) rfl
    · refine q362 i1 eBA ?_
      show q134 (appL (ptA x).Image (wrsX (ptB x).Image (difX (ptB x).Image (ptA x).Image))) (ptB x).Image _; rw [hsame]; refine q360 i1 ⟨fun _ => q379 (show (wrsX (ptB x).Image (difX (ptB x).Image (ptA x).Image)).length ≤ 100000 by have := hW.len; omega) hW.dat ?_, fun q => absurd rfl q⟩; rw [hsum]; refine ⟨fun _ => ?_, fun q => absurd rfl q⟩; obtain ⟨g1, g2⟩ := hX.each i1; exact q374 g1 g2 ⟨fun _ => ⟨fun _ => rfl, fun q => absurd rfl q⟩, fun q => absurd rfl q⟩
end Go.Proofs.YtbcembjnddnneaaGreatDoor
namespace Go.Proofs.YtbcembjnddnneaaGreatDoor
open Go.RowKit Go.ChangeShapes Go.WideShapes Go.ChangeAt
set_option maxRecDepth 100000 in
theorem q149 (os : Os) (started : os.Started) (H : Type) (enc : TypeId × Value → H) :
    ReturnsInHanded {} Tryz.checked os 3 .any (fun w args => (Rows.topFailbackNeededSpec.pre enc Tryz.prog Tryz.f3 [] false w args ∧ laidMetH Tryz.prog [("math/bits.deBruijn64tab", Rows.laid_math_bits_deBruijn64tab)] w) ∧ sizedMet enc Tryz.prog Tryz.f3 (OpenSpec.ofChange Rows.topFailbackNeededSpec) false w args)
      (Rows.topFailbackNeededSpec.post enc Tryz.prog Tryz.f3 false true false false) := by
  refine returnsInHanded_of_change_and (C := Tryz.checked) (X := fun w _ => laidMetH Tryz.prog [("math/bits.deBruijn64tab", Rows.laid_math_bits_deBruijn64tab)] w) (fun _ _ _ hh h => h.of_heap hh) Tryz.own started (by kernel_rfl) Tryz.func3
    (ChangeSpec.witness_shaped (enc := enc) (C := Tryz.checked) (os := os) (X := fun w _ => laidMetH Tryz.prog [("math/bits.deBruijn64tab", Rows.laid_math_bits_deBruijn64tab)] w) false (World.doorLaid Tryz.prog 14 os) #[.agg #[.slice none 0 0, .slice none 0 0, .slice none 0 0, .slice none 0 0]] 8 rfl (World.shaped_of_RefB (by kernel_rfl) (by kernel_rfl)) (by kernel_rfl) (by kernel_rfl) (by kernel_rfl) (Tryz.doorMet os _)) ?_
  intro W base args ds gs before hval0 hW _ _ hL _; have hval : ∀ (j : Nat) t v, Tryz.f3.params[j]? = some t → args[j]? = some v → Value.okWide Tryz.prog W .any base t v := hval0; have hW' := hW; obtain ⟨p, q, hA0, hV, hpq, _, _⟩ := hW; have hA : DataW.TrodAll enc Tryz.prog W 0 (fun _ => true) true Tryz.f3.params.toList args.toList ds p := hA0; rw [Tryz.params3] at hA hval; obtain ⟨v0, d0, rfl, rfl, h0⟩ := trodAll_one hA; obtain ⟨rfl, rfl⟩ := trodVars_none hV; have hT := q770 hL; obtain ⟨ks0, x0, rfl, hr0, hg0⟩ := q649 Tryz.underlying27 rd27 (hval 0 27 v0 rfl rfl) h0; refine Calls.mono ((RetP.toV (y := true) (F := fun z => .bool z) (RetP.mono (ok3 (x0, ()) (fun y => y.1 = true) (q201 x0 hg0) (HW W) [.agg ks0.toArray] hT ⟨_, ks0, _, rfl, by rw [pkw27], (show Dt.rd (α := q14) (HW W) _ _ from hr0), rfl⟩) fun _ _ _ _ ⟨y, hy, hr⟩ => lawRes y hy hr)) W fun b o e => e) ?_
  rintro e W' ⟨v, _, rfl, _, _, _, hb, rfl⟩
  exact ⟨_, rfl, q742 Tryz.laidOut Tryz.underlying4 rfl (by kernel_rfl) hW' rfl rfl hb⟩
theorem q174 : Rows.TopFailbackNeededSaid :=
  OpenClaim.holds_of_wide 3 Tryz.f3 rfl rfl rfl rfl rfl rfl rfl ⟨rfl, rfl, rfl, rfl, rfl⟩ rfl rfl rfl rfl rfl (by kernel_rfl) Tryz.func3 (by kernel_rfl)
    (of_decide_eq_true (by kernel_rfl)) (by unfold Func.isWrapper; first | (rw [if_pos (by decide +kernel)]; kernel_rfl) | (rw [if_neg (by decide +kernel)]; exact ⟨rfl, rfl⟩))
    (fun os started H enc _ => q149 os started H enc)
theorem topFailbackNeeded_card : Rows.TopFailbackNeededCardSaid :=
  Claim7.holds_tied_plain_at .later [] [.data] true (true, "dadaea6a734898e8920eeef2236a5ad6b14be23654f373b75b82f9b509a42499") true
    q174 (fun _ h => by cases h) (by kernel_rfl) (fun _ h => by cases h) topFailbackNeeded_row_tie rfl ⟨rfl, rfl⟩ (by kernel_rfl) rfl
    (fun f fn hf hfn => by
      obtain rfl : f = 3 := Option.some.inj ((show Tryz.prog.funcNamed "standby/standbytop.TopFailbackNeeded" = some 3 by kernel_rfl).symm.trans hf) |>.symm
      obtain rfl : fn = Tryz.f3 := (Option.some.inj (Tryz.func3.symm.trans hfn)).symm
      exact ⟨by kernel_rfl, fun j t ht => by
        rw [Tryz.params3] at ht
        have hm : t ∈ [27] := by
          have := Array.mem_of_getElem? ht; simpa using this
        have hall : ([27].all fun u => !Tryz.prog.wantsStandIn u) = true := by kernel_rfl
        exact (show Tryz.prog.wantsStandIn t = false by simpa using List.all_eq_true.1 hall t hm)⟩)
    (by kernel_rfl)
end Go.Proofs.YtbcembjnddnneaaGreatDoor
