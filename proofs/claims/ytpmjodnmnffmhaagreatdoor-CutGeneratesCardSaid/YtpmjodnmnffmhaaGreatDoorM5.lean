/- Part 5 of the proof of the statement CutGeneratesCardSaid: lemmas. No condition of its own. -/
import Derived.Lib.TrailingZeros
import Derived.Test.YtpmjodnmnffmhaaGreatDoorM4
namespace Go.Proofs.YtpmjodnmnffmhaaGreatDoor
open Go.RowKit
section
theorem iI {x : Int} (h1 : -9223372036854775808 ≤ x) (h2 : x ≤ 9223372036854775807) : inI x := ⟨h1, h2⟩
theorem iX {i : Int} {n : Nat} (h1 : 0 ≤ i) (h2 : i < (n : Int)) : inX i n := ⟨h1, h2⟩
theorem iS {a b : Int} {n : Nat} (h1 : 0 ≤ a) (h2 : a ≤ b) (h3 : b ≤ (n : Int)) : inS a b n := ⟨h1, h2, h3⟩
theorem iL {n b : Nat} (h : n ≤ 1000000) (hb : b ≤ 1000000) : lenOk n b := by
  have := Nat.mul_le_mul h hb
  refine ⟨by omega, ?_⟩
  simp only [maxLen]
  omega
section
variable {α : Type} [Dt α]
theorem ix_get {xs : List α} {k : Nat} (h : k < xs.length) : ix xs (k : Int) = xs[k] := by
  show xs.getD k default = _
  rw [List.getD_eq_getElem?_getD, List.getElem?_eq_getElem h]; rfl
theorem take_ix {xs : List α} {k : Nat} (h : k < xs.length) : xs.take (k + 1) = xs.take k ++ [ix xs (k : Int)] := by
  rw [ix_get h]; exact (List.take_append_getElem h).symm
theorem ix_mem {xs : List α} {i : Int} (h : inX i xs.length) : ix xs i ∈ xs := by
  have e := h.nat
  have hl := h.lt
  rw [e, ix_get hl]
  exact List.getElem_mem hl
theorem drop_ix {xs : List α} {k : Nat} (h : k < xs.length) : xs.drop k = ix xs (k : Int) :: xs.drop (k + 1) := by
  rw [ix_get h]; exact List.drop_eq_getElem_cons h
theorem ext_ix {xs ys : List α} (hl : xs.length = ys.length) (h : ∀ k : Nat, k < xs.length → ix xs (k : Int) = ix ys (k : Int)) : xs = ys := by
  apply List.ext_getElem hl
  intro k h1 h2
  have := h k h1
  rwa [ix_get h1, ix_get h2] at this
omit [Dt α] in
theorem put_nat (xs : List α) (k : Nat) (x : α) : put xs (k : Int) x = xs.set k x := rfl
end
section
variable {A : Type}
theorem LoopW.up {step : Int → (Int → Prop) → Prop} (n : Nat) (Inv : Nat → Prop) (h : ∀ (k : Nat) rec, k ≤ n → Inv k → (k < n → Inv (k + 1) → rec ((k : Int) + 1)) → step (k : Int) rec) {k0 : Nat} {i0 : Int} (hi : i0 = (k0 : Int)) (hk : k0 ≤ n) (h0 : Inv k0) : LoopW step i0 := by
  subst hi
  refine LoopW.of_inv (fun i => ∃ k : Nat, i = (k : Int) ∧ k ≤ n ∧ Inv k) (fun i => n - i.toNat) ?_ ⟨k0, rfl, hk, h0⟩
  rintro _ rec ⟨k, rfl, hk, hI⟩ hrec
  refine h k rec hk hI fun hlt hI' => hrec _ ⟨k + 1, rfl, hlt, hI'⟩ ?_
  simp only [Int.toNat_natCast]
  omega
def firstN (f : Nat → Int) : Nat → Int
  | 0 => 0
  | n + 1 => if firstN f n ≠ 0 then firstN f n else f n
theorem firstN_hit {f : Nat → Int} : ∀ {n k : Nat}, k < n → (∀ j, j < k → f j = 0) → f k ≠ 0 → firstN f n = f k
  | 0, _, hk, _, _ => by omega
  | n + 1, k, hk, h0, h1 => by
    unfold firstN
    rcases Nat.lt_or_ge k n with h | h
    · rw [firstN_hit h h0 h1, if_pos h1]
    · have e : k = n := by omega
      subst e
      have : firstN f k = 0 := by
        clear h1 hk h
        induction k with
        | zero => rfl
        | succ k ih => unfold firstN; rw [ih fun j hj => h0 j (by omega), if_neg (by simp), h0 k (by omega)]
      rw [this, if_neg (by simp)]
theorem firstN_zero {f : Nat → Int} : ∀ {n : Nat}, firstN f n = 0 ↔ ∀ k, k < n → f k = 0
  | 0 => by simp [firstN]
  | n + 1 => by
    unfold firstN
    constructor
    · intro h k hk
      by_cases h1 : firstN f n ≠ 0
      · rw [if_pos h1] at h; exact absurd h h1
      · rw [if_neg h1] at h
        rcases Nat.lt_or_ge k n with hlt | hge
        · exact (firstN_zero.1 (Classical.not_not.1 h1)) k hlt
        · have : k = n := by omega
          subst this; exact h
    · intro h
      rw [if_neg (by rw [firstN_zero.2 fun k hk => h k (by omega)]; simp), h n (by omega)]
def allN (p : Nat → Bool) (n : Nat) : Bool := (List.range n).all p
theorem allN_true {p : Nat → Bool} {n : Nat} : allN p n = true ↔ ∀ k, k < n → p k = true := by simp [allN]
theorem allN_false {p : Nat → Bool} {n k : Nat} (hk : k < n) (h : p k = false) : allN p n = false := by
  cases hx : allN p n with
  | false => rfl
  | true => rw [allN_true.1 hx k hk] at h; cases h
theorem allN_congr {p q : Nat → Bool} {n : Nat} (h : ∀ k, k < n → p k = q k) : allN p n = allN q n := by
  rw [Bool.eq_iff_iff, allN_true, allN_true]
  exact ⟨fun g k hk => by rw [← h k hk]; exact g k hk, fun g k hk => by rw [h k hk]; exact g k hk⟩
theorem LoopW.allL {step : Int → (Int → Prop) → Prop} (n : Nat) (p : Nat → Bool) {Φ : Bool → Prop} (hΦ : Φ (allN p n)) (h : ∀ (k : Nat) rec, k < n → (∀ j, j < k → p j = true) → (p k = false → Φ false) → (p k = true → rec ((k : Int) + 1)) → step (k : Int) rec)
    (he : ∀ rec, Φ true → (∀ j, j < n → p j = true) → step (n : Int) rec) : LoopW step 0 := by
  refine LoopW.up n (fun k => ∀ j, j < k → p j = true) ?_ rfl (Nat.zero_le _) (fun j hj => absurd hj (Nat.not_lt_zero j))
  intro k rec hk hI hrec
  rcases Nat.lt_or_ge k n with hlt | hge
  · refine h k rec hlt hI (fun h1 => by rw [allN_false hlt h1] at hΦ; exact hΦ) fun h0 => hrec hlt fun j hj => ?_
    rcases Nat.lt_or_ge j k with h2 | h2
    · exact hI j h2
    · have : j = k := by omega
      subst this; exact h0
  · have e : k = n := by omega
    subst e
    exact he rec (by rw [allN_true.2 hI] at hΦ; exact hΦ) hI
end
end
theorem LoopW.upI {S : Type} {step : S → (S → Prop) → Prop} (n : Nat) (st : Nat → S) (I : Nat → Prop) {s : S} (hs : s = st 0) (h0 : I 0)
    (h : ∀ (k : Nat) rec, k < n → I k → (I (k + 1) → ∀ s, s = st (k + 1) → rec s) → step (st k) rec) (he : ∀ rec, I n → step (st n) rec) : LoopW step s := by
  have key : ∀ m k, k + m = n → I k → LoopN step (m + 1) (st k) := by
    intro m
    induction m with
    | zero => intro k hk hI; obtain rfl : k = n := hk; exact he _ hI
    | succ m ih => intro k hk hI; exact h k _ (by omega) hI fun hI' s hs => by rw [hs]; exact ih (k + 1) (by omega) hI'
  exact ⟨n + 1, by rw [hs]; exact key n 0 (by omega) h0⟩
theorem LoopW.upT {S : Type} {step : S → (S → Prop) → Prop} (n : Nat) (st : Nat → S) {s : S} (hs : s = st 0)
    (h : ∀ (k : Nat) rec, k < n → (∀ s, s = st (k + 1) → rec s) → step (st k) rec) (he : ∀ rec, step (st n) rec) : LoopW step s :=
  LoopW.upI n st (fun _ => True) hs trivial (fun k rec hk _ hr => h k rec hk (hr trivial)) fun rec _ => he rec
theorem LoopW.findI {step : Int → (Int → Prop) → Prop} (n : Nat) (p : Nat → Bool) (h : ∀ (k : Nat) rec, k < n → (∀ j, j < k → p j = false) → (p k = false → rec ((k : Int) + 1)) → step (k : Int) rec)
    (he : ∀ rec, (∀ j, j < n → p j = false) → step (n : Int) rec) : LoopW step 0 :=
  LoopW.upI n (fun k => (k : Int)) (fun k => ∀ j, j < k → p j = false) rfl (fun j hj => absurd hj (Nat.not_lt_zero j)) (fun k rec hk hI hr => h k rec hk hI fun hp => hr (fun j hj => by
    rcases Nat.lt_or_ge j k with h2 | h2
    · exact hI j h2
    · obtain rfl : j = k := by omega
      exact hp) _ rfl) he
theorem any_ix {α : Type} [Dt α] {xs : List α} {p : α → Bool} : xs.any p = true ↔ ∃ k, k < xs.length ∧ p (ix xs (k : Int)) = true := by
  rw [List.any_eq_true]
  constructor
  · rintro ⟨x, hx, hp⟩
    obtain ⟨k, hk, rfl⟩ := List.getElem_of_mem hx
    exact ⟨k, hk, by rw [ix_get hk]; exact hp⟩
  · rintro ⟨k, hk, hp⟩
    exact ⟨xs[k], List.getElem_mem hk, by rw [ix_get hk] at hp; exact hp⟩
theorem any_false_ix {α : Type} [Dt α] {xs : List α} {p : α → Bool} (h : ∀ k, k < xs.length → p (ix xs (k : Int)) = false) : xs.any p = false := by
  rw [Bool.eq_false_iff]
  intro q
  obtain ⟨k, hk, hp⟩ := any_ix.1 q
  rw [h k hk] at hp; cases hp
theorem any_true_ix {α : Type} [Dt α] {xs : List α} {p : α → Bool} {k : Nat} (hk : k < xs.length) (h : p (ix xs (k : Int)) = true) : xs.any p = true := any_ix.2 ⟨k, hk, h⟩
theorem LoopW.anyL {α : Type} [Dt α] {step : Int → (Int → Prop) → Prop} (xs : List α) (p : α → Bool) {Φ : Bool → Prop} (hΦ : Φ (xs.any p)) (h : ∀ (k : Nat) rec, k < xs.length → (p (ix xs (k : Int)) = true → Φ true) → (p (ix xs (k : Int)) = false → rec ((k : Int) + 1)) → step (k : Int) rec)
    (he : ∀ rec, Φ false → step (xs.length : Int) rec) : LoopW step 0 :=
  LoopW.findI xs.length (fun k => p (ix xs (k : Int))) (fun k rec hk _ hr => h k rec hk (fun hp => by rw [any_true_ix hk hp] at hΦ; exact hΦ) hr) fun rec hn => he rec (by rw [any_false_ix hn] at hΦ; exact hΦ)
theorem LoopW.allE {α : Type} [Dt α] {step : Int → (Int → Prop) → Prop} (xs : List α) (p : α → Bool) {Φ : Bool → Prop} (hΦ : Φ (xs.all p)) (h : ∀ (k : Nat) rec, k < xs.length → (p (ix xs (k : Int)) = false → Φ false) → (p (ix xs (k : Int)) = true → rec ((k : Int) + 1)) → step (k : Int) rec)
    (he : ∀ rec, Φ true → step (xs.length : Int) rec) : LoopW step 0 := by
  have e : xs.all p = !(xs.any fun x => !p x) := by simp [List.all_eq_not_any_not]
  rw [e] at hΦ
  refine LoopW.anyL xs (fun x => !p x) (Φ := fun b => Φ (!b)) hΦ (fun k rec hk h1 h2 => h k rec hk (fun hp => h1 (by simp [hp])) fun hp => h2 (by simp [hp])) he
theorem len_snoc {α : Type} (xs : List α) (x : α) : (xs ++ [x]).length = xs.length + 1 := by simp
theorem lenT {α : Type} {xs : List α} {k : Nat} (h : k ≤ xs.length) : (xs.take k).length = k := by rw [List.length_take]; omega
theorem take_all {α : Type} (xs : List α) : xs.take xs.length = xs := List.take_length
theorem map_take_snoc {α β : Type} [Dt α] {xs : List α} {k : Nat} (f : α → β) (h : k < xs.length) : (xs.take (k + 1)).map f = (xs.take k).map f ++ [f (ix xs (k : Int))] := by rw [take_ix h, List.map_append]; rfl
theorem filter_range_snoc (k : Nat) (p : Nat → Bool) : (List.range (k + 1)).filter p = (List.range k).filter p ++ (if p k then [k] else []) := by
  rw [List.range_succ, List.filter_append]; congr 1; by_cases hp : p k = true <;> simp [hp]
theorem LoopW.errI {S : Type} {step : S → (S → Prop) → Prop} (n : Nat) (st : Nat → S) (f : Nat → Int) {Ψ : Int → Prop} {s : S} (hs : s = st 0) (hΨ : Ψ (firstN f n))
    (h : ∀ (k : Nat) rec, k < n → (∀ j, j < k → f j = 0) → (f k ≠ 0 → Ψ (f k)) → (f k = 0 → ∀ s, s = st (k + 1) → rec s) → step (st k) rec) (he : ∀ rec, (∀ j, j < n → f j = 0) → Ψ 0 → step (st n) rec) : LoopW step s :=
  LoopW.upI n st (fun k => ∀ j, j < k → f j = 0) hs (fun j hj => absurd hj (Nat.not_lt_zero j)) (fun k rec hk hI hr => h k rec hk hI (fun h1 => by rw [firstN_hit hk hI h1] at hΨ; exact hΨ) fun h0 => hr fun j hj => by
    rcases Nat.lt_or_ge j k with h2 | h2
    · exact hI j h2
    · obtain rfl : j = k := by omega
      exact h0) fun rec hI => he rec hI (by rw [firstN_zero.2 hI] at hΨ; exact hΨ)
def sizesE (l : List Int) : Int := if (l.length : Int) < 1 ∨ 8 < (l.length : Int) then 6 else firstN (fun k => if ix l (k : Int) < 1 ∨ 4096 < ix l (k : Int) then 2 else 0) l.length
def szs (im : List (List Sec)) : List Int := im.map fun v => (v.length : Int)
def imgE (im : List (List Sec)) : Int := sizesE (szs im)
theorem szs_len (im : List (List Sec)) : (szs im).length = im.length := by unfold szs; rw [List.length_map]
theorem ix_szs {im : List (List Sec)} {k : Nat} (h : k < im.length) : ix (szs im) (k : Int) = ((ix im (k : Int)).length : Int) := by
  rw [ix_get (by rw [szs_len]; exact h), ix_get h]; unfold szs; rw [List.getElem_map]
theorem sizesE_len {l : List Int} (h : sizesE l = 0) : 1 ≤ l.length ∧ l.length ≤ 8 := by
  unfold sizesE at h
  by_cases hl : (l.length : Int) < 1 ∨ 8 < (l.length : Int)
  · rw [if_pos hl] at h; cases h
  · omega
theorem sizesE_ix {l : List Int} (h : sizesE l = 0) {k : Nat} (hk : k < l.length) : 1 ≤ ix l (k : Int) ∧ ix l (k : Int) ≤ 4096 := by
  unfold sizesE at h
  by_cases hl : (l.length : Int) < 1 ∨ 8 < (l.length : Int)
  · rw [if_pos hl] at h; cases h
  · rw [if_neg hl] at h
    have := firstN_zero.1 h k hk
    by_cases q : ix l (k : Int) < 1 ∨ 4096 < ix l (k : Int)
    · rw [if_pos q] at this; cases this
    · omega
theorem image_checkSizes_ok {l : List Int} {Φ : Int → Prop} (hΦ : Φ (sizesE l)) : image_checkSizes_W l Φ := by
  unfold sizesE at hΦ
  by_cases h : (l.length : Int) < 1 ∨ 8 < (l.length : Int)
  · rw [if_pos h] at hΦ
    exact ⟨fun _ => hΦ, fun _ => ⟨fun _ => hΦ, fun _ => by omega⟩⟩
  · rw [if_neg h] at hΦ
    refine ⟨fun _ => by omega, fun _ => ⟨fun _ => by omega, fun _ => ?_⟩⟩
    refine LoopW.errI l.length (fun k => (k : Int)) _ rfl hΦ (fun k rec hk _ h1 h2 => ?_) fun rec _ h0 => ⟨fun _ => by omega, fun _ => ⟨fun _ => by omega, fun _ => h0⟩⟩
    have go : ∀ q : ix l (k : Int) < 1 ∨ 4096 < ix l (k : Int), Φ 2 := fun q => by
      have := h1 (by rw [if_pos q]; omega)
      rw [if_pos q] at this; exact this
    refine ⟨fun _ => ⟨iX (by omega) (by omega), fun q => ⟨fun _ => ⟨fun _ => go (.inl q), fun _ => by omega⟩, fun r => absurd rfl r⟩, fun q => ⟨fun r => ⟨fun _ => go (.inr (of_decide_eq_true r)), fun _ => by omega⟩, fun r => ⟨iI (by omega) (by omega), h2 (if_neg (by have := of_decide_eq_false (Bool.eq_false_iff.2 r); omega)) _ rfl⟩⟩⟩, fun _ => by omega⟩
theorem image_sizes_ok {im : List (List Sec)} {Φ : List Int → Prop} (hl : im.length ≤ 100000) (hΦ : Φ (szs im)) : image_sizes_W im Φ := by
  refine ⟨by omega, iL (by omega) (by omega), ?_⟩
  refine LoopW.upT im.length (fun k => ((k : Int), (im.take k).map fun v => (v.length : Int))) rfl (fun k rec hk hr => ?_) fun rec => ⟨fun _ => by omega, fun _ => by rw [take_all]; exact hΦ⟩
  refine ⟨fun _ => ⟨iX (by omega) (by omega), iL (by rw [len_snoc, List.length_map, lenT (by omega)]; omega) (by omega), iI (by omega) (by omega), hr _ (by rw [map_take_snoc _ hk]; rfl)⟩, fun _ => by omega⟩
theorem image_Check_ok {im : List (List Sec)} {Φ : Int → Prop} (hl : im.length ≤ 100000) (hΦ : Φ (imgE im)) : image_Check_W im Φ := image_sizes_ok hl (image_checkSizes_ok hΦ)
def zeroI (l : List Int) : List (List Sec) := l.map fun n => List.replicate n.toNat sec0
theorem zeroI_len (l : List Int) : (zeroI l).length = l.length := by unfold zeroI; rw [List.length_map]
theorem ix_zeroI {l : List Int} {k : Nat} (h : k < l.length) : ix (zeroI l) (k : Int) = List.replicate (ix l (k : Int)).toNat sec0 := by
  rw [ix_get (by rw [zeroI_len]; exact h), ix_get h]; unfold zeroI; rw [List.getElem_map]
theorem szs_zeroI {l : List Int} (h : sizesE l = 0) : szs (zeroI l) = l := by
  refine ext_ix (by rw [szs_len, zeroI_len]) fun k hk => ?_
  rw [szs_len, zeroI_len] at hk
  have := sizesE_ix h hk
  rw [ix_szs (by rw [zeroI_len]; exact hk), ix_zeroI hk, List.length_replicate]; omega
theorem image_New_ok {l : List Int} {Φ : List (List Sec) × Int → Prop} (h0 : sizesE l = 0 → Φ (zeroI l, 0)) (h1 : sizesE l ≠ 0 → Φ ([], sizesE l)) : image_New_W l Φ := by
  refine image_checkSizes_ok ⟨fun q => h1 q, fun q => ?_⟩
  have q : sizesE l = 0 := Classical.not_not.1 q
  have hl := sizesE_len q
  refine ⟨by omega, iL (by omega) (by omega), ?_⟩
  refine LoopW.upT l.length (fun k => ((k : Int), (l.take k).map fun n => List.replicate n.toNat sec0)) rfl (fun k rec hk hr => ?_) fun rec => ⟨fun _ => by omega, fun _ => by rw [take_all]; exact h0 q⟩
  have := sizesE_ix q hk
  refine ⟨fun _ => ⟨iX (by omega) (by omega), by omega, iL (by omega) (by omega), iL (by rw [len_snoc, List.length_map, lenT (by omega)]; omega) (by omega), iI (by omega) (by omega), hr _ (by rw [map_take_snoc _ hk]; rfl)⟩, fun _ => by omega⟩
def fitW (l : List Int) (w : api_Write) : Int := if w.Volume < 0 ∨ (l.length : Int) ≤ w.Volume then 7 else if (w.Data.length : Int) = 0 then 1 else if w.Start < 0 ∨ ix l w.Volume - w.Start < (w.Data.length : Int) then 2 else 0
theorem image_fits_ok {im : List (List Sec)} {w : api_Write} {Φ : Int → Prop} (hd : w.Data.length ≤ 1000000) (hv : ∀ k : Nat, k < im.length → (ix im (k : Int)).length ≤ 1000000) (hΦ : Φ (fitW (szs im) w)) : image_fits_W im w Φ := by
  unfold fitW at hΦ
  rw [szs_len] at hΦ
  show (_ → image_fits_J1 _ _ _ _) ∧ _
  have tail : ¬ (w.Volume < 0 ∨ (im.length : Int) ≤ w.Volume) → image_fits_J1 im w Φ false := fun q => by
    rw [if_neg q] at hΦ
    refine ⟨fun r => (Bool.noConfusion r), fun _ => ⟨fun r => by rw [if_pos (by omega)] at hΦ; exact hΦ, fun r => ?_⟩⟩
    rw [if_neg (by omega)] at hΦ
    obtain ⟨v, hw⟩ := Int.eq_ofNat_of_zero_le (show 0 ≤ w.Volume by omega)
    have hvl : v < im.length := by omega
    rw [hw, ix_szs hvl] at hΦ
    have := hv v hvl
    refine ⟨fun s => by rw [if_pos (.inl s)] at hΦ; exact hΦ, fun s => ⟨iX (by omega) (by omega), ?_⟩⟩
    rw [hw]
    exact ⟨iI (by omega) (by omega), fun t => by rw [if_pos (by omega)] at hΦ; exact hΦ, fun t => by rw [if_neg (by omega)] at hΦ; exact hΦ⟩
  refine ⟨fun q => ⟨fun _ => by rw [if_pos (.inl q)] at hΦ; exact hΦ, fun r => absurd rfl r⟩, fun q => ?_⟩
  by_cases r : (im.length : Int) ≤ w.Volume
  · rw [decide_eq_true r]
    exact ⟨fun _ => by rw [if_pos (.inr r)] at hΦ; exact hΦ, fun r => absurd rfl r⟩
  · rw [decide_eq_false r]; exact tail (by omega)
theorem szs_small {im : List (List Sec)} (h : imgE im = 0) (k : Nat) (hk : k < im.length) : (ix im (k : Int)).length ≤ 4096 := by
  have := sizesE_ix h (k := k) (by rw [szs_len]; exact hk)
  rw [ix_szs hk] at this; omega
theorem image_Fits_ok {im : List (List Sec)} {w : api_Write} {Φ : Int → Prop} (hd : w.Data.length ≤ 1000000) (h : imgE im = 0) (hΦ : Φ (fitW (szs im) w)) : image_Fits_W im w Φ := by
  have hl := sizesE_len h
  rw [szs_len] at hl
  exact image_Check_ok (by omega) ⟨fun q => absurd h q, fun _ => image_fits_ok hd (fun k hk => Nat.le_trans (szs_small h k hk) (by omega)) hΦ⟩
theorem ix_put {α : Type} [Dt α] (xs : List α) {i j : Nat} (x : α) (hi : i < xs.length) : ix (put xs (i : Int) x) (j : Int) = if j = i then x else ix xs (j : Int) := by
  show (xs.set i x).getD j default = if j = i then x else xs.getD j default
  rw [List.getD_eq_getElem?_getD, List.getD_eq_getElem?_getD]
  by_cases h : j = i
  · subst h; rw [List.getElem?_set_self hi, if_pos rfl]; rfl
  · rw [List.getElem?_set_ne (by omega), if_neg h]
theorem ix_put_self {α : Type} [Dt α] {xs : List α} {i : Int} (x : α) (hi : inX i xs.length) : ix (put xs i x) i = x := by
  obtain ⟨k, rfl⟩ := Int.eq_ofNat_of_zero_le hi.1
  rw [ix_put xs x (by have := hi.2; omega), if_pos rfl]
def sec (im : List (List Sec)) (v i : Nat) : Sec := ix (ix im (v : Int)) (i : Int)
def idxN (p : Nat → Bool) (n : Nat) : Int := match (List.range n).find? p with
  | some k => (k : Int)
  | none => -1
theorem idxN_hit {p : Nat → Bool} {n k : Nat} (hk : k < n) (h0 : ∀ j, j < k → p j = false) (h1 : p k = true) : idxN p n = (k : Int) := by
  unfold idxN
  have : (List.range n).find? p = some k := by
    rw [List.find?_range_eq_some]
    exact ⟨h1, List.mem_range.2 hk, fun j hj => by rw [h0 j hj]; rfl⟩
  rw [this]
theorem idxN_none {p : Nat → Bool} {n : Nat} (h0 : ∀ j, j < n → p j = false) : idxN p n = -1 := by
  unfold idxN
  have : (List.range n).find? p = none := by
    rw [List.find?_eq_none]
    intro j hj
    rw [h0 j (List.mem_range.1 hj)]; simp
  rw [this]
theorem idxN_cases (p : Nat → Bool) (n : Nat) : (idxN p n = -1 ∧ ∀ k, k < n → p k = false) ∨ ∃ k, k < n ∧ idxN p n = (k : Int) ∧ p k = true ∧ ∀ j, j < k → p j = false := by
  unfold idxN
  cases h : (List.range n).find? p with
  | none => exact .inl ⟨rfl, fun k hk => by rw [List.find?_eq_none] at h; have := h k (List.mem_range.2 hk); simpa using this⟩
  | some k =>
    rw [List.find?_range_eq_some] at h
    exact .inr ⟨k, List.mem_range.1 h.2.1, rfl, h.1, fun j hj => by have := h.2.2 j hj; simpa using this⟩
theorem idxN_succ (p : Nat → Bool) (n : Nat) : idxN p (n + 1) = if 0 ≤ idxN p n then idxN p n else if p n = true then (n : Int) else -1 := by
  rcases idxN_cases p n with ⟨h, h0⟩ | ⟨k, hk, h, h1, h0⟩
  · rw [h, if_neg (by omega)]
    by_cases hp : p n = true
    · rw [if_pos hp]; exact idxN_hit (Nat.lt_succ_self n) h0 hp
    · rw [if_neg hp]
      refine idxN_none fun j hj => ?_
      rcases Nat.lt_or_ge j n with h2 | h2
      · exact h0 j h2
      · obtain rfl : j = n := by omega
        simpa using hp
  · rw [h, if_pos (by omega)]; exact idxN_hit (by omega) h0 h1
theorem idxN_lt (p : Nat → Bool) (n : Nat) : -1 ≤ idxN p n ∧ idxN p n < (n : Int) ∨ n = 0 ∧ idxN p n = -1 := by
  rcases idxN_cases p n with ⟨h, _⟩ | ⟨k, hk, h, _⟩
  · rw [h]
    rcases Nat.eq_zero_or_pos n with h0 | h0
    · exact .inr ⟨h0, rfl⟩
    · exact .inl ⟨by omega, by omega⟩
  · rw [h]; exact .inl ⟨by omega, by omega⟩
def atN (l : List api_HistoryEvent) (n : Nat) (e : api_HistoryEvent) : Int := idxN (fun k => decide (ix l (k : Int) = e)) n
theorem atN_succ (l : List api_HistoryEvent) (n : Nat) (e : api_HistoryEvent) : atN l (n + 1) e = if 0 ≤ atN l n e then atN l n e else if ix l (n : Int) = e then (n : Int) else -1 := by
  unfold atN; rw [idxN_succ]; simp
theorem atN_keep {l : List api_HistoryEvent} {n : Nat} {e : api_HistoryEvent} (h : ix l (n : Int) ≠ e) : atN l (n + 1) e = atN l n e := by
  rw [atN_succ, if_neg h]
  rcases idxN_cases (fun k => decide (ix l (k : Int) = e)) n with ⟨q, _⟩ | ⟨k, _, q, _⟩
  · have q : atN l n e = -1 := q
    rw [q, if_neg (by omega)]
  · have q : atN l n e = (k : Int) := q
    rw [q, if_pos (by omega)]
theorem atN_here {l : List api_HistoryEvent} {n : Nat} (h : atN l n (ix l (n : Int)) < 0) : atN l (n + 1) (ix l (n : Int)) = (n : Int) := by rw [atN_succ, if_neg (by omega), if_pos rfl]
theorem atN_old {l : List api_HistoryEvent} {n : Nat} {e : api_HistoryEvent} (h : 0 ≤ atN l n e) : atN l (n + 1) e = atN l n e := by rw [atN_succ, if_pos h]
theorem atN_nn {l : List api_HistoryEvent} {n : Nat} {e : api_HistoryEvent} : 0 ≤ atN l (n + 1) e ↔ 0 ≤ atN l n e ∨ ix l (n : Int) = e := by
  rw [atN_succ]
  by_cases h : 0 ≤ atN l n e
  · rw [if_pos h]; exact ⟨fun q => .inl q, fun _ => h⟩
  · rw [if_neg h]
    by_cases q : ix l (n : Int) = e
    · rw [if_pos q]; exact ⟨fun _ => .inr q, fun _ => by omega⟩
    · rw [if_neg q]; exact ⟨fun r => by omega, fun r => (r.elim (fun r => absurd r h) fun r => absurd r q)⟩
theorem atN_lt (l : List api_HistoryEvent) (n : Nat) (e : api_HistoryEvent) : -1 ≤ atN l n e ∧ atN l n e < (n : Int) ∨ atN l n e = -1 := by
  rcases idxN_lt (fun k => decide (ix l (k : Int) = e)) n with h | h
  · exact .inl h
  · exact .inr h.2
theorem atN_neg {l : List api_HistoryEvent} {n : Nat} {e : api_HistoryEvent} (h : ¬ 0 ≤ atN l n e) : atN l n e = -1 := by
  rcases atN_lt l n e with q | q <;> omega
def cntI (l : List api_HistoryEvent) : Nat → Nat
  | 0 => 0
  | k + 1 => cntI l k + if (ix l (k : Int)).Kind = 0 then 1 else 0
theorem cntI_le (l : List api_HistoryEvent) : ∀ k, cntI l k ≤ k
  | 0 => Nat.le_refl _
  | k + 1 => by have := cntI_le l k; unfold cntI; split <;> omega
def evErr (l : List api_HistoryEvent) (n : Nat) (k : Nat) : Int :=
  if (ix l (k : Int)).Kind = 0 then (if (ix l (k : Int)).Write ≠ (cntI l k : Int) ∨ n ≤ cntI l k then 3 else 0)
  else if (ix l (k : Int)).Kind ≠ 1 then 3 else if (ix l (k : Int)).Write < 0 ∨ (cntI l k : Int) ≤ (ix l (k : Int)).Write then 7 else if 0 ≤ atN l k (ix l (k : Int)) then 8 else 0
theorem evErr_issue {l : List api_HistoryEvent} {n k : Nat} (h : evErr l n k = 0) (hk : (ix l (k : Int)).Kind = 0) : ix l (k : Int) = ⟨0, (cntI l k : Int)⟩ ∧ cntI l k < n := by
  unfold evErr at h
  rw [if_pos hk] at h
  by_cases q : (ix l (k : Int)).Write ≠ (cntI l k : Int) ∨ n ≤ cntI l k
  · rw [if_pos q] at h; cases h
  · refine ⟨?_, by omega⟩
    cases hx : ix l (k : Int) with
    | mk a b => rw [hx] at hk q; simp only at hk q; rw [hk, show b = (cntI l k : Int) by omega]
theorem evErr_ack {l : List api_HistoryEvent} {n k : Nat} (h : evErr l n k = 0) (hk : ¬ (ix l (k : Int)).Kind = 0) : ix l (k : Int) = ⟨1, (ix l (k : Int)).Write⟩ ∧ 0 ≤ (ix l (k : Int)).Write ∧ (ix l (k : Int)).Write < (cntI l k : Int) ∧ atN l k (ix l (k : Int)) = -1 := by
  unfold evErr at h
  rw [if_neg hk] at h
  by_cases q : (ix l (k : Int)).Kind ≠ 1
  · rw [if_pos q] at h; cases h
  rw [if_neg q] at h
  by_cases r : (ix l (k : Int)).Write < 0 ∨ (cntI l k : Int) ≤ (ix l (k : Int)).Write
  · rw [if_pos r] at h; cases h
  rw [if_neg r] at h
  by_cases s : 0 ≤ atN l k (ix l (k : Int))
  · rw [if_pos s] at h; cases h
  refine ⟨?_, by omega, by omega, atN_neg s⟩
  cases hx : ix l (k : Int) with
  | mk a b => rw [hx] at q; simp only at q; rw [Classical.not_not.1 q]
theorem cnt_issue {l : List api_HistoryEvent} {k : Nat} (h : (ix l (k : Int)).Kind = 0) : cntI l (k + 1) = cntI l k + 1 := by rw [cntI, if_pos h]
theorem cnt_ack {l : List api_HistoryEvent} {k : Nat} (h : ¬ (ix l (k : Int)).Kind = 0) : cntI l (k + 1) = cntI l k := by rw [cntI, if_neg h]; rfl
theorem at_issue {l : List api_HistoryEvent} {n : Nat} : ∀ {k : Nat}, (∀ j, j < k → evErr l n j = 0) → ∀ w : Int, 0 ≤ atN l k ⟨0, w⟩ ↔ 0 ≤ w ∧ w < (cntI l k : Int)
  | 0, _, w => ⟨fun h => absurd (show (0 : Int) ≤ -1 from h) (by decide), fun h => by unfold cntI at h; omega⟩
  | k + 1, hz, w => by
    rw [atN_nn, at_issue (fun j hj => hz j (by omega)) w]
    by_cases hk : (ix l (k : Int)).Kind = 0
    · have := (evErr_issue (hz k (Nat.lt_succ_self k)) hk).1
      rw [this, cnt_issue hk, api_HistoryEvent.mk.injEq]; omega
    · rw [cnt_ack hk]
      refine ⟨fun h => h.elim id fun q => absurd (by rw [q]) hk, .inl⟩
theorem at_ack {l : List api_HistoryEvent} {n : Nat} : ∀ {k : Nat}, (∀ j, j < k → evErr l n j = 0) → ∀ w : Int, 0 ≤ atN l k ⟨1, w⟩ → 0 ≤ w ∧ w < (cntI l k : Int)
  | 0, _, w => fun h => absurd (show (0 : Int) ≤ -1 from h) (by decide)
  | k + 1, hz, w => by
    rw [atN_nn]
    have ih := at_ack (k := k) (fun j hj => hz j (by omega)) w
    by_cases hk : (ix l (k : Int)).Kind = 0
    · rw [cnt_issue hk]
      rintro (h | h)
      · have := ih h; omega
      · rw [h] at hk; cases hk
    · rw [cnt_ack hk]
      rintro (h | h)
      · exact ih h
      · have := evErr_ack (hz k (Nat.lt_succ_self k)) hk
        rw [h] at this; exact ⟨this.2.1, this.2.2.1⟩
theorem cnt_le {l : List api_HistoryEvent} {n : Nat} : ∀ {k : Nat}, (∀ j, j < k → evErr l n j = 0) → cntI l k ≤ n
  | 0, _ => Nat.zero_le _
  | k + 1, hz => by
    by_cases hk : (ix l (k : Int)).Kind = 0
    · have := (evErr_issue (hz k (Nat.lt_succ_self k)) hk).2
      rw [cnt_issue hk]; omega
    · rw [cnt_ack hk]; exact cnt_le fun j hj => hz j (by omega)
def issL (l : List api_HistoryEvent) (k : Nat) : List Int := (List.range (cntI l k)).map fun w : Nat => atN l k ⟨0, (w : Int)⟩
def ackL (l : List api_HistoryEvent) (k : Nat) : List Int := (List.range (cntI l k)).map fun w : Nat => atN l k ⟨1, (w : Int)⟩
theorem issL_len (l : List api_HistoryEvent) (k : Nat) : (issL l k).length = cntI l k := by unfold issL; rw [List.length_map, List.length_range]
theorem ackL_len (l : List api_HistoryEvent) (k : Nat) : (ackL l k).length = cntI l k := by unfold ackL; rw [List.length_map, List.length_range]
theorem ix_issL {l : List api_HistoryEvent} {k w : Nat} (h : w < cntI l k) : ix (issL l k) (w : Int) = atN l k ⟨0, (w : Int)⟩ := by
  rw [ix_get (by rw [issL_len]; exact h)]; unfold issL; rw [List.getElem_map, List.getElem_range]
theorem ix_ackL {l : List api_HistoryEvent} {k w : Nat} (h : w < cntI l k) : ix (ackL l k) (w : Int) = atN l k ⟨1, (w : Int)⟩ := by
  rw [ix_get (by rw [ackL_len]; exact h)]; unfold ackL; rw [List.getElem_map, List.getElem_range]
theorem issL_issue {l : List api_HistoryEvent} {n k : Nat} (hz : ∀ j, j < k + 1 → evErr l n j = 0) (hk : (ix l (k : Int)).Kind = 0) : issL l (k + 1) = issL l k ++ [(k : Int)] := by
  have h0 : ∀ j, j < k → evErr l n j = 0 := fun j hj => hz j (by omega)
  have hx := (evErr_issue (hz k (Nat.lt_succ_self k)) hk).1
  unfold issL
  rw [cnt_issue hk, List.range_succ, List.map_append]
  congr 1
  · refine List.map_congr_left fun w hw => atN_old ((at_issue h0 _).2 ⟨by omega, by have := List.mem_range.1 hw; omega⟩)
  · simp only [List.map_cons, List.map_nil]
    rw [← hx, atN_here (by rw [hx]; have := mt (at_issue h0 (cntI l k : Int)).1 (by omega); omega)]
theorem ackL_issue {l : List api_HistoryEvent} {n k : Nat} (hz : ∀ j, j < k + 1 → evErr l n j = 0) (hk : (ix l (k : Int)).Kind = 0) : ackL l (k + 1) = ackL l k ++ [-1] := by
  have h0 : ∀ j, j < k → evErr l n j = 0 := fun j hj => hz j (by omega)
  have hx := (evErr_issue (hz k (Nat.lt_succ_self k)) hk).1
  have hne : ∀ w : Int, ix l (k : Int) ≠ ⟨1, w⟩ := fun w q => by rw [q] at hk; cases hk
  unfold ackL
  rw [cnt_issue hk, List.range_succ, List.map_append]
  congr 1
  · exact List.map_congr_left fun w _ => atN_keep (hne _)
  · simp only [List.map_cons, List.map_nil]
    rw [atN_keep (hne _), atN_neg (fun q => by have := at_ack h0 _ q; omega)]
theorem issL_ack {l : List api_HistoryEvent} {k : Nat} (hk : ¬ (ix l (k : Int)).Kind = 0) : issL l (k + 1) = issL l k := by
  unfold issL
  rw [cnt_ack hk]
  exact List.map_congr_left fun w _ => atN_keep fun q => hk (by rw [q])
theorem ackL_ack {l : List api_HistoryEvent} {n k : Nat} (hz : ∀ j, j < k + 1 → evErr l n j = 0) (hk : ¬ (ix l (k : Int)).Kind = 0) : ackL l (k + 1) = put (ackL l k) (ix l (k : Int)).Write (k : Int) := by
  obtain ⟨hx, h1, h2, h3⟩ := evErr_ack (hz k (Nat.lt_succ_self k)) hk
  obtain ⟨w, hw⟩ := Int.eq_ofNat_of_zero_le h1
  rw [hw] at hx h2 ⊢
  refine ext_ix (by rw [put_len, ackL_len, ackL_len, cnt_ack hk]) fun j hj => ?_
  rw [ackL_len, cnt_ack hk] at hj
  rw [ix_put _ _ (by rw [ackL_len]; omega), ix_ackL (by rw [cnt_ack hk]; exact hj), ix_ackL hj]
  by_cases hjw : j = w
  · rw [if_pos hjw, hjw, ← hx, atN_here (by rw [h3]; omega)]
  · rw [if_neg hjw, atN_keep (by rw [hx]; intro q; rw [api_HistoryEvent.mk.injEq] at q; omega)]
def evE (h : api_History) : Int := if firstN (evErr h.Events h.Writes.length) h.Events.length ≠ 0 then firstN (evErr h.Events h.Writes.length) h.Events.length else if cntI h.Events h.Events.length < h.Writes.length then 3 else 0
def histE (h : api_History) : Int := if sizesE h.Sizes ≠ 0 then sizesE h.Sizes else if 4096 < (h.Writes.length : Int) then 6 else if firstN (fun k => fitW h.Sizes (ix h.Writes (k : Int))) h.Writes.length ≠ 0 then firstN (fun k => fitW h.Sizes (ix h.Writes (k : Int))) h.Writes.length else evE h
def tlH (h : api_History) : history_timeline := ⟨issL h.Events h.Events.length, ackL h.Events h.Events.length⟩
def noH : history_checked := ⟨⟨[], [], []⟩, ⟨[], []⟩⟩
structure SmallH (h : api_History) : Prop where
  ev : h.Events.length ≤ 100000
  wr : h.Writes.length ≤ 100000
  data : ∀ k : Nat, k < h.Writes.length → (ix h.Writes (k : Int)).Data.length ≤ 100000
theorem history_check_ok {h : api_History} {Φ : history_checked × Int → Prop} (hh : SmallH h) (k0 : histE h = 0 → Φ (⟨h, tlH h⟩, 0)) (k1 : histE h ≠ 0 → Φ (noH, histE h)) : history_check_W h Φ := by
  unfold histE at k0 k1
  refine image_New_ok (fun hs => ⟨fun q => absurd rfl q, fun _ => ?_⟩) fun hs => ⟨fun _ => ?_, fun q => absurd hs q⟩
  · rw [if_neg (by omega)] at k0 k1
    refine ⟨fun q => ?_, fun q => ?_⟩
    · rw [if_pos q] at k1; exact k1 (by omega)
    rw [if_neg q] at k0 k1
    have hi : imgE (zeroI h.Sizes) = 0 := by unfold imgE; rw [szs_zeroI hs, hs]
    refine LoopW.errI (Ψ := fun e => (e = 0 → LoopW (history_check_L2 h Φ) (0, [], [])) ∧ (e ≠ 0 → Φ (noH, e))) h.Writes.length (fun k => (k : Int)) (fun k => fitW h.Sizes (ix h.Writes (k : Int))) rfl ⟨fun hf => ?_, fun hf => ?_⟩
      (fun k rec hk _ h1 h2 => ⟨fun _ => ⟨iX (by omega) (by omega), image_Fits_ok (by have := hh.data k hk; omega) hi ?_⟩, fun _ => by omega⟩) fun rec _ h0 => ⟨fun _ => by omega, fun _ => h0.1 rfl⟩
    · rw [if_neg (by omega)] at k0 k1
      unfold evE at k0 k1
      refine LoopW.errI (Ψ := fun e => (e = 0 → (cntI h.Events h.Events.length < h.Writes.length → Φ (noH, 3)) ∧ (¬ cntI h.Events h.Events.length < h.Writes.length → Φ (⟨h, tlH h⟩, 0))) ∧ (e ≠ 0 → Φ (noH, e))) h.Events.length (fun k => ((k : Int), issL h.Events k, ackL h.Events k))
        (evErr h.Events h.Writes.length) rfl ⟨fun hf => ⟨fun hc => ?_, fun hc => ?_⟩, fun hf => ?_⟩ (fun k rec hk h0 h1 h2 => ⟨fun _ => ⟨iX (by omega) (by omega), ?_⟩, fun _ => by omega⟩) fun rec _ h0 => ⟨fun _ => by omega, fun _ => ⟨fun q => ?_, fun q => ?_⟩⟩
      · rw [if_neg (by omega), if_pos hc] at k1; exact k1 (by omega)
      · rw [if_neg (by omega), if_neg hc] at k0; exact k0 rfl
      · rw [if_pos hf] at k1; exact k1 hf
      · have hev := hh.ev
        have hcl := cntI_le h.Events k
        have fail : ∀ e : Int, e ≠ 0 → evErr h.Events h.Writes.length k = e → history_check_J3 (k : Int) rec Φ (e, issL h.Events k, ackL h.Events k) := fun e he hq => ⟨fun _ => (by have := (h1 (by rw [hq]; exact he)).2 (by rw [hq]; exact he); rw [hq] at this; exact this), fun q => absurd he q⟩
        have good : evErr h.Events h.Writes.length k = 0 → history_check_J3 (k : Int) rec Φ (0, issL h.Events (k + 1), ackL h.Events (k + 1)) := fun hq => ⟨fun q => absurd rfl q, fun _ => ⟨iI (by omega) (by omega), h2 hq _ rfl⟩⟩
        have hz : evErr h.Events h.Writes.length k = 0 → ∀ j, j < k + 1 → evErr h.Events h.Writes.length j = 0 := fun hq j hj => by
          rcases Nat.lt_or_ge j k with h3 | h3
          · exact h0 j h3
          · obtain rfl : j = k := by omega
            exact hq
        show (_ → _) ∧ _
        refine ⟨fun hk0 => ⟨fun q => ?_, fun q => ⟨fun r => ?_, fun r => ?_⟩⟩, fun hk0 => ⟨fun hk1 => ⟨fun q => ?_, fun q => ⟨fun r => ?_, fun r => ?_⟩⟩, fun hk1 => ?_⟩⟩
        · rw [issL_len] at q
          exact fail 3 (by omega) (by unfold evErr; rw [if_pos hk0, if_pos (.inl q)])
        · rw [issL_len] at q
          exact fail 3 (by omega) (by unfold evErr; rw [if_pos hk0, if_pos (by omega)])
        · rw [issL_len] at q
          have e0 : evErr h.Events h.Writes.length k = 0 := by unfold evErr; rw [if_pos hk0, if_neg (by omega)]
          refine ⟨iL (by rw [len_snoc, issL_len]; omega) (by omega), iL (by rw [len_snoc, ackL_len]; omega) (by omega), ?_⟩
          have := good e0
          rw [issL_issue (hz e0) hk0, ackL_issue (hz e0) hk0] at this; exact this
        · exact fail 7 (by omega) (by unfold evErr; rw [if_neg hk0, if_neg (by omega), if_pos (.inl q)])
        · rw [issL_len] at r
          exact fail 7 (by omega) (by unfold evErr; rw [if_neg hk0, if_neg (by omega), if_pos (.inr r)])
        · rw [issL_len] at r
          obtain ⟨w, hw⟩ := Int.eq_ofNat_of_zero_le (show 0 ≤ (ix h.Events (k : Int)).Write by omega)
          have hwl : w < cntI h.Events k := by omega
          have ha : ix (ackL h.Events k) (ix h.Events (k : Int)).Write = atN h.Events k (ix h.Events (k : Int)) := by
            rw [hw, ix_ackL hwl]
            congr 1
            cases hx : ix h.Events (k : Int) with
            | mk a b => rw [hx] at hw hk1; simp only at hw hk1; rw [hw, hk1]
          have hX : inX (ix h.Events (k : Int)).Write (ackL h.Events k).length := iX (by omega) (by rw [ackL_len]; omega)
          refine ⟨hX, fun s => ?_, fun s => ⟨hX, ?_⟩⟩
          · rw [ha] at s
            exact fail 8 (by omega) (by unfold evErr; rw [if_neg hk0, if_neg (by omega), if_neg (by omega), if_pos s])
          · rw [ha] at s
            have e0 : evErr h.Events h.Writes.length k = 0 := by unfold evErr; rw [if_neg hk0, if_neg (by omega), if_neg (by omega), if_neg s]
            have := good e0
            rw [issL_ack hk0, ackL_ack (hz e0) hk0] at this; exact this
        · exact fail 3 (by omega) (by unfold evErr; rw [if_neg hk0, if_pos hk1])
      · rw [issL_len] at q; exact (h0.1 rfl).1 (by omega)
      · rw [issL_len] at q; exact (h0.1 rfl).2 (by omega)
    · rw [if_pos hf] at k1; exact k1 hf
    · rw [szs_zeroI hs]
      exact ⟨fun q => (h1 q).2 q, fun q => ⟨iI (by have := hh.wr; omega) (by have := hh.wr; omega), h2 (Classical.not_not.1 q) _ rfl⟩⟩
  · rw [if_pos hs] at k1; exact k1 hs
theorem LoopW.lst {α S : Type} {step : (List α × S) → ((List α × S) → Prop) → Prop} (L : List α) (acc : Nat → S) {s0 : S} (hs : s0 = acc 0)
    (h : ∀ (k : Nat) (hk : k < L.length) rec, (∀ s, s = acc (k + 1) → rec (L.drop (k + 1), s)) → step (L[k] :: L.drop (k + 1), acc k) rec) (he : ∀ rec, step ([], acc L.length) rec) : LoopW step (L, s0) :=
  LoopW.upT L.length (fun k => (L.drop k, acc k)) (by rw [hs]; rfl) (fun k rec hk hr => by rw [List.drop_eq_getElem_cons hk]; exact h k hk rec fun s e => hr _ (by rw [e])) fun rec => by rw [List.drop_length]; exact he rec
theorem sub0 {α : Type} (xs : List α) (k : Nat) : sub xs 0 (k : Int) = xs.take k := by unfold sub; simp
theorem histE_zero {h : api_History} (hz : histE h = 0) : sizesE h.Sizes = 0 ∧ h.Writes.length ≤ 4096 ∧ (∀ w ∈ h.Writes, fitW h.Sizes w = 0) ∧ evE h = 0 := by
  unfold histE at hz
  by_cases q : sizesE h.Sizes ≠ 0
  · rw [if_pos q] at hz; exact absurd hz q
  rw [if_neg q] at hz
  by_cases r : 4096 < (h.Writes.length : Int)
  · rw [if_pos r] at hz; cases hz
  rw [if_neg r] at hz
  by_cases s : firstN (fun k => fitW h.Sizes (ix h.Writes (k : Int))) h.Writes.length ≠ 0
  · rw [if_pos s] at hz; exact absurd hz s
  rw [if_neg s] at hz
  refine ⟨Classical.not_not.1 q, by omega, fun w hw => ?_, hz⟩
  obtain ⟨k, hk, rfl⟩ := List.getElem_of_mem hw
  have := firstN_zero.1 (Classical.not_not.1 s) k hk
  rw [ix_get hk] at this; exact this
def isSetP (l : List Int) (n : Int) (k : Nat) : Bool := decide (0 ≤ ix l (k : Int) ∧ ix l (k : Int) < n ∧ (0 < k → ix l ((k : Int) - 1) < ix l (k : Int)))
def isSetB (l : List Int) (n : Int) : Bool := allN (isSetP l n) l.length
theorem isSetB_at {l : List Int} {n : Int} (h : isSetB l n = true) {k : Nat} (hk : k < l.length) : 0 ≤ ix l (k : Int) ∧ ix l (k : Int) < n ∧ (0 < k → ix l ((k : Int) - 1) < ix l (k : Int)) := of_decide_eq_true (allN_true.1 h k hk)
theorem isSetB_lt {l : List Int} {n : Int} (h : isSetB l n = true) {i j : Nat} (hij : i < j) (hj : j < l.length) : ix l (i : Int) < ix l (j : Int) := by
  induction j with
  | zero => omega
  | succ j ih =>
    have := (isSetB_at h hj).2.2 (by omega)
    rw [show ((j + 1 : Nat) : Int) - 1 = (j : Int) by omega] at this
    rcases Nat.lt_or_ge i j with q | q
    · have := ih q (by omega); omega
    · obtain rfl : i = j := by omega
      exact this
theorem isSetB_len {l : List Int} {n : Int} (h : isSetB l n = true) : ∀ {k : Nat}, k < l.length → (k : Int) ≤ ix l (k : Int)
  | 0, hk => (isSetB_at h hk).1
  | k + 1, hk => by have h1 := isSetB_len h (k := k) (by omega); have h2 : ix l (k : Int) < ix l ((k + 1 : Nat) : Int) := isSetB_lt h (Nat.lt_succ_self k) hk; omega
theorem isSetB_le {l : List Int} {n : Int} (h : isSetB l n = true) (hn : 0 ≤ n) : (l.length : Int) ≤ n := by
  rcases Nat.eq_zero_or_pos l.length with q | q
  · omega
  · have := isSetB_len h (k := l.length - 1) (by omega); have := (isSetB_at h (k := l.length - 1) (by omega)).2.1; omega
theorem isSetB_mem {l : List Int} {n : Int} (h : isSetB l n = true) {x : Int} (hx : x ∈ l) : 0 ≤ x ∧ x < n := by
  obtain ⟨k, hk, rfl⟩ := List.getElem_of_mem hx
  have := isSetB_at h hk
  rw [ix_get hk] at this; exact ⟨this.1, this.2.1⟩
theorem mem_ix {α : Type} [Dt α] {xs : List α} {i : Int} (h0 : 0 ≤ i) (h1 : i < (xs.length : Int)) : ix xs i ∈ xs := ix_mem ⟨h0, h1⟩
def fewH (h : api_History) : Bool := decide (h.Sizes.length ≤ 9 ∧ h.Writes.length ≤ 40 ∧ h.Events.length ≤ 90) && (h.Sizes.all (fun n => decide (n ≤ 24)) && h.Writes.all fun w => decide (w.Data.length ≤ 30))
theorem ref15_Few_ok {h : api_History} {Φ : Bool → Prop} (hΦ : Φ (fewH h)) : ref15_Few_W h Φ := by
  unfold fewH at hΦ
  refine ⟨fun q => by rw [decide_eq_false (by omega)] at hΦ; exact hΦ, fun q => ⟨fun r => by rw [decide_eq_false (by omega)] at hΦ; exact hΦ, fun r => ⟨fun s => by rw [decide_eq_false (by omega)] at hΦ; exact hΦ, fun s => ?_⟩⟩⟩
  rw [decide_eq_true (by omega), Bool.true_and] at hΦ
  refine LoopW.findI h.Sizes.length (fun k => !decide (ix h.Sizes (k : Int) ≤ 24)) (fun k rec hk _ hr => ⟨fun _ => ⟨iX (by omega) (by omega), fun t => ?_, fun t => ⟨iI (by omega) (by omega), hr (by simp; omega)⟩⟩, fun _ => by omega⟩) fun rec hn => ⟨fun _ => by omega, fun _ => ?_⟩
  · rw [show h.Sizes.all (fun n => decide (n ≤ 24)) = false from by
      rw [List.all_eq_not_any_not, any_true_ix hk (by simp; omega)]; rfl] at hΦ
    exact hΦ
  · rw [show h.Sizes.all (fun n => decide (n ≤ 24)) = true from by
      rw [List.all_eq_not_any_not, any_false_ix fun k hk => by simpa using hn k hk]; rfl, Bool.true_and] at hΦ
    exact LoopW.allE h.Writes (fun w => decide (w.Data.length ≤ 30)) hΦ (fun k rec hk h1 h2 => ⟨fun _ => ⟨iX (by omega) (by omega), fun t => h1 (decide_eq_false (by omega)), fun t => ⟨iI (by omega) (by omega), h2 (decide_eq_true (by omega))⟩⟩, fun _ => by omega⟩) fun rec h0 => ⟨fun _ => by omega, fun _ => h0⟩
theorem fewH_small {h : api_History} (hf : fewH h = true) : SmallH h ∧ h.Writes.length ≤ 40 := by
  unfold fewH at hf
  rw [Bool.and_eq_true, Bool.and_eq_true, decide_eq_true_iff] at hf
  refine ⟨⟨by omega, by omega, fun k hk => ?_⟩, by omega⟩
  have := List.all_eq_true.1 hf.2.2 (ix h.Writes (k : Int)) (mem_ix (by omega) (by omega))
  have := of_decide_eq_true this
  omega
def wr (h : api_History) (i : Nat) : api_Write := ix h.Writes (i : Int)
theorem hist_wr {h : api_History} (hz : histE h = 0) : h.Writes.length ≤ 4096 := by
  unfold histE at hz
  split at hz
  · rename_i q; exact absurd hz q
  · split at hz
    · omega
    · omega
theorem history_Check_ok {h : api_History} {Φ : Int → Prop} (hh : SmallH h) (hΦ : Φ (histE h)) : history_Check_W h Φ :=
  history_check_ok hh (fun q => by rw [q] at hΦ; exact hΦ) fun _ => hΦ
theorem paste_rep {a z : Int} {c m : Nat} : paste (List.replicate c a ++ List.replicate m z) (c : Int) (List.replicate c a) = List.replicate (c + min c m) a ++ List.replicate (m - min c m) z := by
  unfold paste
  rw [Int.toNat_natCast, List.length_append, List.length_replicate, List.length_replicate, Nat.add_sub_cancel_left, List.take_left' List.length_replicate, List.take_replicate, ← List.append_assoc, List.replicate_append_replicate, List.drop_append, List.length_replicate, List.drop_replicate, List.drop_replicate,
    show c - (c + min c m) = 0 by omega, show m - (c + min c m - c) = m - min c m by omega, show min m c = min c m by omega]
  rfl
theorem repeat_loop {a : Int} {n c : Nat} {Φ : List Int → Prop} (hn : n ≤ 100000) (hc : c ≤ n) (h0 : 0 < c ∨ n = 0) (hΦ : Φ (List.replicate n a)) : LoopW (slices_Repeat_int_int_L2 Φ) ((c : Int), List.replicate c a ++ List.replicate (n - c) 0) := by
  refine LoopW.of_inv (fun s => ∃ c : Nat, s = ((c : Int), List.replicate c a ++ List.replicate (n - c) 0) ∧ c ≤ n ∧ (0 < c ∨ n = 0)) (fun s => (n : Int).toNat - s.1.toNat) ?_ ⟨c, rfl, hc, h0⟩
  rintro _ rec ⟨c, rfl, hc, h0⟩ hrec
  have hl : (List.replicate c a ++ List.replicate (n - c) (0 : Int)).length = n := by rw [List.length_append, List.length_replicate, List.length_replicate]; omega
  have hs : sub (List.replicate c a ++ List.replicate (n - c) (0 : Int)) 0 (c : Int) = List.replicate c a := by
    rw [sub0, List.take_left' List.length_replicate]
  refine ⟨fun q => ?_, fun q => ?_⟩
  · rw [hs, hl, paste_rep, List.length_replicate, Int.toNat_natCast]
    rw [hl] at q
    refine ⟨⟨by omega, by omega, by omega⟩, ⟨by omega, by omega, by omega⟩, iI (by omega) (by omega), hrec _ ⟨c + min c (n - c), ?_, by omega, .inl (by omega)⟩ ?_⟩
    · rw [show n - (c + min c (n - c)) = n - c - min c (n - c) by omega]; rfl
    · show (n : Int).toNat - ((c : Int) + ((min c (n - c) : Nat) : Int)).toNat < (n : Int).toNat - ((c : Int)).toNat
      omega
  · rw [hl] at q
    obtain rfl : c = n := by omega
    rw [Nat.sub_self, List.replicate_zero, List.append_nil]
    exact hΦ
theorem shr32 {n : Nat} (hn : n ≤ 100000) : (BitVec.ofNat 64 n) >>> 32 = 0#64 := by
  apply BitVec.eq_of_toNat_eq
  rw [BitVec.toNat_ushiftRight, BitVec.toNat_ofNat, Nat.mod_eq_of_lt (by omega), Nat.shiftRight_eq_div_pow]
  show n / 4294967296 = 0
  omega
theorem and32 {n : Nat} (hn : n ≤ 100000) : (BitVec.ofNat 64 n) &&& 4294967295#64 = BitVec.ofNat 64 n := by
  apply BitVec.eq_of_toNat_eq
  rw [BitVec.toNat_and, BitVec.toNat_ofNat, Nat.mod_eq_of_lt (by omega)]
  show n &&& (2 ^ 32 - 1) = n
  rw [Nat.and_two_pow_sub_one_eq_mod]
  omega
theorem mul_one_ok {n : Nat} {Φ : BitVec 64 × BitVec 64 → Prop} (hn : n ≤ 100000) (hΦ : Φ (0#64, BitVec.ofNat 64 n)) : math_bits_Mul_W (BitVec.ofInt 64 ((1 : Nat) : Int)) (BitVec.ofInt 64 (n : Int)) Φ := by
  have e1 : BitVec.ofInt 64 ((1 : Nat) : Int) = 1#64 := rfl
  have e2 : BitVec.ofInt 64 (n : Int) = BitVec.ofNat 64 n := BitVec.ofInt_natCast ..
  have e3 : ((32#64).toNat : Int).toNat = 32 := rfl
  have e4 : (1#64) >>> 32 = 0#64 := rfl
  have e5 : (1#64) &&& 4294967295#64 = 1#64 := rfl
  show Φ _
  rw [e1, e2]
  simp only [e3, e4, e5, shr32 hn, and32 hn, BitVec.zero_mul, BitVec.mul_zero, BitVec.one_mul, BitVec.zero_add, BitVec.add_zero, BitVec.zero_and]
  exact hΦ
theorem slices_Repeat_int_ok {a : Int} {n : Nat} {Φ : List Int → Prop} (hn : n ≤ 100000) (hΦ : Φ (List.replicate n a)) : slices_Repeat_int_int_W [a] (n : Int) Φ := by
  have e : (BitVec.ofNat 64 n).toInt = (n : Int) := by rw [BitVec.toInt_eq_toNat_cond, BitVec.toNat_ofNat, Nat.mod_eq_of_lt (by omega), if_pos (by omega)]
  have no : slices_Repeat_int_int_J1 [a] (0#64, BitVec.ofNat 64 n) Φ false := by
    refine ⟨fun q => Bool.noConfusion q, fun _ => ⟨by show 0 ≤ (BitVec.ofNat 64 n).toInt; rw [e]; omega, ?_, ?_⟩⟩
    · show lenOk (BitVec.ofNat 64 n).toInt.toNat 8
      rw [e]
      exact ⟨by show n * 8 ≤ _; omega, by show n ≤ maxLen; unfold maxLen; omega⟩
    · show LoopW (slices_Repeat_int_int_L2 Φ) (((min 1 ((List.replicate (BitVec.ofNat 64 n).toInt.toNat (0 : Int)).length - 0) : Nat) : Int), paste (List.replicate (BitVec.ofNat 64 n).toInt.toNat (0 : Int)) 0 [a])
      rw [e, Int.toNat_natCast, List.length_replicate, Nat.sub_zero]
      have h := repeat_loop (a := a) (n := n) (c := min 1 n) hn (by omega) (by omega) hΦ
      have p : paste (List.replicate n (0 : Int)) 0 [a] = List.replicate (min 1 n) a ++ List.replicate (n - min 1 n) 0 := by
        cases n with
        | zero => rfl
        | succ n => rw [show min 1 (n + 1) = 1 by omega, Nat.add_sub_cancel, List.replicate_succ]; unfold paste; simp
      rw [p]; exact h
  refine ⟨fun q => by omega, fun _ => mul_one_ok hn ⟨fun q => ?_, fun _ => ?_⟩⟩
  · exact absurd (show (0#64) < (0#64) from q) (by decide)
  · rw [show decide ((9223372036854775807#64) < (BitVec.ofNat 64 n)) = false from ?_]
    · exact no
    · rw [decide_eq_false_iff_not, BitVec.lt_def]
      have : (BitVec.ofNat 64 n).toNat = n := by rw [BitVec.toNat_ofNat, Nat.mod_eq_of_lt (by omega)]
      rw [this]
      show ¬ (9223372036854775807 < n)
      omega
def relL (l : List api_HistoryEvent) (t : Int) (n : Nat) (N : Int) (k : Nat) : List Int := (List.range n).map fun w : Nat => if 0 ≤ atN l k ⟨t, (w : Int)⟩ then atN l k ⟨t, (w : Int)⟩ else N
theorem relL_len {l : List api_HistoryEvent} {t : Int} {n k : Nat} {N : Int} : (relL l t n N k).length = n := by unfold relL; rw [List.length_map, List.length_range]
theorem ix_relL {l : List api_HistoryEvent} {t : Int} {n k w : Nat} {N : Int} (h : w < n) : ix (relL l t n N k) (w : Int) = if 0 ≤ atN l k ⟨t, (w : Int)⟩ then atN l k ⟨t, (w : Int)⟩ else N := by
  rw [ix_get (by rw [relL_len]; exact h)]
  unfold relL
  rw [List.getElem_map, List.getElem_range]
theorem relL_zero {l : List api_HistoryEvent} {t : Int} {n : Nat} {N : Int} : relL l t n N 0 = List.replicate n N := by
  unfold relL
  rw [List.eq_replicate_iff]
  refine ⟨by rw [List.length_map, List.length_range], fun x hx => ?_⟩
  obtain ⟨w, _, rfl⟩ := List.mem_map.1 hx
  rw [if_neg (by show ¬ (0 : Int) ≤ -1; omega)]
theorem relL_miss {l : List api_HistoryEvent} {t : Int} {n k : Nat} {N : Int} (h : (ix l (k : Int)).Kind ≠ t) : relL l t n N (k + 1) = relL l t n N k := by
  unfold relL
  refine List.map_congr_left fun w _ => ?_
  rw [atN_keep fun e => h (by rw [e])]
theorem relL_hit {l : List api_HistoryEvent} {t : Int} {n k w : Nat} {N : Int} (hw : w < n) (h : ix l (k : Int) = ⟨t, (w : Int)⟩) (hn : ¬ 0 ≤ atN l k ⟨t, (w : Int)⟩) : relL l t n N (k + 1) = put (relL l t n N k) (w : Int) (k : Int) := by
  have hp : ∀ j : Nat, j < n → ix (relL l t n N (k + 1)) (j : Int) = ix (put (relL l t n N k) (w : Int) (k : Int)) (j : Int) := by
    intro j hj
    rw [ix_relL hj, ix_put _ _ (by rw [relL_len]; exact hw)]
    by_cases q : j = w
    · subst q
      rw [if_pos rfl, atN_succ, if_neg hn, if_pos h, if_pos (by omega)]
    · rw [if_neg q, ix_relL hj, atN_keep fun e => q ?_]
      rw [h] at e
      exact (Int.ofNat.inj (congrArg api_HistoryEvent.Write e)).symm
  exact ext_ix (by rw [put_len, relL_len, relL_len]) fun j hj => hp j (by rw [relL_len] at hj; exact hj)
theorem hist_ev {h : api_History} (hz : histE h = 0) {k : Nat} (hk : k < h.Events.length) : evErr h.Events h.Writes.length k = 0 := by
  unfold histE at hz
  split at hz
  · rename_i q; exact absurd hz q
  · split at hz
    · omega
    · split at hz
      · rename_i q; exact absurd hz q
      · unfold evE at hz
        by_cases r : firstN (evErr h.Events h.Writes.length) h.Events.length ≠ 0
        · rw [if_pos r] at hz; exact absurd hz r
        · exact firstN_zero.1 (Classical.not_not.1 r) k hk
theorem ev_put {h : api_History} (hz : histE h = 0) {N : Int} {k : Nat} (hk : k < h.Events.length) :
    ((ix h.Events (k : Int)).Kind = 0 → ∃ w : Nat, (ix h.Events (k : Int)).Write = (w : Int) ∧ w < h.Writes.length ∧ relL h.Events 0 h.Writes.length N (k + 1) = put (relL h.Events 0 h.Writes.length N k) (w : Int) (k : Int) ∧ relL h.Events 1 h.Writes.length N (k + 1) = relL h.Events 1 h.Writes.length N k) ∧
    ((ix h.Events (k : Int)).Kind ≠ 0 → ∃ w : Nat, (ix h.Events (k : Int)).Write = (w : Int) ∧ w < h.Writes.length ∧ relL h.Events 1 h.Writes.length N (k + 1) = put (relL h.Events 1 h.Writes.length N k) (w : Int) (k : Int) ∧ relL h.Events 0 h.Writes.length N (k + 1) = relL h.Events 0 h.Writes.length N k) := by
  have h0 : ∀ j, j < k → evErr h.Events h.Writes.length j = 0 := fun j hj => hist_ev hz (by omega)
  refine ⟨fun q => ?_, fun q => ?_⟩
  · have e := evErr_issue (hist_ev hz hk) q
    refine ⟨cntI h.Events k, by rw [e.1], e.2, relL_hit e.2 e.1 (fun t => by have := (at_issue h0 _).1 t; omega), relL_miss (by rw [q]; decide)⟩
  · have e := evErr_ack (hist_ev hz hk) q
    have c := cnt_le h0
    have w : (((ix h.Events (k : Int)).Write.toNat : Nat) : Int) = (ix h.Events (k : Int)).Write := Int.toNat_of_nonneg e.2.1
    refine ⟨(ix h.Events (k : Int)).Write.toNat, w.symm, by omega, relL_hit (by omega) (by rw [w]; exact e.1) (by rw [w, ← e.1, e.2.2.2]; omega), relL_miss q⟩
def issW (h : api_History) : List Int := relL h.Events 0 h.Writes.length h.Events.length h.Events.length
def ackW (h : api_History) : List Int := relL h.Events 1 h.Writes.length h.Events.length h.Events.length
theorem least_relate {h : api_History} {l : List Int} {Φ : List Int × Int → Prop} (hh : SmallH h) (hz : histE h = 0) (he : LoopW (cut_Least_L3 h l (issW h) (ackW h) Φ) (0, [])) :
    LoopW (cut_Least_L2 h l Φ) (0, List.replicate h.Writes.length (h.Events.length : Int), List.replicate h.Writes.length (h.Events.length : Int)) := by
  have hev := hh.ev
  refine LoopW.upT h.Events.length (fun k => ((k : Int), relL h.Events 0 h.Writes.length h.Events.length k, relL h.Events 1 h.Writes.length h.Events.length k)) (by rw [relL_zero, relL_zero]; rfl) (fun k rec hk hr => ⟨fun _ => ⟨iX (by omega) (by omega), fun q => ?_, fun q => ?_⟩, fun r => by omega⟩) fun rec => ⟨fun r => by omega, fun _ => ⟨fun r => absurd rfl r, fun _ => he⟩⟩
  · obtain ⟨w, e1, e2, e3, e4⟩ := (ev_put hz (N := (h.Events.length : Int)) hk).1 q
    refine ⟨iX (by rw [e1]; omega) (by rw [e1, relL_len]; omega), iI (by omega) (by omega), hr _ ?_⟩
    rw [e1, e3, e4]; rfl
  · obtain ⟨w, e1, e2, e3, e4⟩ := (ev_put hz (N := (h.Events.length : Int)) hk).2 q
    refine ⟨iX (by rw [e1]; omega) (by rw [e1, relL_len]; omega), iI (by omega) (by omega), hr _ ?_⟩
    rw [e1, e3, e4]; rfl
def markL (n : Nat) (l : List Int) : List Bool := (List.range n).map fun w : Nat => decide ((w : Int) ∈ l)
theorem markL_len {n : Nat} {l : List Int} : (markL n l).length = n := by unfold markL; rw [List.length_map, List.length_range]
theorem ix_markL {n w : Nat} {l : List Int} (h : w < n) : ix (markL n l) (w : Int) = decide ((w : Int) ∈ l) := by
  rw [ix_get (by rw [markL_len]; exact h)]
  unfold markL
  rw [List.getElem_map, List.getElem_range]
theorem markL_put {n k w : Nat} {l : List Int} (hk : k < l.length) (hw : w < n) (e : ix l (k : Int) = (w : Int)) : markL n (l.take (k + 1)) = put (markL n (l.take k)) (w : Int) true := by
  refine ext_ix (by rw [put_len, markL_len, markL_len]) fun j hj => ?_
  rw [markL_len] at hj
  rw [ix_markL hj, ix_put _ _ (by rw [markL_len]; exact hw), ix_markL hj, take_ix hk, e]
  by_cases q : j = w
  · rw [if_pos q, q, decide_eq_true_iff]; simp
  · rw [if_neg q]
    have : (j : Int) ≠ (w : Int) := by omega
    simp [this]
theorem cut_relation_mark_ok {r : Ptr cut_relation} {n : Nat} {l : List Int} {Φ : List Bool × Bool → Prop} (hr : r.val.n = (n : Int)) (hn : n ≤ 100000) (hl : l.length ≤ 1000000) (h1 : isSetB l (n : Int) = true → Φ (markL n l, true)) (h0 : isSetB l (n : Int) = false → Φ ([], false)) : cut_relation_mark_W r l Φ := by
  unfold cut_relation_mark_W
  rw [hr]
  have z : List.replicate n false = markL n (l.take 0) := by
    refine ext_ix (by rw [markL_len, List.length_replicate]) fun j hj => ?_
    rw [List.length_replicate] at hj
    rw [ix_markL hj, ix_get (by rw [List.length_replicate]; exact hj), List.getElem_replicate]; simp
  refine ⟨by omega, ⟨by rw [Int.toNat_natCast]; omega, by rw [Int.toNat_natCast]; unfold maxLen; omega⟩, ?_⟩
  rw [Int.toNat_natCast, z]
  refine LoopW.upI l.length (fun k => ((k : Int), markL n (l.take k))) (fun k => ∀ j, j < k → isSetP l (n : Int) j = true) rfl (fun j hj => absurd hj (Nat.not_lt_zero j)) (fun k rec hk hI hrec => ⟨fun _ => ⟨iX (by omega) (by omega), ?_⟩, fun q => by omega⟩) fun rec hI => ⟨fun q => by omega, fun _ => ?_⟩
  · have bad : isSetP l (n : Int) k = false → cut_relation_mark_J2 l (k : Int) (markL n (l.take k)) rec Φ true := fun t => ⟨fun _ => h0 (allN_false hk t), fun u => absurd rfl u⟩
    have good : isSetP l (n : Int) k = true → 0 ≤ ix l (k : Int) → ix l (k : Int) < (n : Int) → cut_relation_mark_J2 l (k : Int) (markL n (l.take k)) rec Φ false := fun t a b => ⟨fun u => Bool.noConfusion u, fun _ => ⟨iX a (by rw [markL_len]; exact b), iI (by omega) (by omega), hrec (fun j hj => by
      rcases Nat.lt_or_ge j k with c | c
      · exact hI j c
      · obtain rfl : j = k := by omega
        exact t) _ (by
      have w : (((ix l (k : Int)).toNat : Nat) : Int) = ix l (k : Int) := Int.toNat_of_nonneg a
      rw [markL_put hk (w := (ix l (k : Int)).toNat) (by omega) w.symm, w]; rfl)⟩⟩
    unfold isSetP at bad good
    refine ⟨fun q => bad (decide_eq_false (by omega)), fun q => ⟨fun s => bad (decide_eq_false (by rw [hr] at s; omega)), fun s => ?_⟩⟩
    rw [hr] at s
    refine ⟨fun t => ⟨iI (by omega) (by omega), iX (by omega) (by omega), ?_⟩, fun t => good (decide_eq_true ⟨by omega, by omega, fun u => by omega⟩) (by omega) (by omega)⟩
    by_cases u : ix l (k : Int) ≤ ix l ((k : Int) - 1)
    · rw [decide_eq_true u]; exact bad (decide_eq_false (by omega))
    · rw [decide_eq_false u]; exact good (decide_eq_true ⟨by omega, by omega, fun _ => by omega⟩) (by omega) (by omega)
  · have := h1 (allN_true.2 hI)
    rw [List.take_length]; exact this
def memL (ms : List Bool) (k : Nat) : List (Int × Unit) := ((List.range' k (ms.length - k)).filter fun w : Nat => ix ms (w : Int)).map fun w : Nat => ((w : Int), ())
theorem memL_step {ms : List Bool} {k : Nat} (h : k < ms.length) : memL ms k = if ix ms (k : Int) = true then ((k : Int), ()) :: memL ms (k + 1) else memL ms (k + 1) := by
  unfold memL
  rw [show ms.length - k = (ms.length - (k + 1)) + 1 by omega, List.range'_succ, List.filter_cons]
  by_cases q : ix ms (k : Int) = true
  · rw [if_pos q, if_pos q]; rfl
  · rw [if_neg q, if_neg q]
theorem marks_members_ok {ms : List Bool} (hl : ms.length ≤ 1000000) : cut_marks_members_1_I ms (memL ms 0) := by
  refine LoopW.upT ms.length (fun k => (memL ms k, (k : Int))) rfl (fun k rec hk hr => ⟨fun _ => ⟨iX (by omega) (by omega), fun q => ?_, fun q => ⟨iI (by omega) (by omega), hr _ (by rw [memL_step hk, if_neg q]; rfl)⟩⟩, fun q => by omega⟩) fun rec => ⟨fun q => by omega, fun _ => by show memL ms ms.length = []; unfold memL; rw [Nat.sub_self]; rfl⟩
  rw [memL_step hk, if_pos q]
  exact ⟨rfl, ⟨iI (by omega) (by omega), hr _ rfl⟩, trivial⟩
theorem memL_le {ms : List Bool} {k : Nat} : (memL ms k).length ≤ ms.length := by
  unfold memL
  rw [List.length_map]
  have := List.length_filter_le (fun w : Nat => ix ms (w : Int)) (List.range' k (ms.length - k))
  rw [List.length_range'] at this
  omega
theorem marks_list_ok {ms : List Bool} {Φ : List Int → Prop} (hl : ms.length ≤ 1000000) (hΦ : Φ ((memL ms 0).map Prod.fst)) : cut_marks_list_W ms Φ := by
  have hm := memL_le (ms := ms) (k := 0)
  refine ⟨_, marks_members_ok hl, LoopW.lst (memL ms 0) (fun k => ((memL ms 0).take k).map Prod.fst) rfl (fun k hk rec hr => ⟨⟨?_, ?_⟩, hr _ ?_⟩) fun rec => by show Φ _; rw [List.take_length]; exact hΦ⟩
  · show (List.map Prod.fst ((memL ms 0).take k) ++ [_]).length * 8 ≤ _
    rw [List.length_append, List.length_map, List.length_take, List.length_singleton]; omega
  · show (List.map Prod.fst ((memL ms 0).take k) ++ [_]).length ≤ maxLen
    rw [List.length_append, List.length_map, List.length_take, List.length_singleton]; unfold maxLen; omega
  · rw [List.take_succ_eq_append_getElem hk, List.map_append]; rfl
def befC (h : api_History) (a b : Nat) : Bool := decide (ix (ackW h) (a : Int) < ix (issW h) (b : Int))
theorem cut_before_ok {h : api_History} {n e : Int} {a b : Nat} {Φ : Bool → Prop} (ha : a < h.Writes.length) (hb : b < h.Writes.length) (hΦ : Φ (befC h a b)) : cut_relation_before_W (Ptr.mk (cut_relation.mk n e (issW h) (ackW h))) (a : Int) (b : Int) Φ :=
  ⟨iX (by omega) (by show (a : Int) < ((ackW h).length : Int); unfold ackW; rw [relL_len]; omega), iX (by omega) (by show (b : Int) < ((issW h).length : Int); unfold issW; rw [relL_len]; omega), hΦ⟩
def growL (h : api_History) (ms : List Bool) (b k : Nat) : List Bool := (List.range ms.length).map fun a : Nat => ix ms (a : Int) || (decide (a < k) && befC h a b)
theorem growL_len {h : api_History} {ms : List Bool} {b k : Nat} : (growL h ms b k).length = ms.length := by unfold growL; rw [List.length_map, List.length_range]
theorem ix_growL {h : api_History} {ms : List Bool} {b k a : Nat} (ha : a < ms.length) : ix (growL h ms b k) (a : Int) = (ix ms (a : Int) || (decide (a < k) && befC h a b)) := by
  rw [ix_get (by rw [growL_len]; exact ha)]
  unfold growL
  rw [List.getElem_map, List.getElem_range]
theorem growL_zero {h : api_History} {ms : List Bool} {b : Nat} : growL h ms b 0 = ms := ext_ix growL_len fun a ha => by
  rw [growL_len] at ha
  rw [ix_growL ha]; simp
theorem growL_put {h : api_History} {ms : List Bool} {b k : Nat} (hk : k < ms.length) : growL h ms b (k + 1) = put (growL h ms b k) (k : Int) (ix ms (k : Int) || befC h k b) := ext_ix (by rw [put_len, growL_len, growL_len]) fun a ha => by
  rw [growL_len] at ha
  rw [ix_growL ha, ix_put _ _ (by rw [growL_len]; exact hk), ix_growL ha]
  by_cases q : a = k
  · subst q; simp
  · rw [if_neg q]
    have : decide (a < k + 1) = decide (a < k) := decide_eq_decide.2 (by omega)
    rw [this]
theorem least_L5 {h : api_History} {ms : List Bool} {b : Nat} {rec4 : (List (Int × Unit) × List Bool) → Prop} {r : List (Int × Unit)} {Φ : List Int × Int → Prop} (hw : h.Writes.length ≤ 4096) (hm : ms.length = h.Writes.length) (hb : b < h.Writes.length) (hr : rec4 (r, growL h ms b h.Writes.length)) :
    LoopW (cut_Least_L5 h (issW h) (ackW h) rec4 ((b : Int), ()) r Φ) (0, ms) := by
  refine LoopW.upT h.Writes.length (fun k => ((k : Int), growL h ms b k)) (by rw [growL_zero]; rfl) (fun k rec hk hrec => ?_) fun rec => ⟨fun q => by omega, fun _ => hr⟩
  have hx : ix (growL h ms b k) (k : Int) = ix ms (k : Int) := by
    rw [ix_growL (by omega)]
    have : decide (k < k) = false := decide_eq_false (by omega)
    rw [this, Bool.false_and, Bool.or_false]
  have hi : inX (k : Int) (growL h ms b k).length := iX (by omega) (by rw [growL_len]; omega)
  refine ⟨fun _ => ⟨hi, fun q => ⟨hi, iI (by omega) (by omega), hrec _ ?_⟩, fun q => ⟨_, cut_before_ok hk hb rfl, hi, iI (by omega) (by omega), hrec _ ?_⟩⟩, fun q => by omega⟩
  · rw [hx] at q; rw [growL_put (by omega), q]; rfl
  · rw [hx] at q; rw [growL_put (by omega), Bool.eq_false_iff.2 q]; rfl
def growsL (h : api_History) (ms : List Bool) : List (Int × Unit) → List Bool
  | [] => ms
  | p :: l => growsL h (growL h ms p.1.toNat h.Writes.length) l
theorem growsL_len {h : api_History} : ∀ {l : List (Int × Unit)} {ms : List Bool}, (growsL h ms l).length = ms.length
  | [], _ => rfl
  | _ :: l, _ => (growsL_len (l := l)).trans growL_len
theorem least_L4 {h : api_History} {Φ : List Int × Int → Prop} (hw : h.Writes.length ≤ 4096) : ∀ {l : List (Int × Unit)} {ms : List Bool}, ms.length = h.Writes.length → (∀ p ∈ l, 0 ≤ p.1 ∧ p.1 < (h.Writes.length : Int)) → Φ ((memL (growsL h ms l) 0).map Prod.fst, 0) → LoopW (cut_Least_L4 h (issW h) (ackW h) Φ) (l, ms) := by
  intro l ms hm hl hΦ
  refine LoopW.of_inv (fun s => s.2.length = h.Writes.length ∧ (∀ p ∈ s.1, 0 ≤ p.1 ∧ p.1 < (h.Writes.length : Int)) ∧ Φ ((memL (growsL h s.2 s.1) 0).map Prod.fst, 0)) (fun s => s.1.length) ?_ ⟨hm, hl, hΦ⟩
  rintro ⟨l, ms⟩ rec ⟨hm, hl, hΦ⟩ hrec
  cases l with
  | nil => exact marks_list_ok (by show ms.length ≤ 1000000; have : ms.length = h.Writes.length := hm; omega) hΦ
  | cons p l =>
    obtain ⟨b, u⟩ := p
    have hb := hl (b, u) List.mem_cons_self
    have e : ((b.toNat : Nat) : Int) = b := Int.toNat_of_nonneg hb.1
    have hq := least_L5 (Φ := Φ) (rec4 := rec) (r := l) (b := b.toNat) hw hm (by have := hb.2; have : b < (h.Writes.length : Int) := hb.2; omega) (hrec _ ⟨growL_len.trans hm, fun p hp => hl p (List.mem_cons_of_mem _ hp), hΦ⟩ (by show l.length < l.length + 1; omega))
    rw [e] at hq
    exact hq
def leastC (h : api_History) (l : List Int) : List Int := (memL (growsL h (markL h.Writes.length l) (memL (markL h.Writes.length l) 0)) 0).map Prod.fst
def leastR (h : api_History) (l : List Int) : List Int × Int := if histE h ≠ 0 then ([], histE h) else if isSetB l (h.Writes.length : Int) = false then ([], 2) else (leastC h l, 0)
theorem memL_rg {ms : List Bool} {p : Int × Unit} {k : Nat} (hp : p ∈ memL ms k) : 0 ≤ p.1 ∧ p.1 < (ms.length : Int) := by
  unfold memL at hp
  obtain ⟨w, hw, rfl⟩ := List.mem_map.1 hp
  have := List.mem_range'_1.1 (List.mem_filter.1 hw).1
  exact ⟨by show (0 : Int) ≤ (w : Int); omega, by show (w : Int) < (ms.length : Int); omega⟩
theorem cut_Least_ok {h : api_History} {l : List Int} {Φ : List Int × Int → Prop} (hh : SmallH h) (hl : l.length ≤ 1000000) (hΦ : Φ (leastR h l)) : cut_Least_W h l Φ := by
  unfold leastR at hΦ
  refine history_Check_ok hh ⟨fun q => ⟨fun _ => ⟨fun _ => by rw [if_pos q] at hΦ; exact hΦ, fun r => absurd q r⟩, fun r => absurd q r⟩, fun q => ?_⟩
  rw [if_neg q] at hΦ
  have hz : histE h = 0 := Classical.not_not.1 q
  have hw := hist_wr hz
  refine ⟨_, slices_Repeat_int_ok (by omega) rfl, _, slices_Repeat_int_ok (by omega) rfl, least_relate hh hz ⟨2, ?_⟩⟩
  refine ⟨fun _ => ⟨iX (by omega) (by show (0 : Int) < 1; omega), cut_relation_mark_ok (r := Ptr.mk (cut_relation.mk (h.Writes.length : Int) (h.Events.length : Int) (issW h) (ackW h))) rfl (by omega) hl (fun t => ⟨fun u => absurd rfl u, fun _ => ⟨⟨(by show 1 * 24 ≤ _; omega), (by show 1 ≤ maxLen; unfold maxLen; omega)⟩, iI (by omega) (by omega), ?_⟩⟩) fun t => ⟨fun _ => ⟨fun _ => by rw [if_pos (show isSetB l (h.Writes.length : Int) = false from t)] at hΦ; exact hΦ, fun r => absurd (by decide) r⟩, fun u => absurd (fun v => Bool.noConfusion v) u⟩⟩, fun r => absurd (by show (0 : Int) < 1; omega) r⟩
  have t : isSetB l (h.Writes.length : Int) = true := t
  rw [if_neg (by rw [t]; exact fun x => Bool.noConfusion x)] at hΦ
  refine ⟨fun r => absurd r (by show ¬ ((0 : Int) + 1 < 1); omega), fun _ => ⟨fun r => absurd rfl r, fun _ => ⟨iX (by omega) (by show (0 : Int) < 1; omega), ?_⟩⟩⟩
  have hx : ix (([] : List (List Bool)) ++ [markL h.Writes.length l]) 0 = markL h.Writes.length l := rfl
  have tl : inX 0 (([] : List (List Bool)) ++ [markL h.Writes.length l]).length ∧ ∃ l18, cut_marks_members_1_I (ix (([] : List (List Bool)) ++ [markL h.Writes.length l]) 0) l18 ∧ LoopW (cut_Least_L4 h (issW h) (ackW h) Φ) (l18, markL h.Writes.length l) :=
    ⟨iX (by omega) (by show (0 : Int) < 1; omega), _, marks_members_ok (by rw [hx, markL_len]; omega), least_L4 hw markL_len (fun p hp => by have := memL_rg hp; rw [hx, markL_len] at this; exact this) hΦ⟩
  refine ⟨fun e => ?_, ⟨⟨by show (markL h.Writes.length l).length * 1 ≤ _; rw [markL_len]; omega, by show (markL h.Writes.length l).length ≤ maxLen; rw [markL_len]; unfold maxLen; omega⟩, tl⟩⟩
  have e : markL h.Writes.length l = [] := e
  obtain ⟨t1, l18, t2, t3⟩ := tl
  rw [e] at t3
  exact ⟨t1, l18, t2, t3⟩
def selL (n : Nat) (p : Nat → Bool) : List Int := ((List.range n).filter p).map fun w : Nat => (w : Int)
theorem mem_selL {n : Nat} {p : Nat → Bool} {x : Int} : x ∈ selL n p ↔ ∃ w : Nat, x = (w : Int) ∧ w < n ∧ p w = true := by
  unfold selL
  rw [List.mem_map]
  constructor
  · rintro ⟨w, hw, rfl⟩
    have := List.mem_filter.1 hw
    exact ⟨w, rfl, List.mem_range.1 this.1, this.2⟩
  · rintro ⟨w, rfl, h1, h2⟩
    exact ⟨w, List.mem_filter.2 ⟨List.mem_range.2 h1, h2⟩, rfl⟩
theorem mem_selN {n : Nat} {p : Nat → Bool} {w : Nat} : (w : Int) ∈ selL n p ↔ w < n ∧ p w = true := by
  rw [mem_selL]
  exact ⟨fun ⟨v, e, a⟩ => by obtain rfl := Int.ofNat.inj e; exact a, fun a => ⟨w, rfl, a⟩⟩
theorem selL_congr {n : Nat} {p q : Nat → Bool} (h : ∀ w, w < n → p w = q w) : selL n p = selL n q := by
  unfold selL
  rw [List.filter_congr fun w hw => h w (List.mem_range.1 hw)]
theorem selL_len {n : Nat} {p : Nat → Bool} : (selL n p).length ≤ n := by
  unfold selL
  rw [List.length_map]
  have := List.length_filter_le p (List.range n)
  rw [List.length_range] at this; exact this
theorem selL_succ {n : Nat} {p : Nat → Bool} : selL (n + 1) p = selL n p ++ (if p n = true then [(n : Int)] else []) := by
  unfold selL
  rw [filter_range_snoc, List.map_append]
  by_cases q : p n = true
  · rw [if_pos q, if_pos q]; rfl
  · rw [if_neg q, if_neg q]; rfl
theorem memL_sel {ms : List Bool} : (memL ms 0).map Prod.fst = selL ms.length fun w => ix ms (w : Int) := by
  unfold memL selL
  rw [List.map_map, Nat.sub_zero, ← List.range_eq_range']
  rfl
theorem selL_lt {n : Nat} {p : Nat → Bool} : ∀ {k : Nat}, k < (selL n p).length → 0 ≤ ix (selL n p) (k : Int) ∧ ix (selL n p) (k : Int) < (n : Int) := by
  intro k hk
  obtain ⟨w, e, h1, _⟩ := mem_selL.1 (mem_ix (xs := selL n p) (i := (k : Int)) (by omega) (by omega))
  omega
theorem ix_app_l {xs ys : List Int} {k : Nat} (h : k < xs.length) : ix (xs ++ ys) (k : Int) = ix xs (k : Int) := by
  rw [ix_get (by rw [List.length_append]; omega), ix_get h, List.getElem_append_left h]
theorem selL_set {n : Nat} {p : Nat → Bool} {N : Int} : ∀ {m : Nat}, m ≤ n → (n : Int) ≤ N → isSetB (selL m p) N = true := by
  intro m
  induction m with
  | zero => intro _ _; exact allN_true.2 fun k hk => absurd hk (Nat.not_lt_zero k)
  | succ m ih =>
    intro hm hN
    have h0 := allN_true.1 (ih (by omega) hN)
    rw [selL_succ]
    by_cases q : p m = true
    · rw [if_pos q]
      refine allN_true.2 fun k hk => ?_
      rw [List.length_append, List.length_singleton] at hk
      rcases Nat.lt_or_ge k (selL m p).length with c | c
      · have := of_decide_eq_true (h0 k c)
        refine decide_eq_true ?_
        rw [ix_app_l c]
        refine ⟨this.1, this.2.1, fun u => ?_⟩
        have e : ((k : Int) - 1) = ((k - 1 : Nat) : Int) := by omega
        rw [e, ix_app_l (by omega), ← e]; exact this.2.2 u
      · obtain rfl : k = (selL m p).length := by omega
        have hx : ix (selL m p ++ [(m : Int)]) ((selL m p).length : Int) = (m : Int) := by
          rw [ix_get (by rw [List.length_append, List.length_singleton]; omega), List.getElem_append_right (Nat.le_refl _)]
          simp
        refine decide_eq_true ?_
        rw [hx]
        refine ⟨by omega, by omega, fun u => ?_⟩
        have e : (((selL m p).length : Int) - 1) = (((selL m p).length - 1 : Nat) : Int) := by omega
        rw [e, ix_app_l (by omega)]
        exact (selL_lt (n := m) (p := p) (k := (selL m p).length - 1) (by omega)).2
    · rw [if_neg q, List.append_nil]; exact ih (by omega) hN
theorem set_ext {n : Int} : ∀ {a b : List Int}, a.Pairwise (· < ·) → b.Pairwise (· < ·) → (∀ x, x ∈ a ↔ x ∈ b) → a = b
  | [], [], _, _, _ => rfl
  | [], y :: b, _, _, h => absurd ((h y).2 List.mem_cons_self) List.not_mem_nil
  | x :: a, [], _, _, h => absurd ((h x).1 List.mem_cons_self) List.not_mem_nil
  | x :: a, y :: b, ha, hb, h => by
    have ha' := List.pairwise_cons.1 ha
    have hb' := List.pairwise_cons.1 hb
    have e : x = y := by
      have h1 := (h x).1 List.mem_cons_self
      have h2 := (h y).2 List.mem_cons_self
      rcases List.mem_cons.1 h1 with r | r
      · exact r
      · rcases List.mem_cons.1 h2 with s | s
        · exact s.symm
        · have := hb'.1 x r; have := ha'.1 y s; omega
    subst e
    rw [set_ext (n := n) ha'.2 hb'.2 fun z => ?_]
    constructor
    · intro hz
      rcases List.mem_cons.1 ((h z).1 (List.mem_cons_of_mem _ hz)) with r | r
      · have := ha'.1 z hz; omega
      · exact r
    · intro hz
      rcases List.mem_cons.1 ((h z).2 (List.mem_cons_of_mem _ hz)) with r | r
      · have := hb'.1 z hz; omega
      · exact r
theorem set_pair {l : List Int} {n : Int} (h : isSetB l n = true) : l.Pairwise (· < ·) := by
  rw [List.pairwise_iff_getElem]
  intro i j hi hj hij
  have := isSetB_lt h hij hj
  rw [ix_get hi, ix_get hj] at this
  exact this
theorem set_filter {l : List Int} {n : Nat} (h : isSetB l (n : Int) = true) (p : Int → Bool) : l.filter p = selL n fun w => decide ((w : Int) ∈ l) && p (w : Int) :=
  set_ext (n := 0) ((set_pair h).filter p) (set_pair (selL_set (N := (n : Int)) (Nat.le_refl n) (Int.le_refl _))) fun x => by
    rw [mem_selL, List.mem_filter]
    constructor
    · rintro ⟨hx, hp⟩
      have := isSetB_mem h hx
      refine ⟨x.toNat, by omega, by omega, ?_⟩
      rw [Int.toNat_of_nonneg this.1, decide_eq_true hx, hp]; rfl
    · rintro ⟨w, rfl, _, hw⟩
      rw [Bool.and_eq_true, decide_eq_true_iff] at hw
      exact hw
def lowC (h : api_History) (l : List Int) (a : Nat) : Bool := decide ((a : Int) ∈ l) || l.any fun b => befC h a b.toNat
theorem ix_growsL {h : api_History} {a : Nat} (ha : a < h.Writes.length) : ∀ {ps : List (Int × Unit)} {ms : List Bool}, ms.length = h.Writes.length → ix (growsL h ms ps) (a : Int) = (ix ms (a : Int) || ps.any fun p => befC h a p.1.toNat)
  | [], ms, _ => by show ix ms _ = _; simp
  | p :: ps, ms, hm => by
    have := ix_growsL ha (ps := ps) (ms := growL h ms p.1.toNat h.Writes.length) (growL_len.trans hm)
    show ix (growsL h (growL h ms p.1.toNat h.Writes.length) ps) _ = _
    rw [this, ix_growL (by omega), decide_eq_true ha, Bool.true_and, List.any_cons, Bool.or_assoc]
theorem mem_members {n : Nat} {l : List Int} {p : Int × Unit} : p ∈ memL (markL n l) 0 ↔ p.1 ∈ l ∧ 0 ≤ p.1 ∧ p.1 < (n : Int) := by
  unfold memL
  rw [List.mem_map, markL_len]
  constructor
  · rintro ⟨w, hw, rfl⟩
    have h2 := List.mem_filter.1 hw
    have h3 := List.mem_range'_1.1 h2.1
    have h4 : ix (markL n l) (w : Int) = true := h2.2
    rw [ix_markL (by omega), decide_eq_true_iff] at h4
    exact ⟨h4, by show (0 : Int) ≤ (w : Int); omega, by show (w : Int) < (n : Int); omega⟩
  · obtain ⟨x, u⟩ := p
    rintro ⟨h1, h2, h3⟩
    have h1 : x ∈ l := h1
    have h2 : 0 ≤ x := h2
    have h3 : x < (n : Int) := h3
    have e : ((x.toNat : Nat) : Int) = x := Int.toNat_of_nonneg h2
    refine ⟨x.toNat, List.mem_filter.2 ⟨List.mem_range'_1.2 ⟨by omega, by omega⟩, ?_⟩, by rw [e]⟩
    show ix (markL n l) ((x.toNat : Nat) : Int) = true
    rw [ix_markL (by omega), decide_eq_true_iff, e]
    exact h1
theorem members_any {n : Nat} {l : List Int} (hl : isSetB l (n : Int) = true) (f : Nat → Bool) : ((memL (markL n l) 0).any fun p => f p.1.toNat) = l.any fun b => f b.toNat := by
  rw [Bool.eq_iff_iff, List.any_eq_true, List.any_eq_true]
  constructor
  · rintro ⟨p, hp, hf⟩
    exact ⟨p.1, (mem_members.1 hp).1, hf⟩
  · rintro ⟨x, hx, hf⟩
    have := isSetB_mem hl hx
    exact ⟨(x, ()), mem_members.2 ⟨hx, this.1, this.2⟩, hf⟩
theorem leastC_sel {h : api_History} {l : List Int} (hl : isSetB l (h.Writes.length : Int) = true) : leastC h l = selL h.Writes.length (lowC h l) := by
  unfold leastC
  rw [memL_sel, growsL_len, markL_len]
  refine selL_congr fun w hw => ?_
  rw [ix_growsL hw markL_len, ix_markL hw, members_any hl]; rfl
def befP (h : api_History) (a b : Nat) : Bool := decide (0 ≤ atN h.Events h.Events.length ⟨1, (a : Int)⟩ ∧ atN h.Events h.Events.length ⟨1, (a : Int)⟩ < atN h.Events h.Events.length ⟨0, (b : Int)⟩)
theorem evE_cnt {h : api_History} (hz : histE h = 0) : cntI h.Events h.Events.length = h.Writes.length := by
  have h1 := (histE_zero hz).2.2.2
  have h2 := cnt_le (l := h.Events) (n := h.Writes.length) (k := h.Events.length) fun j hj => hist_ev hz hj
  unfold evE at h1
  split at h1
  · rename_i q; exact absurd h1 q
  · split at h1
    · omega
    · omega
theorem iss_nn {h : api_History} (hz : histE h = 0) {b : Nat} (hb : b < h.Writes.length) : 0 ≤ atN h.Events h.Events.length ⟨0, (b : Int)⟩ :=
  (at_issue (n := h.Writes.length) (fun j hj => hist_ev hz hj) _).2 ⟨by omega, by rw [evE_cnt hz]; omega⟩
theorem atN_top (l : List api_HistoryEvent) (n : Nat) (e : api_HistoryEvent) : atN l n e < (n : Int) := by
  rcases atN_lt l n e with h | h <;> omega
theorem befC_eq {h : api_History} (hz : histE h = 0) {a b : Nat} (ha : a < h.Writes.length) (hb : b < h.Writes.length) : befC h a b = befP h a b := by
  unfold befC befP ackW issW
  rw [ix_relL ha, ix_relL hb]
  have h1 := iss_nn hz hb
  rw [if_pos h1]
  refine decide_eq_decide.2 ?_
  by_cases q : 0 ≤ atN h.Events h.Events.length ⟨1, (a : Int)⟩
  · rw [if_pos q]; exact ⟨fun t => ⟨q, t⟩, fun t => t.2⟩
  · rw [if_neg q]
    have := atN_top h.Events h.Events.length ⟨0, (b : Int)⟩
    exact ⟨fun t => by omega, fun t => absurd t.1 q⟩
theorem sel_room {n k : Nat} {p : Nat → Bool} (hk : k < n) (hn : n ≤ 4096) : lenOk (selL k p ++ ([(k : Int)] : List Int)).length 8 := by
  have := selL_len (n := k) (p := p)
  refine ⟨?_, ?_⟩
  · rw [List.length_append, List.length_singleton]; omega
  · rw [List.length_append, List.length_singleton]; unfold maxLen; omega
def clsF (h : api_History) (l : List Int) (b : Nat) : Bool := allN (fun a => !befC h a b || decide ((a : Int) ∈ l)) h.Writes.length
def closB (h : api_History) (l : List Int) : Bool := l.all fun b => clsF h l b.toNat
def relP (h : api_History) : Ptr cut_relation := Ptr.mk (cut_relation.mk (h.Writes.length : Int) (h.Events.length : Int) (issW h) (ackW h))
theorem members_all {n : Nat} {l : List Int} (hl : isSetB l (n : Int) = true) (f : Nat → Bool) : ((memL (markL n l) 0).all fun p => f p.1.toNat) = l.all fun b => f b.toNat := by
  rw [Bool.eq_iff_iff, List.all_eq_true, List.all_eq_true]
  constructor
  · intro t x hx
    have := isSetB_mem hl hx
    exact t (x, ()) (mem_members.2 ⟨hx, this.1, this.2⟩)
  · intro t p hp
    exact t _ (mem_members.1 hp).1
theorem cut_closed_ok {h : api_History} {l : List Int} {Φ : Bool → Prop} (hw : h.Writes.length ≤ 4096) (hl : isSetB l (h.Writes.length : Int) = true) (hΦ : Φ (closB h l)) : cut_relation_closed_W (relP h) (markL h.Writes.length l) Φ := by
  refine ⟨_, marks_members_ok (by rw [markL_len]; omega), ?_⟩
  have h0 : Φ ((memL (markL h.Writes.length l) 0).all fun p => clsF h l p.1.toNat) := by rw [members_all hl (clsF h l)]; exact hΦ
  refine LoopW.of_inv (fun s => Φ (s.1.all fun p => clsF h l p.1.toNat) ∧ ∀ p ∈ s.1, 0 ≤ p.1 ∧ p.1 < (h.Writes.length : Int)) (fun s => s.1.length) ?_ ⟨h0, fun p hp => (mem_members.1 hp).2⟩
  rintro ⟨ps, _⟩ rec ⟨hp, hr⟩ hrec
  cases ps with
  | nil => exact hp
  | cons p ps =>
    obtain ⟨b, u⟩ := p
    have hb := hr (b, u) List.mem_cons_self
    have e : ((b.toNat : Nat) : Int) = b := Int.toNat_of_nonneg hb.1
    have hb2 : b < (h.Writes.length : Int) := hb.2
    have cons : (((b, u) :: ps).all fun p => clsF h l p.1.toNat) = (clsF h l b.toNat && ps.all fun p => clsF h l p.1.toNat) := rfl
    refine LoopW.allL (Φ := fun c => (c = true → rec (ps, ())) ∧ (c = false → Φ false)) h.Writes.length (fun a => !befC h a b.toNat || decide ((a : Int) ∈ l)) ⟨fun t => ?_, fun t => ?_⟩ (fun a rec2 ha _ hf ht => ⟨fun _ => ?_, fun r => absurd (show (a : Int) < (h.Writes.length : Int) by omega) r⟩) fun rec2 h1 _ => ⟨fun r => absurd r (by show ¬ ((h.Writes.length : Int) < (h.Writes.length : Int)); omega), fun _ => h1.1 rfl⟩
    · have t : clsF h l b.toNat = true := t
      have hp : Φ (((b, u) :: ps).all fun p => clsF h l p.1.toNat) := hp
      rw [cons, t, Bool.true_and] at hp
      exact hrec _ ⟨hp, fun q hq => hr q (List.mem_cons_of_mem _ hq)⟩ (by show ps.length < ps.length + 1; omega)
    · have t : clsF h l b.toNat = false := t
      have hp : Φ (((b, u) :: ps).all fun p => clsF h l p.1.toNat) := hp
      rw [cons, t, Bool.false_and] at hp
      exact hp
    · have hx : ix (markL h.Writes.length l) (a : Int) = decide ((a : Int) ∈ l) := ix_markL ha
      have go : cut_relation_before_W (relP h) (a : Int) ((b.toNat : Nat) : Int) fun v4 => (v4 = true → inX (a : Int) (markL h.Writes.length l).length ∧ (¬ (ix (markL h.Writes.length l) (a : Int) = true) → Φ false) ∧ (¬ (¬ (ix (markL h.Writes.length l) (a : Int) = true)) → inI ((a : Int) + 1) ∧ rec2 ((a : Int) + 1))) ∧ (¬ (v4 = true) → inI ((a : Int) + 1) ∧ rec2 ((a : Int) + 1)) := by
        refine cut_before_ok ha (by omega) ⟨fun t => ⟨iX (by omega) (by rw [markL_len]; omega), fun q => (hf ?_).2 rfl, fun q => ⟨iI (by omega) (by omega), ht ?_⟩⟩, fun t => ⟨iI (by omega) (by omega), ht ?_⟩⟩
        · rw [hx] at q
          show (!befC h a b.toNat || decide ((a : Int) ∈ l)) = false
          rw [t, Bool.eq_false_iff.2 q]; rfl
        · rw [hx] at q
          show (!befC h a b.toNat || decide ((a : Int) ∈ l)) = true
          rw [Classical.not_not.1 q, Bool.or_true]
        · show (!befC h a b.toNat || decide ((a : Int) ∈ l)) = true
          rw [Bool.eq_false_iff.2 t]; rfl
      rw [e] at go
      exact go
theorem cutCheck_rel {h : api_History} {l : List Int} {Φ : Int → Prop} (hh : SmallH h) (hz : histE h = 0) (he : LoopW (cut_Check_L4 h l (issW h) (ackW h) Φ) (0, [])) :
    LoopW (cut_Check_L3 h l Φ) (0, List.replicate h.Writes.length (h.Events.length : Int), List.replicate h.Writes.length (h.Events.length : Int)) := by
  have hev := hh.ev
  refine LoopW.upT h.Events.length (fun k => ((k : Int), relL h.Events 0 h.Writes.length h.Events.length k, relL h.Events 1 h.Writes.length h.Events.length k)) (by rw [relL_zero, relL_zero]; rfl) (fun k rec hk hr => ⟨fun _ => ⟨iX (by omega) (by omega), fun q => ?_, fun q => ?_⟩, fun r => by omega⟩) fun rec => ⟨fun r => by omega, fun _ => ⟨fun r => absurd rfl r, fun _ => he⟩⟩
  · obtain ⟨w, e1, e2, e3, e4⟩ := (ev_put hz (N := (h.Events.length : Int)) hk).1 q
    refine ⟨iX (by rw [e1]; omega) (by rw [e1, relL_len]; omega), iI (by omega) (by omega), hr _ ?_⟩
    rw [e1, e3, e4]; rfl
  · obtain ⟨w, e1, e2, e3, e4⟩ := (ev_put hz (N := (h.Events.length : Int)) hk).2 q
    refine ⟨iX (by rw [e1]; omega) (by rw [e1, relL_len]; omega), iI (by omega) (by omega), hr _ ?_⟩
    rw [e1, e3, e4]; rfl
theorem cutCheck_clo {h : api_History} {l : List Int} {Φ : Int → Prop} (hw : h.Writes.length ≤ 4096) (hs : ∀ j, j < ([l] : List (List Int)).length → isSetB (ix ([l] : List (List Int)) (j : Int)) (h.Writes.length : Int) = true)
    (kF : ∀ j, j < ([l] : List (List Int)).length → closB h (ix ([l] : List (List Int)) (j : Int)) = false → cut_Check_J5  Φ true)
    (kT : (∀ j, j < ([l] : List (List Int)).length → closB h (ix ([l] : List (List Int)) (j : Int)) = true) → cut_Check_J5  Φ false) : LoopW (cut_Check_L6 h (issW h) (ackW h) ([l].map (markL h.Writes.length)) Φ) 0 := by
  have hx : ∀ j, j < ([l] : List (List Int)).length → ix ([l].map (markL h.Writes.length)) (j : Int) = markL h.Writes.length (ix ([l] : List (List Int)) (j : Int)) := fun j hj => by
    rw [ix_get (by rw [List.length_map]; exact hj), List.getElem_map, ix_get hj]
  have ln : ([l].map (markL h.Writes.length)).length = ([l] : List (List Int)).length := List.length_map _
  have sm : ([l] : List (List Int)).length ≤ 2 := by simp
  have t0 : decide (0 ≤ ((-1 : Int))) = false := by decide
  refine LoopW.upI ([l] : List (List Int)).length (fun k => (k : Int)) (fun k => ∀ j, j < k → closB h (ix ([l] : List (List Int)) (j : Int)) = true) rfl (fun j hj => absurd hj (Nat.not_lt_zero j)) (fun k rec hk hI hr => ⟨fun _ => ⟨iX (by omega) (by omega), ?_⟩, fun r => absurd (show (k : Int) < (([l].map (markL h.Writes.length)).length : Int) by omega) r⟩) fun rec hI => ⟨fun r => absurd r (by omega), fun _ => by rw [t0]; exact kT hI⟩
  rw [hx k hk]
  refine cut_closed_ok hw (hs k hk) ⟨fun q => ?_, fun q => ⟨iI (by omega) (by omega), hr (fun j hj => ?_) _ rfl⟩⟩
  · rw [decide_eq_true (show (0 : Int) ≤ (k : Int) by omega)]
    exact kF k hk (Bool.eq_false_iff.2 q)
  · rcases Nat.lt_or_ge j k with c | c
    · exact hI j c
    · obtain rfl : j = k := by omega
      exact Classical.not_not.1 q
theorem cutCheck_mks {h : api_History} {l : List Int} {Φ : Int → Prop} (hw : h.Writes.length ≤ 4096) (hl : ∀ j, j < ([l] : List (List Int)).length → (ix ([l] : List (List Int)) (j : Int)).length ≤ 1000000)
    (k2 : ∀ j, j < ([l] : List (List Int)).length → isSetB (ix ([l] : List (List Int)) (j : Int)) (h.Writes.length : Int) = false → Φ 2)
    (kF : (∀ j, j < ([l] : List (List Int)).length → isSetB (ix ([l] : List (List Int)) (j : Int)) (h.Writes.length : Int) = true) → ∀ j, j < ([l] : List (List Int)).length → closB h (ix ([l] : List (List Int)) (j : Int)) = false → cut_Check_J5  Φ true)
    (kT : (∀ j, j < ([l] : List (List Int)).length → isSetB (ix ([l] : List (List Int)) (j : Int)) (h.Writes.length : Int) = true) → (∀ j, j < ([l] : List (List Int)).length → closB h (ix ([l] : List (List Int)) (j : Int)) = true) → cut_Check_J5  Φ false) : LoopW (cut_Check_L4 h l (issW h) (ackW h) Φ) (0, []) := by
  have sm : ([l] : List (List Int)).length ≤ 2 := by simp
  have l1 : ∀ x : List Bool, [x].length = 1 := fun _ => rfl
  refine LoopW.upI ([l] : List (List Int)).length (fun k => ((k : Int), (([l] : List (List Int)).take k).map (markL h.Writes.length))) (fun k => ∀ j, j < k → isSetB (ix ([l] : List (List Int)) (j : Int)) (h.Writes.length : Int) = true) rfl (fun j hj => absurd hj (Nat.not_lt_zero j)) (fun k rec hk hI hr => ⟨fun _ => ⟨iX (by omega) (by omega), ?_⟩, fun r => absurd (show (k : Int) < (([l] : List (List Int)).length : Int) by omega) r⟩) fun rec hI => ⟨fun r => absurd r (by omega), fun _ => by rw [List.take_length]; exact cutCheck_clo hw hI (kF hI) (kT hI)⟩
  refine cut_relation_mark_ok (r := relP h) rfl (by omega) (hl k hk) (fun t => ?_) fun t => ?_
  · refine ⟨fun u => absurd rfl u, fun _ => ⟨⟨?_, ?_⟩, iI (by omega) (by omega), hr (fun j hj => ?_) _ ?_⟩⟩
    · rw [List.length_append, List.length_map, List.length_take, l1]; omega
    · rw [List.length_append, List.length_map, List.length_take, l1]; unfold maxLen; omega
    · rcases Nat.lt_or_ge j k with c | c
      · exact hI j c
      · obtain rfl : j = k := by omega
        exact t
    · rw [take_ix hk, List.map_append]; rfl
  · exact ⟨fun _ => k2 k hk t, fun u => absurd (fun v => Bool.noConfusion v) u⟩
theorem cutCheck_all {h : api_History} {l : List Int} {Φ : Int → Prop} (hh : SmallH h) (hl : ∀ j, j < ([l] : List (List Int)).length → (ix ([l] : List (List Int)) (j : Int)).length ≤ 1000000)
    (k1 : histE h ≠ 0 → Φ (histE h))
    (k2 : histE h = 0 → ∀ j, j < ([l] : List (List Int)).length → isSetB (ix ([l] : List (List Int)) (j : Int)) (h.Writes.length : Int) = false → Φ 2)
    (kF : histE h = 0 → (∀ j, j < ([l] : List (List Int)).length → isSetB (ix ([l] : List (List Int)) (j : Int)) (h.Writes.length : Int) = true) → ∀ j, j < ([l] : List (List Int)).length → closB h (ix ([l] : List (List Int)) (j : Int)) = false → cut_Check_J5  Φ true)
    (kT : histE h = 0 → (∀ j, j < ([l] : List (List Int)).length → isSetB (ix ([l] : List (List Int)) (j : Int)) (h.Writes.length : Int) = true) → (∀ j, j < ([l] : List (List Int)).length → closB h (ix ([l] : List (List Int)) (j : Int)) = true) → cut_Check_J5  Φ false) : cut_Check_W h l Φ := by
  refine history_Check_ok hh ⟨fun q => ⟨fun _ => k1 q, fun r => absurd q r⟩, fun q => ?_⟩
  have hz : histE h = 0 := Classical.not_not.1 q
  have hw := hist_wr hz
  exact ⟨_, slices_Repeat_int_ok (by omega) rfl, _, slices_Repeat_int_ok (by omega) rfl, cutCheck_rel hh hz (cutCheck_mks hw hl (k2 hz) (kF hz) (kT hz))⟩
theorem cutFrontier_rel {h : api_History} {l : List Int} {Φ : List Int × Int → Prop} (hh : SmallH h) (hz : histE h = 0) (he : LoopW (cut_Frontier_L4 h l (issW h) (ackW h) Φ) (0, [])) :
    LoopW (cut_Frontier_L3 h l Φ) (0, List.replicate h.Writes.length (h.Events.length : Int), List.replicate h.Writes.length (h.Events.length : Int)) := by
  have hev := hh.ev
  refine LoopW.upT h.Events.length (fun k => ((k : Int), relL h.Events 0 h.Writes.length h.Events.length k, relL h.Events 1 h.Writes.length h.Events.length k)) (by rw [relL_zero, relL_zero]; rfl) (fun k rec hk hr => ⟨fun _ => ⟨iX (by omega) (by omega), fun q => ?_, fun q => ?_⟩, fun r => by omega⟩) fun rec => ⟨fun r => by omega, fun _ => ⟨fun r => absurd rfl r, fun _ => he⟩⟩
  · obtain ⟨w, e1, e2, e3, e4⟩ := (ev_put hz (N := (h.Events.length : Int)) hk).1 q
    refine ⟨iX (by rw [e1]; omega) (by rw [e1, relL_len]; omega), iI (by omega) (by omega), hr _ ?_⟩
    rw [e1, e3, e4]; rfl
  · obtain ⟨w, e1, e2, e3, e4⟩ := (ev_put hz (N := (h.Events.length : Int)) hk).2 q
    refine ⟨iX (by rw [e1]; omega) (by rw [e1, relL_len]; omega), iI (by omega) (by omega), hr _ ?_⟩
    rw [e1, e3, e4]; rfl
theorem cutFrontier_clo {h : api_History} {l : List Int} {Φ : List Int × Int → Prop} (hw : h.Writes.length ≤ 4096) (hs : ∀ j, j < ([l] : List (List Int)).length → isSetB (ix ([l] : List (List Int)) (j : Int)) (h.Writes.length : Int) = true)
    (kF : ∀ j, j < ([l] : List (List Int)).length → closB h (ix ([l] : List (List Int)) (j : Int)) = false → cut_Frontier_J5 h (issW h) (ackW h) ([l].map (markL h.Writes.length)) Φ true)
    (kT : (∀ j, j < ([l] : List (List Int)).length → closB h (ix ([l] : List (List Int)) (j : Int)) = true) → cut_Frontier_J5 h (issW h) (ackW h) ([l].map (markL h.Writes.length)) Φ false) : LoopW (cut_Frontier_L8 h (issW h) (ackW h) ([l].map (markL h.Writes.length)) Φ) 0 := by
  have hx : ∀ j, j < ([l] : List (List Int)).length → ix ([l].map (markL h.Writes.length)) (j : Int) = markL h.Writes.length (ix ([l] : List (List Int)) (j : Int)) := fun j hj => by
    rw [ix_get (by rw [List.length_map]; exact hj), List.getElem_map, ix_get hj]
  have ln : ([l].map (markL h.Writes.length)).length = ([l] : List (List Int)).length := List.length_map _
  have sm : ([l] : List (List Int)).length ≤ 2 := by simp
  have t0 : decide (0 ≤ ((-1 : Int))) = false := by decide
  refine LoopW.upI ([l] : List (List Int)).length (fun k => (k : Int)) (fun k => ∀ j, j < k → closB h (ix ([l] : List (List Int)) (j : Int)) = true) rfl (fun j hj => absurd hj (Nat.not_lt_zero j)) (fun k rec hk hI hr => ⟨fun _ => ⟨iX (by omega) (by omega), ?_⟩, fun r => absurd (show (k : Int) < (([l].map (markL h.Writes.length)).length : Int) by omega) r⟩) fun rec hI => ⟨fun r => absurd r (by omega), fun _ => by rw [t0]; exact kT hI⟩
  rw [hx k hk]
  refine cut_closed_ok hw (hs k hk) ⟨fun q => ?_, fun q => ⟨iI (by omega) (by omega), hr (fun j hj => ?_) _ rfl⟩⟩
  · rw [decide_eq_true (show (0 : Int) ≤ (k : Int) by omega)]
    exact kF k hk (Bool.eq_false_iff.2 q)
  · rcases Nat.lt_or_ge j k with c | c
    · exact hI j c
    · obtain rfl : j = k := by omega
      exact Classical.not_not.1 q
theorem cutFrontier_mks {h : api_History} {l : List Int} {Φ : List Int × Int → Prop} (hw : h.Writes.length ≤ 4096) (hl : ∀ j, j < ([l] : List (List Int)).length → (ix ([l] : List (List Int)) (j : Int)).length ≤ 1000000)
    (k2 : ∀ j, j < ([l] : List (List Int)).length → isSetB (ix ([l] : List (List Int)) (j : Int)) (h.Writes.length : Int) = false → Φ ([], 2))
    (kF : (∀ j, j < ([l] : List (List Int)).length → isSetB (ix ([l] : List (List Int)) (j : Int)) (h.Writes.length : Int) = true) → ∀ j, j < ([l] : List (List Int)).length → closB h (ix ([l] : List (List Int)) (j : Int)) = false → cut_Frontier_J5 h (issW h) (ackW h) ([l].map (markL h.Writes.length)) Φ true)
    (kT : (∀ j, j < ([l] : List (List Int)).length → isSetB (ix ([l] : List (List Int)) (j : Int)) (h.Writes.length : Int) = true) → (∀ j, j < ([l] : List (List Int)).length → closB h (ix ([l] : List (List Int)) (j : Int)) = true) → cut_Frontier_J5 h (issW h) (ackW h) ([l].map (markL h.Writes.length)) Φ false) : LoopW (cut_Frontier_L4 h l (issW h) (ackW h) Φ) (0, []) := by
  have sm : ([l] : List (List Int)).length ≤ 2 := by simp
  have l1 : ∀ x : List Bool, [x].length = 1 := fun _ => rfl
  refine LoopW.upI ([l] : List (List Int)).length (fun k => ((k : Int), (([l] : List (List Int)).take k).map (markL h.Writes.length))) (fun k => ∀ j, j < k → isSetB (ix ([l] : List (List Int)) (j : Int)) (h.Writes.length : Int) = true) rfl (fun j hj => absurd hj (Nat.not_lt_zero j)) (fun k rec hk hI hr => ⟨fun _ => ⟨iX (by omega) (by omega), ?_⟩, fun r => absurd (show (k : Int) < (([l] : List (List Int)).length : Int) by omega) r⟩) fun rec hI => ⟨fun r => absurd r (by omega), fun _ => by rw [List.take_length]; exact cutFrontier_clo hw hI (kF hI) (kT hI)⟩
  refine cut_relation_mark_ok (r := relP h) rfl (by omega) (hl k hk) (fun t => ?_) fun t => ?_
  · refine ⟨fun u => absurd rfl u, fun _ => ⟨⟨?_, ?_⟩, iI (by omega) (by omega), hr (fun j hj => ?_) _ ?_⟩⟩
    · rw [List.length_append, List.length_map, List.length_take, l1]; omega
    · rw [List.length_append, List.length_map, List.length_take, l1]; unfold maxLen; omega
    · rcases Nat.lt_or_ge j k with c | c
      · exact hI j c
      · obtain rfl : j = k := by omega
        exact t
    · rw [take_ix hk, List.map_append]; rfl
  · exact ⟨fun _ => ⟨fun _ => k2 k hk t, fun r => absurd (by decide) r⟩, fun u => absurd (fun v => Bool.noConfusion v) u⟩
theorem cutFrontier_all {h : api_History} {l : List Int} {Φ : List Int × Int → Prop} (hh : SmallH h) (hl : ∀ j, j < ([l] : List (List Int)).length → (ix ([l] : List (List Int)) (j : Int)).length ≤ 1000000)
    (k1 : histE h ≠ 0 → Φ ([], histE h))
    (k2 : histE h = 0 → ∀ j, j < ([l] : List (List Int)).length → isSetB (ix ([l] : List (List Int)) (j : Int)) (h.Writes.length : Int) = false → Φ ([], 2))
    (kF : histE h = 0 → (∀ j, j < ([l] : List (List Int)).length → isSetB (ix ([l] : List (List Int)) (j : Int)) (h.Writes.length : Int) = true) → ∀ j, j < ([l] : List (List Int)).length → closB h (ix ([l] : List (List Int)) (j : Int)) = false → cut_Frontier_J5 h (issW h) (ackW h) ([l].map (markL h.Writes.length)) Φ true)
    (kT : histE h = 0 → (∀ j, j < ([l] : List (List Int)).length → isSetB (ix ([l] : List (List Int)) (j : Int)) (h.Writes.length : Int) = true) → (∀ j, j < ([l] : List (List Int)).length → closB h (ix ([l] : List (List Int)) (j : Int)) = true) → cut_Frontier_J5 h (issW h) (ackW h) ([l].map (markL h.Writes.length)) Φ false) : cut_Frontier_W h l Φ := by
  refine history_Check_ok hh ⟨fun q => ⟨fun _ => ⟨fun _ => k1 q, fun r => absurd q r⟩, fun r => absurd q r⟩, fun q => ?_⟩
  have hz : histE h = 0 := Classical.not_not.1 q
  have hw := hist_wr hz
  exact ⟨_, slices_Repeat_int_ok (by omega) rfl, _, slices_Repeat_int_ok (by omega) rfl, cutFrontier_rel hh hz (cutFrontier_mks hw hl (k2 hz) (kF hz) (kT hz))⟩
def ckcR (h : api_History) (l : List Int) : Int := if histE h ≠ 0 then histE h else if isSetB l (h.Writes.length : Int) = false then 2 else if closB h l = false then 27 else 0
theorem one_lt {l : List Int} {p : Nat → Prop} (h : p 0) : ∀ j, j < ([l] : List (List Int)).length → p j := by
  intro j hj
  have hj : j < 1 := hj
  obtain rfl : j = 0 := by omega
  exact h
theorem cut_Check_ok {h : api_History} {l : List Int} {Φ : Int → Prop} (hh : SmallH h) (hl : l.length ≤ 1000000) (hΦ : Φ (ckcR h l)) : cut_Check_W h l Φ := by
  unfold ckcR at hΦ
  refine cutCheck_all hh (one_lt hl) (fun q => by rw [if_pos q] at hΦ; exact hΦ) (fun hz => one_lt fun q => ?_) (fun hz hs => one_lt fun q => ⟨fun _ => ?_, fun r => absurd rfl r⟩) fun hz hs hc => ⟨fun r => Bool.noConfusion r, fun _ => ?_⟩
  · have q : isSetB l (h.Writes.length : Int) = false := q
    rw [if_neg (fun t => t hz), if_pos q] at hΦ; exact hΦ
  · have q : closB h l = false := q
    have s : isSetB l (h.Writes.length : Int) = true := hs 0 Nat.one_pos
    rw [if_neg (fun t => t hz), if_neg (by rw [s]; simp), if_pos q] at hΦ; exact hΦ
  · have s : isSetB l (h.Writes.length : Int) = true := hs 0 Nat.one_pos
    have c : closB h l = true := hc 0 Nat.one_pos
    rw [if_neg (fun t => t hz), if_neg (by rw [s]; simp), if_neg (by rw [c]; simp)] at hΦ; exact hΦ
def clsP (h : api_History) (l : List Int) (b : Nat) : Bool := allN (fun a => !befP h a b || decide ((a : Int) ∈ l)) h.Writes.length
def closP (h : api_History) (l : List Int) : Bool := l.all fun b => clsP h l b.toNat
theorem closB_eq {h : api_History} (hz : histE h = 0) {l : List Int} (hl : isSetB l (h.Writes.length : Int) = true) : closB h l = closP h l := by
  unfold closB closP
  rw [Bool.eq_iff_iff, List.all_eq_true, List.all_eq_true]
  refine forall_congr' fun x => forall_congr' fun hx => ?_
  have m := isSetB_mem hl hx
  have e : clsF h l x.toNat = clsP h l x.toNat := allN_congr fun a ha => by rw [befC_eq hz ha (by omega)]
  rw [e]
def frB (h : api_History) (l : List Int) (a : Nat) : Bool := decide ((a : Int) ∈ l) && l.all fun b => !befC h a b.toNat
def frC (h : api_History) (l : List Int) : List Int := selL h.Writes.length (frB h l)
def frR (h : api_History) (l : List Int) : List Int × Int := if ckcR h l ≠ 0 then ([], ckcR h l) else (frC h l, 0)
def dropL (h : api_History) (ms : List Bool) (b k : Nat) : List Bool := (List.range ms.length).map fun a : Nat => ix ms (a : Int) && !(decide (a < k) && befC h a b)
theorem dropL_len {h : api_History} {ms : List Bool} {b k : Nat} : (dropL h ms b k).length = ms.length := by unfold dropL; rw [List.length_map, List.length_range]
theorem ix_dropL {h : api_History} {ms : List Bool} {b k a : Nat} (ha : a < ms.length) : ix (dropL h ms b k) (a : Int) = (ix ms (a : Int) && !(decide (a < k) && befC h a b)) := by
  rw [ix_get (by rw [dropL_len]; exact ha)]
  unfold dropL
  rw [List.getElem_map, List.getElem_range]
theorem dropL_zero {h : api_History} {ms : List Bool} {b : Nat} : dropL h ms b 0 = ms := ext_ix dropL_len fun a ha => by
  rw [dropL_len] at ha
  rw [ix_dropL ha]; simp
theorem dropL_put {h : api_History} {ms : List Bool} {b k : Nat} (hk : k < ms.length) : dropL h ms b (k + 1) = put (dropL h ms b k) (k : Int) (ix ms (k : Int) && !befC h k b) := ext_ix (by rw [put_len, dropL_len, dropL_len]) fun a ha => by
  rw [dropL_len] at ha
  rw [ix_dropL ha, ix_put _ _ (by rw [dropL_len]; exact hk), ix_dropL ha]
  by_cases q : a = k
  · subst q; simp
  · rw [if_neg q]
    have : decide (a < k + 1) = decide (a < k) := decide_eq_decide.2 (by omega)
    rw [this]
theorem front_L7 {h : api_History} {ms : List Bool} {b : Nat} {rec6 : (List (Int × Unit) × List Bool) → Prop} {r : List (Int × Unit)} {Φ : List Int × Int → Prop} (hw : h.Writes.length ≤ 4096) (hm : ms.length = h.Writes.length) (hb : b < h.Writes.length) (hr : rec6 (r, dropL h ms b h.Writes.length)) :
    LoopW (cut_Frontier_L7 h (issW h) (ackW h) rec6 ((b : Int), ()) r Φ) (0, ms) := by
  refine LoopW.upT h.Writes.length (fun k => ((k : Int), dropL h ms b k)) (by rw [dropL_zero]; rfl) (fun k rec hk hrec => ?_) fun rec => ⟨fun q => by omega, fun _ => hr⟩
  have hx : ix (dropL h ms b k) (k : Int) = ix ms (k : Int) := by
    rw [ix_dropL (by omega)]
    have : decide (k < k) = false := decide_eq_false (by omega)
    rw [this, Bool.false_and, Bool.not_false, Bool.and_true]
  have hi : inX (k : Int) (dropL h ms b k).length := iX (by omega) (by rw [dropL_len]; omega)
  refine ⟨fun _ => ⟨hi, fun q => ⟨_, cut_before_ok hk hb rfl, hi, iI (by omega) (by omega), hrec _ ?_⟩, fun q => ⟨hi, iI (by omega) (by omega), hrec _ ?_⟩⟩, fun q => by omega⟩
  · rw [hx] at q
    have e : decide (¬ (befC h k b = true)) = !befC h k b := by cases befC h k b <;> rfl
    show ((k : Int) + 1, put (dropL h ms b k) (k : Int) (decide (¬ (befC h k b = true)))) = _
    rw [dropL_put (by omega), q, e, Bool.true_and]; rfl
  · rw [hx] at q; rw [dropL_put (by omega), Bool.eq_false_iff.2 q, Bool.false_and]; rfl
def dropsL (h : api_History) (ms : List Bool) : List (Int × Unit) → List Bool
  | [] => ms
  | p :: l => dropsL h (dropL h ms p.1.toNat h.Writes.length) l
theorem dropsL_len {h : api_History} : ∀ {l : List (Int × Unit)} {ms : List Bool}, (dropsL h ms l).length = ms.length
  | [], _ => rfl
  | _ :: l, _ => (dropsL_len (l := l)).trans dropL_len
theorem front_L6 {h : api_History} {Φ : List Int × Int → Prop} (hw : h.Writes.length ≤ 4096) : ∀ {l : List (Int × Unit)} {ms : List Bool}, ms.length = h.Writes.length → (∀ p ∈ l, 0 ≤ p.1 ∧ p.1 < (h.Writes.length : Int)) → Φ ((memL (dropsL h ms l) 0).map Prod.fst, 0) → LoopW (cut_Frontier_L6 h (issW h) (ackW h) Φ) (l, ms) := by
  intro l ms hm hl hΦ
  refine LoopW.of_inv (fun s => s.2.length = h.Writes.length ∧ (∀ p ∈ s.1, 0 ≤ p.1 ∧ p.1 < (h.Writes.length : Int)) ∧ Φ ((memL (dropsL h s.2 s.1) 0).map Prod.fst, 0)) (fun s => s.1.length) ?_ ⟨hm, hl, hΦ⟩
  rintro ⟨l, ms⟩ rec ⟨hm, hl, hΦ⟩ hrec
  cases l with
  | nil => exact marks_list_ok (by show ms.length ≤ 1000000; have : ms.length = h.Writes.length := hm; omega) hΦ
  | cons p l =>
    obtain ⟨b, u⟩ := p
    have hb := hl (b, u) List.mem_cons_self
    have e : ((b.toNat : Nat) : Int) = b := Int.toNat_of_nonneg hb.1
    have hq := front_L7 (Φ := Φ) (rec6 := rec) (r := l) (b := b.toNat) hw hm (by have : b < (h.Writes.length : Int) := hb.2; omega) (hrec _ ⟨dropL_len.trans hm, fun p hp => hl p (List.mem_cons_of_mem _ hp), hΦ⟩ (by show l.length < l.length + 1; omega))
    rw [e] at hq
    exact hq
theorem ix_dropsL {h : api_History} {a : Nat} (ha : a < h.Writes.length) : ∀ {ps : List (Int × Unit)} {ms : List Bool}, ms.length = h.Writes.length → ix (dropsL h ms ps) (a : Int) = (ix ms (a : Int) && ps.all fun p => !befC h a p.1.toNat)
  | [], ms, _ => by show ix ms _ = _; simp
  | p :: ps, ms, hm => by
    have := ix_dropsL ha (ps := ps) (ms := dropL h ms p.1.toNat h.Writes.length) (dropL_len.trans hm)
    show ix (dropsL h (dropL h ms p.1.toNat h.Writes.length) ps) _ = _
    rw [this, ix_dropL (by omega), decide_eq_true ha, Bool.true_and, List.all_cons, Bool.and_assoc]
theorem front_sel {h : api_History} {l : List Int} (hl : isSetB l (h.Writes.length : Int) = true) : (memL (dropsL h (markL h.Writes.length l) (memL (markL h.Writes.length l) 0)) 0).map Prod.fst = frC h l := by
  rw [memL_sel, dropsL_len, markL_len]
  refine selL_congr fun w hw => ?_
  rw [ix_dropsL hw markL_len, ix_markL hw]
  unfold frB
  congr 1
  exact members_all hl fun b => !befC h w b
theorem ckcR_1 {h : api_History} {l : List Int} (hz : histE h = 0) {j : Nat} (hj : j < ([l] : List (List Int)).length) (q : isSetB (ix ([l] : List (List Int)) (j : Int)) (h.Writes.length : Int) = false) : ckcR h l = 2 := by
  have hj : j < 1 := hj
  obtain rfl : j = 0 := by omega
  have q : isSetB l (h.Writes.length : Int) = false := q
  unfold ckcR
  rw [if_neg (fun t => t hz), if_pos q]
theorem ckcR_27 {h : api_History} {l : List Int} (hz : histE h = 0) (hs : ∀ j, j < ([l] : List (List Int)).length → isSetB (ix ([l] : List (List Int)) (j : Int)) (h.Writes.length : Int) = true) {j : Nat} (hj : j < ([l] : List (List Int)).length) (q : closB h (ix ([l] : List (List Int)) (j : Int)) = false) : ckcR h l = 27 := by
  have hj : j < 1 := hj
  obtain rfl : j = 0 := by omega
  have q : closB h l = false := q
  have s : isSetB l (h.Writes.length : Int) = true := hs 0 Nat.one_pos
  unfold ckcR
  rw [if_neg (fun t => t hz), if_neg (by rw [s]; simp), if_pos q]
theorem ckcR_0 {h : api_History} {l : List Int} (hz : histE h = 0) (s : isSetB l (h.Writes.length : Int) = true) (c : closB h l = true) : ckcR h l = 0 := by
  unfold ckcR
  rw [if_neg (fun t => t hz), if_neg (by rw [s]; simp), if_neg (by rw [c]; simp)]
theorem cut_Frontier_ok {h : api_History} {l : List Int} {Φ : List Int × Int → Prop} (hh : SmallH h) (hl : l.length ≤ 1000000) (hΦ : Φ (frR h l)) : cut_Frontier_W h l Φ := by
  have er : ∀ e, e ≠ 0 → ckcR h l = e → Φ ([], e) := fun e n t => by unfold frR at hΦ; rw [t, if_pos n] at hΦ; exact hΦ
  refine cutFrontier_all hh (one_lt hl) (fun q => er _ q (by unfold ckcR; rw [if_pos q])) (fun hz j hj q => er 2 (by decide) (ckcR_1 hz hj q)) (fun hz hs j hj q => ⟨fun _ => ⟨fun _ => er 27 (by decide) (ckcR_27 hz hs hj q), fun r => absurd (by decide) r⟩, fun r => absurd rfl r⟩) fun hz hs hc => ⟨fun r => Bool.noConfusion r, fun _ => ⟨fun r => absurd rfl r, fun _ => ?_⟩⟩
  have s : isSetB l (h.Writes.length : Int) = true := hs 0 Nat.one_pos
  have c : closB h l = true := hc 0 Nat.one_pos
  have hw := hist_wr hz
  unfold frR at hΦ
  rw [ckcR_0 hz s c, if_neg (fun t => t rfl), ← front_sel s] at hΦ
  have tl : inX 0 ([l].map (markL h.Writes.length)).length ∧ ∃ l19, cut_marks_members_1_I (ix ([l].map (markL h.Writes.length)) 0) l19 ∧ LoopW (cut_Frontier_L6 h (issW h) (ackW h) Φ) (l19, markL h.Writes.length l) :=
    ⟨iX (by omega) (by show (0 : Int) < ((1 : Nat) : Int); omega), _, marks_members_ok (by show (markL h.Writes.length l).length ≤ 1000000; rw [markL_len]; omega), front_L6 hw markL_len (fun p hp => (mem_members.1 (show p ∈ memL (markL h.Writes.length l) 0 from hp)).2) hΦ⟩
  refine ⟨iX (by omega) (by show (0 : Int) < ((1 : Nat) : Int); omega), fun e => ?_, ⟨⟨by show (markL h.Writes.length l).length * 1 ≤ _; rw [markL_len]; omega, by show (markL h.Writes.length l).length ≤ maxLen; rw [markL_len]; unfold maxLen; omega⟩, tl⟩⟩
  have e : markL h.Writes.length l = [] := e
  obtain ⟨t1, l18, t2, t3⟩ := tl
  exact ⟨t1, l18, t2, Eq.mp (congrArg (fun z => LoopW (cut_Frontier_L6 h (issW h) (ackW h) Φ) (l18, z)) e) t3⟩
theorem atN_mono {l : List api_HistoryEvent} {e : api_HistoryEvent} {k : Nat} (h : 0 ≤ atN l k e) : ∀ m, atN l (k + m) e = atN l k e
  | 0 => rfl
  | m + 1 => by
    have ih := atN_mono h m
    rw [show k + (m + 1) = (k + m) + 1 by omega, atN_old (by rw [ih]; exact h), ih]
theorem atN_at {l : List api_HistoryEvent} {e : api_HistoryEvent} {n : Nat} (h : 0 ≤ atN l n e) : ∃ k : Nat, k < n ∧ atN l n e = (k : Int) ∧ ix l (k : Int) = e := by
  rcases idxN_cases (fun k => decide (ix l (k : Int) = e)) n with ⟨h1, _⟩ | ⟨k, hk, h1, h2, _⟩
  · have h1 : atN l n e = -1 := h1
    omega
  · exact ⟨k, hk, h1, of_decide_eq_true h2⟩
theorem ack_issue {h : api_History} (hz : histE h = 0) {a : Int} (q : 0 ≤ atN h.Events h.Events.length ⟨1, a⟩) : 0 ≤ a ∧ a < (h.Writes.length : Int) ∧ atN h.Events h.Events.length ⟨0, a⟩ < atN h.Events h.Events.length ⟨1, a⟩ := by
  obtain ⟨k, hk, e1, e2⟩ := atN_at q
  have hev := hist_ev hz hk
  have nk : ¬ (ix h.Events (k : Int)).Kind = 0 := by rw [e2]; exact fun t => absurd (show (1 : Int) = 0 from t) (by decide)
  obtain ⟨_, h1, h2, _⟩ := evErr_ack hev nk
  rw [e2] at h1 h2
  have h1 : 0 ≤ a := h1
  have h2 : a < (cntI h.Events k : Int) := h2
  have h0 : ∀ j, j < k → evErr h.Events h.Writes.length j = 0 := fun j hj => hist_ev hz (by omega)
  have c := cnt_le h0
  have i1 := (at_issue h0 a).2 ⟨h1, h2⟩
  have i2 := atN_mono i1 (h.Events.length - k)
  rw [show k + (h.Events.length - k) = h.Events.length by omega] at i2
  have i3 := atN_top h.Events k ⟨0, a⟩
  exact ⟨h1, by omega, by rw [i2, e1]; exact i3⟩
theorem befP_trans {h : api_History} (hz : histE h = 0) {a b c : Nat} (h1 : befP h a b = true) (h2 : befP h b c = true) : befP h a c = true := by
  unfold befP at h1 h2 ⊢
  rw [decide_eq_true_iff] at h1 h2 ⊢
  have := (ack_issue hz h2.1).2.2
  omega
def ClosedS (h : api_History) (l : List Int) : Prop := ∀ a b : Nat, a < h.Writes.length → (b : Int) ∈ l → befP h a b = true → (a : Int) ∈ l
theorem lowC_closed {h : api_History} (hz : histE h = 0) {l : List Int} (hl : isSetB l (h.Writes.length : Int) = true) : ClosedS h (selL h.Writes.length (lowC h l)) := by
  intro a b ha hb hab
  have hb := mem_selN.1 hb
  refine mem_selN.2 ⟨ha, ?_⟩
  have h2 := hb.2
  unfold lowC at h2 ⊢
  rw [Bool.or_eq_true, decide_eq_true_iff, List.any_eq_true] at h2 ⊢
  rcases h2 with m | ⟨x, hx, hf⟩
  · exact .inr ⟨(b : Int), m, by rw [Int.toNat_natCast, befC_eq hz ha hb.1]; exact hab⟩
  · have := isSetB_mem hl hx
    rw [befC_eq hz hb.1 (by omega)] at hf
    exact .inr ⟨x, hx, by rw [befC_eq hz ha (by omega)]; exact befP_trans hz hab hf⟩
theorem lowC_in {h : api_History} (hz : histE h = 0) {l c : List Int} (hl : isSetB l (h.Writes.length : Int) = true) (hc : ClosedS h c) (hs : ∀ x ∈ l, x ∈ c) : ∀ x ∈ selL h.Writes.length (lowC h l), x ∈ c := by
  intro x hx
  obtain ⟨a, rfl, ha, h2⟩ := mem_selL.1 hx
  unfold lowC at h2
  rw [Bool.or_eq_true, decide_eq_true_iff, List.any_eq_true] at h2
  rcases h2 with m | ⟨y, hy, hf⟩
  · exact hs _ m
  · have := isSetB_mem hl hy
    have e : ((y.toNat : Nat) : Int) = y := Int.toNat_of_nonneg this.1
    rw [befC_eq hz ha (by omega)] at hf
    exact hc a y.toNat ha (by rw [e]; exact hs y hy) hf
theorem set_eq {n : Nat} {a b : List Int} (ha : isSetB a (n : Int) = true) (hb : isSetB b (n : Int) = true) (h : ∀ w : Nat, w < n → ((w : Int) ∈ a ↔ (w : Int) ∈ b)) : a = b := by
  refine set_ext (n := 0) (set_pair ha) (set_pair hb) fun x => ?_
  constructor
  · intro hx
    have m := isSetB_mem ha hx
    have e : ((x.toNat : Nat) : Int) = x := Int.toNat_of_nonneg m.1
    rw [← e] at hx ⊢
    exact (h x.toNat (by omega)).1 hx
  · intro hx
    have m := isSetB_mem hb hx
    have e : ((x.toNat : Nat) : Int) = x := Int.toNat_of_nonneg m.1
    rw [← e] at hx ⊢
    exact (h x.toNat (by omega)).2 hx
theorem closB_iff {h : api_History} (hz : histE h = 0) {l : List Int} (hl : isSetB l (h.Writes.length : Int) = true) : closB h l = true ↔ ClosedS h l := by
  rw [closB_eq hz hl]
  unfold closP
  rw [List.all_eq_true]
  constructor
  · intro t a b ha hb hab
    have := allN_true.1 (t (b : Int) hb) a ha
    rw [Int.toNat_natCast, hab, Bool.not_true, Bool.false_or, decide_eq_true_iff] at this
    exact this
  · intro t x hx
    have m := isSetB_mem hl hx
    have e : ((x.toNat : Nat) : Int) = x := Int.toNat_of_nonneg m.1
    refine allN_true.2 fun a ha => ?_
    cases q : befP h a x.toNat with
    | false => rfl
    | true => rw [decide_eq_true (t a x.toNat ha (by rw [e]; exact hx) q)]; rfl
theorem ckcR_ok {h : api_History} (hz : histE h = 0) {l : List Int} (hl : isSetB l (h.Writes.length : Int) = true) (cl : ClosedS h l) : ckcR h l = 0 := ckcR_0 hz hl ((closB_iff hz hl).2 cl)
theorem frC_mem {h : api_History} (hz : histE h = 0) {l : List Int} (hl : isSetB l (h.Writes.length : Int) = true) {a : Nat} : (a : Int) ∈ frC h l ↔ (a : Int) ∈ l ∧ ∀ b : Nat, (b : Int) ∈ l → befP h a b = false := by
  unfold frC
  rw [mem_selN]
  unfold frB
  rw [Bool.and_eq_true, decide_eq_true_iff, List.all_eq_true]
  constructor
  · rintro ⟨ha, t, u⟩
    refine ⟨t, fun b hb => ?_⟩
    have m := isSetB_mem hl hb
    have := u (b : Int) hb
    rw [Int.toNat_natCast, befC_eq hz ha (by omega), Bool.not_eq_true'] at this
    exact this
  · rintro ⟨t, u⟩
    have m := isSetB_mem hl t
    have ha : a < h.Writes.length := by omega
    refine ⟨ha, t, fun x hx => ?_⟩
    have mx := isSetB_mem hl hx
    have e : ((x.toNat : Nat) : Int) = x := Int.toNat_of_nonneg mx.1
    rw [befC_eq hz ha (by omega), Bool.not_eq_true']
    exact u x.toNat (by rw [e]; exact hx)
theorem befP_iss {h : api_History} (hz : histE h = 0) {a b : Nat} (q : befP h a b = true) : atN h.Events h.Events.length ⟨0, (a : Int)⟩ < atN h.Events h.Events.length ⟨0, (b : Int)⟩ := by
  unfold befP at q
  rw [decide_eq_true_iff] at q
  have := (ack_issue hz q.1).2.2
  omega
theorem front_over {h : api_History} (hz : histE h = 0) {l : List Int} (hl : isSetB l (h.Writes.length : Int) = true) : ∀ (m : Nat) (a : Nat), (a : Int) ∈ l → (h.Events.length : Int) - atN h.Events h.Events.length ⟨0, (a : Int)⟩ ≤ (m : Int) → (a : Int) ∈ frC h l ∨ ∃ b : Nat, (b : Int) ∈ frC h l ∧ befP h a b = true
  | 0, a, _, hm => by
    have := atN_top h.Events h.Events.length ⟨0, (a : Int)⟩
    omega
  | m + 1, a, ha, hm => by
    by_cases q : (a : Int) ∈ frC h l
    · exact .inl q
    · have : ¬ ∀ b : Nat, (b : Int) ∈ l → befP h a b = false := fun t => q ((frC_mem hz hl).2 ⟨ha, t⟩)
      obtain ⟨b, hb⟩ := Classical.not_forall.1 this
      obtain ⟨hb, hab⟩ := Classical.not_imp.1 hb
      have hab : befP h a b = true := Bool.of_not_eq_false hab
      have lt := befP_iss hz hab
      rcases front_over hz hl m b hb (by omega) with t | ⟨c, hc, hbc⟩
      · exact .inr ⟨b, t, hab⟩
      · exact .inr ⟨c, hc, befP_trans hz hab hbc⟩
theorem frC_set {h : api_History} {l : List Int} : isSetB (frC h l) (h.Writes.length : Int) = true := selL_set (Nat.le_refl _) (Int.le_refl _)
theorem front_least {h : api_History} (hz : histE h = 0) {l : List Int} (hl : isSetB l (h.Writes.length : Int) = true) (cl : ClosedS h l) : leastC h (frC h l) = l := by
  rw [leastC_sel frC_set]
  refine set_eq (selL_set (Nat.le_refl _) (Int.le_refl _)) hl fun w hw => ?_
  constructor
  · intro t
    exact lowC_in hz frC_set cl (fun x hx => by
      have m := isSetB_mem frC_set hx
      have e : ((x.toNat : Nat) : Int) = x := Int.toNat_of_nonneg m.1
      rw [← e] at hx ⊢
      exact ((frC_mem hz hl).1 hx).1) _ t
  · intro t
    refine mem_selN.2 ⟨hw, ?_⟩
    unfold lowC
    rw [Bool.or_eq_true, decide_eq_true_iff, List.any_eq_true]
    have top := iss_nn hz hw
    rcases front_over hz hl h.Events.length w t (by omega) with u | ⟨b, hb, hwb⟩
    · exact .inl u
    · have m := isSetB_mem frC_set hb
      exact .inr ⟨(b : Int), hb, by rw [Int.toNat_natCast, befC_eq hz hw (by omega)]; exact hwb⟩
theorem front_less {h : api_History} (hz : histE h = 0) {l : List Int} (hl : isSetB l (h.Writes.length : Int) = true) (cl : ClosedS h l) {a : Nat} (ha : (a : Int) ∈ frC h l) : isSetB (l.filter fun x => !decide (x = (a : Int))) (h.Writes.length : Int) = true ∧ ClosedS h (l.filter fun x => !decide (x = (a : Int))) := by
  rw [set_filter hl]
  refine ⟨selL_set (Nat.le_refl _) (Int.le_refl _), fun x y hx hy hxy => ?_⟩
  have t := (mem_selN.1 hy).2
  rw [Bool.and_eq_true, decide_eq_true_iff] at t
  refine mem_selN.2 ⟨hx, ?_⟩
  rw [Bool.and_eq_true, decide_eq_true_iff, Bool.not_eq_true', decide_eq_false_iff_not]
  refine ⟨cl x y hx t.1 hxy, fun e => ?_⟩
  have e : x = a := Int.ofNat.inj e
  subst e
  have := ((frC_mem hz hl).1 ha).2 y t.1
  rw [hxy] at this; exact Bool.noConfusion this
theorem slices_Index_int_ok {l : List Int} {x : Int} {Φ : Int → Prop} (hl : l.length ≤ 1000000) (h1 : x ∈ l → ∀ k : Nat, Φ (k : Int)) (h0 : x ∉ l → Φ (-1)) : slices_Index_int_int_W l x Φ := by
  refine LoopW.upI l.length (fun k => (k : Int)) (fun k => ∀ j, j < k → ix l (j : Int) ≠ x) rfl (fun j hj => absurd hj (Nat.not_lt_zero j)) (fun k rec hk hI hr => ⟨fun hlt => ⟨iX (by omega) hlt, fun q => h1 (by rw [q]; exact ix_mem (iX (by omega) hlt)) k, fun q => ⟨iI (by omega) (by omega), hr (fun j hj => ?_) _ rfl⟩⟩, fun r => absurd (show (k : Int) < (l.length : Int) by omega) r⟩) fun rec hI => ⟨fun r => absurd r (by omega), fun _ => h0 fun hx => ?_⟩
  · rcases Nat.lt_or_ge j k with c | c
    · exact hI j c
    · obtain rfl : j = k := by omega
      exact fun t => q t.symm
  · obtain ⟨k, hk, e⟩ := List.getElem_of_mem hx
    exact hI k hk (by rw [ix_get hk, e])
theorem slices_Contains_int_ok {l : List Int} {x : Int} {Φ : Bool → Prop} (hl : l.length ≤ 1000000) (hΦ : Φ (decide (x ∈ l))) : slices_Contains_int_int_W l x Φ := by
  refine slices_Index_int_ok hl (fun hx k => ?_) fun hx => ?_
  · rw [decide_eq_true (show (0 : Int) ≤ (k : Int) by omega)]; rw [decide_eq_true hx] at hΦ; exact hΦ
  · rw [decide_eq_false hx] at hΦ; exact hΦ
theorem timeline_before_ok {h : api_History} (hz : histE h = 0) {a b : Nat} {Φ : Bool → Prop} (ha : a < h.Writes.length) (hb : b < h.Writes.length) (hΦ : Φ (befP h a b)) : history_timeline_before_W (tlH h) (a : Int) (b : Int) Φ := by
  have e := evE_cnt hz
  have la : (tlH h).acked.length = h.Writes.length := by rw [← e]; exact ackL_len _ _
  have li : (tlH h).issued.length = h.Writes.length := by rw [← e]; exact issL_len _ _
  have xa : ix (tlH h).acked (a : Int) = atN h.Events h.Events.length ⟨1, (a : Int)⟩ := ix_ackL (by omega)
  have xi : ix (tlH h).issued (b : Int) = atN h.Events h.Events.length ⟨0, (b : Int)⟩ := ix_issL (by omega)
  unfold befP at hΦ
  refine ⟨iX (by omega) (by omega), fun q => ⟨iX (by omega) (by omega), iX (by omega) (by omega), ?_⟩, fun q => ?_⟩
  · rw [xa] at q ⊢
    rw [xi]
    have : decide (atN h.Events h.Events.length ⟨1, (a : Int)⟩ < atN h.Events h.Events.length ⟨0, (b : Int)⟩) = decide (0 ≤ atN h.Events h.Events.length ⟨1, (a : Int)⟩ ∧ atN h.Events h.Events.length ⟨1, (a : Int)⟩ < atN h.Events h.Events.length ⟨0, (b : Int)⟩) := decide_eq_decide.2 ⟨fun t => ⟨q, t⟩, fun t => t.2⟩
    rw [this]; exact hΦ
  · rw [xa] at q
    rw [decide_eq_false fun t => q t.1] at hΦ; exact hΦ
theorem history_Before_ok {h : api_History} (hh : SmallH h) (hz : histE h = 0) {a b : Nat} {Φ : Bool → Prop} (ha : a < h.Writes.length) (hb : b < h.Writes.length) (hΦ : Φ (befP h a b)) : history_Before_W h (a : Int) (b : Int) Φ :=
  history_check_ok hh (fun _ => ⟨fun _ => ⟨fun _ => ⟨fun _ => ⟨fun _ => ⟨fun _ => timeline_before_ok hz ha hb hΦ, fun r => absurd (by omega) r⟩, fun r => absurd (by omega) r⟩, fun r => absurd (by omega) r⟩, fun r => absurd (by omega) r⟩, fun r => absurd rfl r⟩) fun q => absurd hz q
theorem equal_int_refl {l : List Int} {Φ : Bool → Prop} (hl : l.length ≤ 1000000) (hΦ : Φ true) : slices_Equal_int_int_W l l Φ :=
  ⟨fun h => absurd rfl h, fun _ => LoopW.upT l.length (fun k => (k : Int)) rfl (fun k rec hk hr => ⟨fun hlt => ⟨iX (by omega) hlt, iX (by omega) hlt, fun q => absurd rfl q, fun _ => ⟨iI (by omega) (by omega), hr _ rfl⟩⟩, fun r => absurd (show (k : Int) < (l.length : Int) by omega) r⟩) fun rec => ⟨fun r => absurd r (by omega), fun _ => hΦ⟩⟩
theorem law16_contains_ok {a b : List Int} {Φ : Bool → Prop} (ha : a.length ≤ 1000000) (hb : b.length ≤ 1000000) (hT : (∀ x ∈ b, x ∈ a) → Φ true) (hF : (¬ ∀ x ∈ b, x ∈ a) → Φ false) : law16_contains_W a b Φ := by
  refine LoopW.upI b.length (fun k => (k : Int)) (fun k => ∀ j, j < k → ix b (j : Int) ∈ a) rfl (fun j hj => absurd hj (Nat.not_lt_zero j)) (fun k rec hk hI hr => ⟨fun hlt => ⟨iX (by omega) hlt, slices_Contains_int_ok ha ⟨fun t => ?_, fun t => ⟨iI (by omega) (by omega), hr (fun j hj => ?_) _ rfl⟩⟩⟩, fun r => absurd (show (k : Int) < (b.length : Int) by omega) r⟩) fun rec hI => ⟨fun r => absurd r (by omega), fun _ => ?_⟩
  · rw [decide_eq_false (show ¬ ¬ (0 : Int) ≤ (k : Int) by omega)]
    exact hF fun u => t (decide_eq_true (u _ (ix_mem (iX (by omega) (by omega)))))
  · rcases Nat.lt_or_ge j k with c | c
    · exact hI j c
    · obtain rfl : j = k := by omega
      exact of_decide_eq_true (Classical.not_not.1 t)
  · rw [show decide (¬ (0 : Int) ≤ -1) = true by decide]
    refine hT fun x hx => ?_
    obtain ⟨k, hk, e⟩ := List.getElem_of_mem hx
    have := hI k hk
    rw [ix_get hk, e] at this; exact this
theorem law16_below_ok {l : List Int} {n : Nat} {Φ : List Int → Prop} (hl : l.length ≤ 1000000) (hn : n ≤ 4096) (hΦ : Φ (selL n fun w => decide ((w : Int) ∈ l))) : law16_below_W l (n : Int) Φ := by
  refine LoopW.upT n (fun k => ((k : Int), selL k fun w => decide ((w : Int) ∈ l))) rfl (fun k rec hk hr => ⟨fun _ => slices_Contains_int_ok hl ⟨fun t => ⟨sel_room hk hn, iI (by omega) (by omega), hr _ ?_⟩, fun t => ⟨iI (by omega) (by omega), hr _ ?_⟩⟩, fun r => absurd (show (k : Int) < (n : Int) by omega) r⟩) fun rec => ⟨fun r => absurd r (by omega), fun _ => hΦ⟩
  · rw [selL_succ, if_pos t]; rfl
  · rw [selL_succ, if_neg t, List.append_nil]; rfl
theorem law16_few_ok {h : api_History} {L : List (List Int)} {Φ : Bool → Prop} (hL : L.length ≤ 100) (hF : Φ false) (hT : SmallH h → h.Writes.length ≤ 40 → h.Events.length ≤ 90 → (∀ x ∈ L, x.length ≤ 60) → Φ true) : law16_few_W h L Φ := by
  refine ref15_Few_ok ⟨fun t => ?_, fun _ => hF⟩
  have hs := fewH_small t
  have he : h.Events.length ≤ 90 := by
    unfold fewH at t
    rw [Bool.and_eq_true, decide_eq_true_iff] at t
    exact t.1.2.2
  refine LoopW.upI L.length (fun k => (k : Int)) (fun k => ∀ j, j < k → (ix L (j : Int)).length ≤ 60) rfl (fun j hj => absurd hj (Nat.not_lt_zero j)) (fun k rec hk hI hr => ⟨fun hlt => ⟨iX (by omega) hlt, fun t => ?_, fun t => ⟨iI (by omega) (by omega), hr (fun j hj => ?_) _ rfl⟩⟩, fun r => absurd (show (k : Int) < (L.length : Int) by omega) r⟩) fun rec hI => ⟨fun r => absurd r (by omega), fun _ => ?_⟩
  · rw [decide_eq_false (show ¬ ¬ (0 : Int) ≤ (k : Int) by omega)]; exact hF
  · rcases Nat.lt_or_ge j k with c | c
    · exact hI j c
    · obtain rfl : j = k := by omega
      rw [decide_eq_true_iff] at t; omega
  · rw [show decide (¬ (0 : Int) ≤ -1) = true by decide]
    refine hT hs.1 hs.2 he fun x hx => ?_
    obtain ⟨k, hk, e⟩ := List.getElem_of_mem hx
    have := hI k hk
    rw [ix_get hk, e] at this; exact this
def orK {S R : Type} (a : S → Prop) (b : R → Prop) : S ⊕ R → Prop
  | .inl s => a s
  | .inr r => b r
def loopS {S R : Type} (step : S → Option (S ⊕ R)) : Nat → S → Option R
  | 0, _ => none
  | n + 1, s => match step s with
    | none => none
    | some (.inl s') => loopS step n s'
    | some (.inr r) => some r
theorem LoopW.of_S {S R : Type} {step : S → (S → Prop) → Prop} {stepS : S → Option (S ⊕ R)} {K : R → Prop} (hs : ∀ s q rec, stepS s = some q → orK rec K q → step s rec) : ∀ (n : Nat) (s : S) {o : R}, loopS stepS n s = some o → K o → LoopW step s := by
  intro n s o h hK
  refine ⟨n, ?_⟩
  induction n generalizing s with
  | zero => cases h
  | succ n ih =>
    unfold loopS at h
    split at h
    · cases h
    · rename_i s' e
      exact hs s _ _ e (ih s' h)
    · rename_i r e
      cases h
      exact hs s _ _ e hK
theorem ofBind {α β : Type} {x : Option α} {f : α → Option β} {o : β} (h : Option.bind x f = some o) : ∃ v, x = some v ∧ f v = some o := Option.bind_eq_some_iff.1 h
theorem ofIf {α : Type} {p : Prop} [Decidable p] {x : Option α} {o : α} (h : (if p then x else none) = some o) : p ∧ x = some o := by
  by_cases hp : p
  · rw [if_pos hp] at h; exact ⟨hp, h⟩
  · rw [if_neg hp] at h; cases h
theorem ofT {α : Type} {p : Prop} [Decidable p] {x y : Option α} {o : α} (hp : p) (h : (if p then x else y) = some o) : x = some o := by rw [if_pos hp] at h; exact h
theorem ofF {α : Type} {p : Prop} [Decidable p] {x y : Option α} {o : α} (hp : ¬ p) (h : (if p then x else y) = some o) : y = some o := by rw [if_neg hp] at h; exact h
def bothS {α : Type} [DecidableEq α] (b : Bool) (x y : Option α) : Option α := if b = true then (if x = y then x else none) else y
theorem ofBoth {α : Type} [DecidableEq α] {b : Bool} {x y : Option α} {o : α} (h : bothS b x y = some o) : (b = true → x = some o) ∧ y = some o := by
  unfold bothS at h
  by_cases hb : b = true
  · rw [if_pos hb] at h
    by_cases he : x = y
    · rw [if_pos he] at h; exact ⟨fun _ => h, he ▸ h⟩
    · rw [if_neg he] at h; cases h
  · rw [if_neg hb] at h; exact ⟨fun q => absurd q hb, h⟩
theorem lfS {α : Type} {K : α → Prop} {a o : α} (h : some a = some o) (hK : K o) : K a := by
  cases h; exact hK
theorem adS {α : Type} {p : Prop} [Decidable p] {x : Option α} {o : α} {B : Prop} (h : (if p then x else none) = some o) (b : x = some o → B) : p ∧ B := ⟨(ofIf h).1, b (ofIf h).2⟩
theorem ifS {α : Type} {p : Prop} [Decidable p] {x y : Option α} {o : α} {A B : Prop} (h : (if p then x else y) = some o) (a : x = some o → A) (b : y = some o → B) : (p → A) ∧ (¬ p → B) := ⟨fun c => a (ofT c h), fun c => b (ofF c h)⟩
theorem mpS {α β : Type} {g : α → β} {x : Option α} {o : β} {G : Prop} (h : Option.map g x = some o) (k : ∀ v, x = some v → g v = o → G) : G := by
  obtain ⟨v, h1, h2⟩ := Option.map_eq_some_iff.1 h
  exact k v h1 h2
theorem blS {α β : Type} {x : Option α} {f : α → Option β} {o : β} {G : Prop} (h : Option.bind x f = some o) (k : ∀ v, x = some v → f v = some o → G) : G := by
  obtain ⟨v, h1, h2⟩ := ofBind h
  exact k v h1 h2
instance decI (x : Int) : Decidable (inI x) := inferInstanceAs (Decidable (_ ∧ _))
instance decX (i : Int) (n : Nat) : Decidable (inX i n) := inferInstanceAs (Decidable (_ ∧ _))
instance decS (a b : Int) (n : Nat) : Decidable (inS a b n) := inferInstanceAs (Decidable (_ ∧ _))
instance decL (n b : Nat) : Decidable (lenOk n b) := inferInstanceAs (Decidable (_ ∧ _))
theorem nl2S {α : Type} [DecidableEq α] {p : Prop} [Decidable p] {x y : Option α} {o : α} {A B : Prop} (h : bothS (decide p) x y = some o) (a : x = some o → A) (b : y = some o → B) : (p → A) ∧ B := ⟨fun c => a ((ofBoth h).1 (decide_eq_true c)), b (ofBoth h).2⟩
theorem joinI {α : Type} {F : α → Prop} {G : (α → Prop) → Prop} (h : G F) : Join F G := h
def genS {S Y R : Type} (step : S → Option (List Y × (S ⊕ R))) : Nat → S → Option (List Y × R)
  | 0, _ => none
  | n + 1, s => match step s with
    | none => none
    | some (ys, .inr o) => some (ys, o)
    | some (ys, .inl s') => (genS step n s').map fun q => (ys ++ q.1, q.2)
theorem LoopW.of_G {S Y R : Type} {step : (List Y × S) → ((List Y × S) → Prop) → Prop} {stepS : S → Option (List Y × (S ⊕ R))} {K : List Y → R → Prop} (hs : ∀ s ys q r rec, stepS s = some (ys, q) → orK (fun s => rec (r, s)) (K r) q → step (ys ++ r, s) rec) : ∀ (n : Nat) (s : S) {ys : List Y} {o : R} (r : List Y), genS stepS n s = some (ys, o) → K r o → LoopW step (ys ++ r, s) := by
  intro n s ys o r h hK
  refine ⟨n, ?_⟩
  induction n generalizing s ys with
  | zero => cases h
  | succ n ih =>
    unfold genS at h
    split at h
    · cases h
    · rename_i ys o e
      cases h
      exact hs s _ _ _ (LoopN step n) e hK
    · rename_i ys s' e
      obtain ⟨v, h1, h2⟩ := Option.map_eq_some_iff.1 h
      cases h2
      rw [List.append_assoc]
      exact hs s _ _ _ (LoopN step n) e (show LoopN step n (v.1 ++ r, s') from ih s' h1)
def law16_example_1_S (x0 : Int) : Option (api_Write) :=
  if inI (x0 + 1) then
  some ((api_Write.mk 0 x0 ([(Sec.mk (BitVec.ofInt 8 (x0 + 1)) (0#8) (0#8) (0#8) (0#8) (0#8) (0#8) (0#8))] : List Sec)))
  else none
theorem law16_example_1_sound (x0 : Int) {Φ : api_Write → Prop} {o} (h : law16_example_1_S x0 = some o) (hK : Φ o) : law16_example_1_W x0 Φ := by
  unfold law16_example_1_S at h
  unfold law16_example_1_W
  exact adS h fun h => have t := lfS h hK; t
def law16_example_2_S (x0 : Int) : Option (api_HistoryEvent) :=
  some ((api_HistoryEvent.mk 0 x0))
theorem law16_example_2_sound (x0 : Int) {Φ : api_HistoryEvent → Prop} {o} (h : law16_example_2_S x0 = some o) (hK : Φ o) : law16_example_2_W x0 Φ := by
  unfold law16_example_2_S at h
  unfold law16_example_2_W
  exact have t := lfS h hK; t
def law16_example_3_S (x0 : Int) : Option (api_HistoryEvent) :=
  some ((api_HistoryEvent.mk 1 x0))
theorem law16_example_3_sound (x0 : Int) {Φ : api_HistoryEvent → Prop} {o} (h : law16_example_3_S x0 = some o) (hK : Φ o) : law16_example_3_W x0 Φ := by
  unfold law16_example_3_S at h
  unfold law16_example_3_W
  exact have t := lfS h hK; t
def law16_example_S : Option (api_History) :=
  Option.bind (law16_example_1_S 0) fun v1 =>
  Option.bind (law16_example_1_S 1) fun v2 =>
  Option.bind (law16_example_1_S 2) fun v3 =>
  Option.bind (law16_example_2_S 0) fun v4 =>
  Option.bind (law16_example_2_S 1) fun v5 =>
  Option.bind (law16_example_3_S 0) fun v6 =>
  Option.bind (law16_example_2_S 2) fun v7 =>
  Option.bind (law16_example_3_S 2) fun v8 =>
  some ((api_History.mk ([3] : List Int) ([v1, v2, v3] : List api_Write) ([v4, v5, v6, v7, v8] : List api_HistoryEvent)))
theorem law16_example_sound {Φ : api_History → Prop} {o} (h : law16_example_S = some o) (hK : Φ o) : law16_example_W Φ := by
  unfold law16_example_S at h
  unfold law16_example_W
  exact blS h fun _ hv h => law16_example_1_sound _ hv (blS h fun _ hv h => law16_example_1_sound _ hv (blS h fun _ hv h => law16_example_1_sound _ hv (blS h fun _ hv h => law16_example_2_sound _ hv (blS h fun _ hv h => law16_example_2_sound _ hv (blS h fun _ hv h => law16_example_3_sound _ hv (blS h fun _ hv h => law16_example_2_sound _ hv (blS h fun _ hv h => law16_example_3_sound _ hv (have t := lfS h hK; t))))))))
def image_checkSizes_1_S (x0 : Int) : Option (Bool) :=
  if x0 < 1 then
    some (true)
  else
    some (decide (4096 < x0))
theorem image_checkSizes_1_sound (x0 : Int) {Φ : Bool → Prop} {o} (h : image_checkSizes_1_S x0 = some o) (hK : Φ o) : image_checkSizes_1_W x0 Φ := by
  unfold image_checkSizes_1_S at h
  unfold image_checkSizes_1_W
  exact ifS h (fun h => have t := lfS h hK; t) fun h => have t := lfS h hK; t
def image_checkSizes_L1_S (x0 : List Int) : (Int) → Option ((Int) ⊕ (Int))
  | v1 =>
    if v1 < (x0.length : Int) then
      if inX v1 x0.length then
      Option.bind (image_checkSizes_1_S (ix x0 v1)) fun v2 =>
      if v2 = true then
        if 0 ≤ v1 then
          some (.inr 2)
        else
          some (.inr 0)
      else
        if inI (v1 + 1) then
        some (.inl (v1 + 1))
        else none
      else none
    else
      if 0 ≤ ((-1) : Int) then
        some (.inr 2)
      else
        some (.inr 0)
theorem image_checkSizes_L1_sound (x0 : List Int) (s : Int) {Φ : Int → Prop} {rec1 : (Int) → Prop} {o} (h : image_checkSizes_L1_S x0 s = some o) (hK : (orK rec1 Φ) o) : image_checkSizes_L1 x0 Φ s rec1 := by
  unfold image_checkSizes_L1_S at h
  unfold image_checkSizes_L1
  exact ifS h (fun h => adS h fun h => blS h fun _ hv h => image_checkSizes_1_sound _ hv (ifS h (fun h => ifS h (fun h => have t := lfS h hK; t) fun h => have t := lfS h hK; t) fun h => adS h fun h => have t := lfS h hK; t)) fun h => ifS h (fun h => have t := lfS h hK; t) fun h => have t := lfS h hK; t
def image_checkSizes_S (x0 : List Int) : Option (Int) :=
  if (x0.length : Int) < 1 then
    some (6)
  else
    if 8 < (x0.length : Int) then
      some (6)
    else
      loopS (image_checkSizes_L1_S x0) 100000 0
theorem image_checkSizes_sound (x0 : List Int) {Φ : Int → Prop} {o} (h : image_checkSizes_S x0 = some o) (hK : Φ o) : image_checkSizes_W x0 Φ := by
  unfold image_checkSizes_S at h
  unfold image_checkSizes_W
  exact ifS h (fun h => have t := lfS h hK; t) fun h => ifS h (fun h => have t := lfS h hK; t) fun h => LoopW.of_S (fun s q rec hs hq => image_checkSizes_L1_sound _ s hs hq) _ _ h hK
def image_New_1_S (x0 : Int) : Option (List Sec) :=
  if 0 ≤ x0 then
  if lenOk x0.toNat 8 then
  some ((List.replicate x0.toNat (sec0 : Sec)))
  else none
  else none
theorem image_New_1_sound (x0 : Int) {Φ : List Sec → Prop} {o} (h : image_New_1_S x0 = some o) (hK : Φ o) : image_New_1_W x0 Φ := by
  unfold image_New_1_S at h
  unfold image_New_1_W
  exact adS h fun h => adS h fun h => have t := lfS h hK; t
def image_New_L1_S (x0 : List Int) : (Int × List (List Sec)) → Option ((Int × List (List Sec)) ⊕ (List (List Sec) × Int))
  | (v2, v3) =>
    if v2 < (x0.length : Int) then
      if inX v2 x0.length then
      Option.bind (image_New_1_S (ix x0 v2)) fun v4 =>
      if lenOk (v3 ++ ([v4] : List (List Sec))).length 24 then
      if inI (v2 + 1) then
      some (.inl ((v2 + 1), (v3 ++ ([v4] : List (List Sec)))))
      else none
      else none
      else none
    else
      some (.inr (v3, 0))
theorem image_New_L1_sound (x0 : List Int) (s : Int × List (List Sec)) {Φ : List (List Sec) × Int → Prop} {rec1 : (Int × List (List Sec)) → Prop} {o} (h : image_New_L1_S x0 s = some o) (hK : (orK rec1 Φ) o) : image_New_L1 x0 Φ s rec1 := by
  obtain ⟨v2, v3⟩ := s
  unfold image_New_L1_S at h
  unfold image_New_L1
  exact ifS h (fun h => adS h fun h => blS h fun _ hv h => image_New_1_sound _ hv (adS h fun h => adS h fun h => have t := lfS h hK; t)) fun h => have t := lfS h hK; t
def image_New_S (x0 : List Int) : Option (List (List Sec) × Int) :=
  Option.bind (image_checkSizes_S x0) fun v1 =>
  if v1 ≠ 0 then
    some ((([] : List (List Sec)), v1))
  else
    if 0 ≤ (x0.length : Int) then
    if lenOk (x0.length : Int).toNat 24 then
    loopS (image_New_L1_S x0) 100000 (0, ([] : List (List Sec)))
    else none
    else none
theorem image_New_sound (x0 : List Int) {Φ : List (List Sec) × Int → Prop} {o} (h : image_New_S x0 = some o) (hK : Φ o) : image_New_W x0 Φ := by
  unfold image_New_S at h
  unfold image_New_W
  exact blS h fun _ hv h => image_checkSizes_sound _ hv (ifS h (fun h => have t := lfS h hK; t) fun h => adS h fun h => adS h fun h => LoopW.of_S (fun s q rec hs hq => image_New_L1_sound _ s hs hq) _ _ h hK)
def image_sizes_1_S (x0 : List Sec) : Option (Int) :=
  some ((x0.length : Int))
theorem image_sizes_1_sound (x0 : List Sec) {Φ : Int → Prop} {o} (h : image_sizes_1_S x0 = some o) (hK : Φ o) : image_sizes_1_W x0 Φ := by
  unfold image_sizes_1_S at h
  unfold image_sizes_1_W
  exact have t := lfS h hK; t
def image_sizes_L1_S (x0 : List (List Sec)) : (Int × List Int) → Option ((Int × List Int) ⊕ (List Int))
  | (v1, v2) =>
    if v1 < (x0.length : Int) then
      if inX v1 x0.length then
      Option.bind (image_sizes_1_S (ix x0 v1)) fun v3 =>
      if lenOk (v2 ++ ([v3] : List Int)).length 8 then
      if inI (v1 + 1) then
      some (.inl ((v1 + 1), (v2 ++ ([v3] : List Int))))
      else none
      else none
      else none
    else
      some (.inr v2)
theorem image_sizes_L1_sound (x0 : List (List Sec)) (s : Int × List Int) {Φ : List Int → Prop} {rec1 : (Int × List Int) → Prop} {o} (h : image_sizes_L1_S x0 s = some o) (hK : (orK rec1 Φ) o) : image_sizes_L1 x0 Φ s rec1 := by
  obtain ⟨v1, v2⟩ := s
  unfold image_sizes_L1_S at h
  unfold image_sizes_L1
  exact ifS h (fun h => adS h fun h => blS h fun _ hv h => image_sizes_1_sound _ hv (adS h fun h => adS h fun h => have t := lfS h hK; t)) fun h => have t := lfS h hK; t
def image_sizes_S (x0 : List (List Sec)) : Option (List Int) :=
  if 0 ≤ (x0.length : Int) then
  if lenOk (x0.length : Int).toNat 8 then
  loopS (image_sizes_L1_S x0) 100000 (0, ([] : List Int))
  else none
  else none
theorem image_sizes_sound (x0 : List (List Sec)) {Φ : List Int → Prop} {o} (h : image_sizes_S x0 = some o) (hK : Φ o) : image_sizes_W x0 Φ := by
  unfold image_sizes_S at h
  unfold image_sizes_W
  exact adS h fun h => adS h fun h => LoopW.of_S (fun s q rec hs hq => image_sizes_L1_sound _ s hs hq) _ _ h hK
def image_Check_S (x0 : List (List Sec)) : Option (Int) :=
  Option.bind (image_sizes_S x0) fun v1 =>
  Option.bind (image_checkSizes_S v1) fun v2 =>
  some (v2)
theorem image_Check_sound (x0 : List (List Sec)) {Φ : Int → Prop} {o} (h : image_Check_S x0 = some o) (hK : Φ o) : image_Check_W x0 Φ := by
  unfold image_Check_S at h
  unfold image_Check_W
  exact blS h fun _ hv h => image_sizes_sound _ hv (blS h fun _ hv h => image_checkSizes_sound _ hv (have t := lfS h hK; t))
def image_fits_J1_S (x0 : List (List Sec)) (x1 : api_Write) : (Bool) → Option (Int)
  | v1 =>
    if v1 = true then
      some (7)
    else
      if (x1.Data.length : Int) = 0 then
        some (1)
      else
        if x1.Start < 0 then
          some (2)
        else
          if inX x1.Volume x0.length then
          if inI (((ix x0 x1.Volume).length : Int) - (x1.Data.length : Int)) then
          if (((ix x0 x1.Volume).length : Int) - (x1.Data.length : Int)) < x1.Start then
            some (2)
          else
            some (0)
          else none
          else none
theorem image_fits_J1_sound (x0 : List (List Sec)) (x1 : api_Write) (s : Bool) {Φ : Int → Prop} {o} (h : image_fits_J1_S x0 x1 s = some o) (hK : Φ o) : image_fits_J1 x0 x1 Φ s := by
  unfold image_fits_J1_S at h
  unfold image_fits_J1
  exact ifS h (fun h => have t := lfS h hK; t) fun h => ifS h (fun h => have t := lfS h hK; t) fun h => ifS h (fun h => have t := lfS h hK; t) fun h => adS h fun h => adS h fun h => ifS h (fun h => have t := lfS h hK; t) fun h => have t := lfS h hK; t
def image_fits_S (x0 : List (List Sec)) (x1 : api_Write) : Option (Int) :=
  if x1.Volume < 0 then
    image_fits_J1_S x0 x1 true
  else
    image_fits_J1_S x0 x1 (decide ((x0.length : Int) ≤ x1.Volume))
theorem image_fits_sound (x0 : List (List Sec)) (x1 : api_Write) {Φ : Int → Prop} {o} (h : image_fits_S x0 x1 = some o) (hK : Φ o) : image_fits_W x0 x1 Φ := by
  unfold image_fits_S at h
  unfold image_fits_W
  exact ifS h (fun h => image_fits_J1_sound _ _ _ h hK) fun h => image_fits_J1_sound _ _ _ h hK
def image_Fits_S (x0 : List (List Sec)) (x1 : api_Write) : Option (Int) :=
  Option.bind (image_Check_S x0) fun v1 =>
  if v1 ≠ 0 then
    some (v1)
  else
    Option.bind (image_fits_S x0 x1) fun v2 =>
    some (v2)
theorem image_Fits_sound (x0 : List (List Sec)) (x1 : api_Write) {Φ : Int → Prop} {o} (h : image_Fits_S x0 x1 = some o) (hK : Φ o) : image_Fits_W x0 x1 Φ := by
  unfold image_Fits_S at h
  unfold image_Fits_W
  exact blS h fun _ hv h => image_Check_sound _ hv (ifS h (fun h => have t := lfS h hK; t) fun h => blS h fun _ hv h => image_fits_sound _ _ hv (have t := lfS h hK; t))
def history_check_J3_S (v4 : Int) : (Int × List Int × List Int) → Option ((Int × List Int × List Int) ⊕ ((Int) ⊕ (history_checked × Int)))
  | (v7, v8, v9) =>
    if v7 ≠ 0 then
      some (.inr (.inr ((history_checked.mk (api_History.mk ([] : List Int) ([] : List api_Write) ([] : List api_HistoryEvent)) (history_timeline.mk ([] : List Int) ([] : List Int))), v7)))
    else
      if inI (v4 + 1) then
      some (.inl ((v4 + 1), v8, v9))
      else none
theorem history_check_J3_sound (v4 : Int) (s : Int × List Int × List Int) {Φ : history_checked × Int → Prop} {rec1 : (Int) → Prop} {rec2 : (Int × List Int × List Int) → Prop} {o} (h : history_check_J3_S v4 s = some o) (hK : (orK rec2 (orK rec1 Φ)) o) : history_check_J3 v4 rec2 Φ s := by
  obtain ⟨v7, v8, v9⟩ := s
  unfold history_check_J3_S at h
  unfold history_check_J3
  exact ifS h (fun h => have t := lfS h hK; t) fun h => adS h fun h => have t := lfS h hK; t
def history_check_L2_S (x0 : api_History) : (Int × List Int × List Int) → Option ((Int × List Int × List Int) ⊕ ((Int) ⊕ (history_checked × Int)))
  | (v4, v5, v6) =>
    if v4 < (x0.Events.length : Int) then
      if inX v4 x0.Events.length then
      if ((ix x0.Events v4).Kind) = 0 then
        if ((ix x0.Events v4).Write) ≠ (v5.length : Int) then
          history_check_J3_S v4 (3, v5, v6)
        else
          if (x0.Writes.length : Int) ≤ ((ix x0.Events v4).Write) then
            history_check_J3_S v4 (3, v5, v6)
          else
            if lenOk (v5 ++ ([v4] : List Int)).length 8 then
            if lenOk (v6 ++ ([(-1)] : List Int)).length 8 then
            history_check_J3_S v4 (0, (v5 ++ ([v4] : List Int)), (v6 ++ ([(-1)] : List Int)))
            else none
            else none
      else
        if ((ix x0.Events v4).Kind) = 1 then
          if ((ix x0.Events v4).Write) < 0 then
            history_check_J3_S v4 (7, v5, v6)
          else
            if (v5.length : Int) ≤ ((ix x0.Events v4).Write) then
              history_check_J3_S v4 (7, v5, v6)
            else
              if inX ((ix x0.Events v4).Write) v6.length then
              if 0 ≤ (ix v6 ((ix x0.Events v4).Write)) then
                history_check_J3_S v4 (8, v5, v6)
              else
                if inX ((ix x0.Events v4).Write) v6.length then
                history_check_J3_S v4 (0, v5, (put v6 ((ix x0.Events v4).Write) v4))
                else none
              else none
        else
          history_check_J3_S v4 (3, v5, v6)
      else none
    else
      if (v5.length : Int) < (x0.Writes.length : Int) then
        some (.inr (.inr ((history_checked.mk (api_History.mk ([] : List Int) ([] : List api_Write) ([] : List api_HistoryEvent)) (history_timeline.mk ([] : List Int) ([] : List Int))), 3)))
      else
        some (.inr (.inr ((history_checked.mk x0 (history_timeline.mk v5 v6)), 0)))
theorem history_check_L2_sound (x0 : api_History) (s : Int × List Int × List Int) {Φ : history_checked × Int → Prop} {rec1 : (Int) → Prop} {rec2 : (Int × List Int × List Int) → Prop} {o} (h : history_check_L2_S x0 s = some o) (hK : (orK rec2 (orK rec1 Φ)) o) : history_check_L2 x0 Φ s rec2 := by
  obtain ⟨v4, v5, v6⟩ := s
  unfold history_check_L2_S at h
  unfold history_check_L2
  exact ifS h (fun h => adS h fun h => ifS h (fun h => ifS h (fun h => history_check_J3_sound _ _ h hK) fun h => ifS h (fun h => history_check_J3_sound _ _ h hK) fun h => adS h fun h => adS h fun h => history_check_J3_sound _ _ h hK) fun h => ifS h (fun h => ifS h (fun h => history_check_J3_sound _ _ h hK) fun h => ifS h (fun h => history_check_J3_sound _ _ h hK) fun h => adS h fun h => ifS h (fun h => history_check_J3_sound _ _ h hK) fun h => adS h fun h => history_check_J3_sound _ _ h hK) fun h => history_check_J3_sound _ _ h hK) fun h => ifS h (fun h => have t := lfS h hK; t) fun h => have t := lfS h hK; t
def history_check_L1_S (x0 : api_History) (v1 : List (List Sec) × Int) : (Int) → Option ((Int) ⊕ (history_checked × Int))
  | v2 =>
    if v2 < (x0.Writes.length : Int) then
      if inX v2 x0.Writes.length then
      Option.bind (image_Fits_S v1.1 (ix x0.Writes v2)) fun v3 =>
      if v3 ≠ 0 then
        some (.inr ((history_checked.mk (api_History.mk ([] : List Int) ([] : List api_Write) ([] : List api_HistoryEvent)) (history_timeline.mk ([] : List Int) ([] : List Int))), v3))
      else
        if inI (v2 + 1) then
        some (.inl (v2 + 1))
        else none
      else none
    else
      loopS (history_check_L2_S x0) 100000 (0, ([] : List Int), ([] : List Int))
theorem history_check_L1_sound (x0 : api_History) (v1 : List (List Sec) × Int) (s : Int) {Φ : history_checked × Int → Prop} {rec1 : (Int) → Prop} {o} (h : history_check_L1_S x0 v1 s = some o) (hK : (orK rec1 Φ) o) : history_check_L1 x0 v1 Φ s rec1 := by
  unfold history_check_L1_S at h
  unfold history_check_L1
  exact ifS h (fun h => adS h fun h => blS h fun _ hv h => image_Fits_sound _ _ hv (ifS h (fun h => have t := lfS h hK; t) fun h => adS h fun h => have t := lfS h hK; t)) fun h => LoopW.of_S (fun s q rec hs hq => history_check_L2_sound _ s hs hq) _ _ h hK
def history_check_S (x0 : api_History) : Option (history_checked × Int) :=
  Option.bind (image_New_S x0.Sizes) fun v1 =>
  if v1.2 ≠ 0 then
    some (((history_checked.mk (api_History.mk ([] : List Int) ([] : List api_Write) ([] : List api_HistoryEvent)) (history_timeline.mk ([] : List Int) ([] : List Int))), v1.2))
  else
    if 4096 < (x0.Writes.length : Int) then
      some (((history_checked.mk (api_History.mk ([] : List Int) ([] : List api_Write) ([] : List api_HistoryEvent)) (history_timeline.mk ([] : List Int) ([] : List Int))), 6))
    else
      loopS (history_check_L1_S x0 v1) 100000 0
theorem history_check_sound (x0 : api_History) {Φ : history_checked × Int → Prop} {o} (h : history_check_S x0 = some o) (hK : Φ o) : history_check_W x0 Φ := by
  unfold history_check_S at h
  unfold history_check_W
  exact blS h fun _ hv h => image_New_sound _ hv (ifS h (fun h => have t := lfS h hK; t) fun h => ifS h (fun h => have t := lfS h hK; t) fun h => LoopW.of_S (fun s q rec hs hq => history_check_L1_sound _ _ s hs hq) _ _ h hK)
def history_Check_S (x0 : api_History) : Option (Int) :=
  Option.bind (history_check_S x0) fun v1 =>
  some (v1.2)
theorem history_Check_sound (x0 : api_History) {Φ : Int → Prop} {o} (h : history_Check_S x0 = some o) (hK : Φ o) : history_Check_W x0 Φ := by
  unfold history_Check_S at h
  unfold history_Check_W
  exact blS h fun _ hv h => history_check_sound _ hv (have t := lfS h hK; t)
def math_bits_Mul64_S (x0 : BitVec 64) (x1 : BitVec 64) : Option (BitVec 64 × BitVec 64) :=
  some ((((((x0 >>> ((32#64).toNat : Int).toNat) * (x1 >>> ((32#64).toNat : Int).toNat)) + ((((x0 >>> ((32#64).toNat : Int).toNat) * (x1 &&& (4294967295#64))) + (((x0 &&& (4294967295#64)) * (x1 &&& (4294967295#64))) >>> ((32#64).toNat : Int).toNat)) >>> ((32#64).toNat : Int).toNat)) + ((((((x0 >>> ((32#64).toNat : Int).toNat) * (x1 &&& (4294967295#64))) + (((x0 &&& (4294967295#64)) * (x1 &&& (4294967295#64))) >>> ((32#64).toNat : Int).toNat)) &&& (4294967295#64)) + ((x0 &&& (4294967295#64)) * (x1 >>> ((32#64).toNat : Int).toNat))) >>> ((32#64).toNat : Int).toNat)), (x0 * x1)))
theorem math_bits_Mul64_sound (x0 : BitVec 64) (x1 : BitVec 64) {Φ : BitVec 64 × BitVec 64 → Prop} {o} (h : math_bits_Mul64_S x0 x1 = some o) (hK : Φ o) : math_bits_Mul64_W x0 x1 Φ := by
  unfold math_bits_Mul64_S at h
  unfold math_bits_Mul64_W
  exact have t := lfS h hK; t
def math_bits_Mul_S (x0 : BitVec 64) (x1 : BitVec 64) : Option (BitVec 64 × BitVec 64) :=
  Option.bind (math_bits_Mul64_S x0 x1) fun v1 =>
  some ((v1.1, v1.2))
theorem math_bits_Mul_sound (x0 : BitVec 64) (x1 : BitVec 64) {Φ : BitVec 64 × BitVec 64 → Prop} {o} (h : math_bits_Mul_S x0 x1 = some o) (hK : Φ o) : math_bits_Mul_W x0 x1 Φ := by
  unfold math_bits_Mul_S at h
  unfold math_bits_Mul_W
  exact blS h fun _ hv h => math_bits_Mul64_sound _ _ hv (have t := lfS h hK; t)
def slices_Repeat_int_int_L2_S : (Int × List Int) → Option ((Int × List Int) ⊕ (List Int))
  | (v3, v4) =>
    if v3 < (v4.length : Int) then
      if inS v3 (v4.length : Int) v4.length then
      if inS 0 v3 v4.length then
      if inI (v3 + ((min (sub v4 0 v3).length (v4.length - (v3 : Int).toNat) : Nat) : Int)) then
      some (.inl ((v3 + ((min (sub v4 0 v3).length (v4.length - (v3 : Int).toNat) : Nat) : Int)), (paste v4 v3 (sub v4 0 v3))))
      else none
      else none
      else none
    else
      some (.inr v4)
theorem slices_Repeat_int_int_L2_sound (s : Int × List Int) {Φ : List Int → Prop} {rec2 : (Int × List Int) → Prop} {o} (h : slices_Repeat_int_int_L2_S s = some o) (hK : (orK rec2 Φ) o) : slices_Repeat_int_int_L2 Φ s rec2 := by
  obtain ⟨v3, v4⟩ := s
  unfold slices_Repeat_int_int_L2_S at h
  unfold slices_Repeat_int_int_L2
  exact ifS h (fun h => adS h fun h => adS h fun h => adS h fun h => have t := lfS h hK; t) fun h => have t := lfS h hK; t
def slices_Repeat_int_int_J1_S (x0 : List Int) (v1 : BitVec 64 × BitVec 64) : (Bool) → Option (List Int)
  | v2 =>
    if v2 = true then
      none
    else
      if 0 ≤ v1.2.toInt then
      if lenOk v1.2.toInt.toNat 8 then
      loopS (slices_Repeat_int_int_L2_S) 100000 (((min x0.length ((List.replicate v1.2.toInt.toNat (0 : Int)).length - (0 : Int).toNat) : Nat) : Int), (paste (List.replicate v1.2.toInt.toNat (0 : Int)) 0 x0))
      else none
      else none
theorem slices_Repeat_int_int_J1_sound (x0 : List Int) (v1 : BitVec 64 × BitVec 64) (s : Bool) {Φ : List Int → Prop} {o} (h : slices_Repeat_int_int_J1_S x0 v1 s = some o) (hK : Φ o) : slices_Repeat_int_int_J1 x0 v1 Φ s := by
  unfold slices_Repeat_int_int_J1_S at h
  unfold slices_Repeat_int_int_J1
  exact ifS h (fun h => (by cases h)) fun h => adS h fun h => adS h fun h => LoopW.of_S (fun s q rec hs hq => slices_Repeat_int_int_L2_sound s hs hq) _ _ h hK
def slices_Repeat_int_int_S (x0 : List Int) (x1 : Int) : Option (List Int) :=
  if x1 < 0 then
    none
  else
    Option.bind (math_bits_Mul_S (BitVec.ofInt 64 (x0.length : Int)) (BitVec.ofInt 64 x1)) fun v1 =>
    if (0#64) < v1.1 then
      slices_Repeat_int_int_J1_S x0 v1 true
    else
      slices_Repeat_int_int_J1_S x0 v1 (decide ((9223372036854775807#64) < v1.2))
theorem slices_Repeat_int_int_sound (x0 : List Int) (x1 : Int) {Φ : List Int → Prop} {o} (h : slices_Repeat_int_int_S x0 x1 = some o) (hK : Φ o) : slices_Repeat_int_int_W x0 x1 Φ := by
  unfold slices_Repeat_int_int_S at h
  unfold slices_Repeat_int_int_W
  exact ifS h (fun h => (by cases h)) fun h => blS h fun _ hv h => math_bits_Mul_sound _ _ hv (ifS h (fun h => slices_Repeat_int_int_J1_sound _ _ _ h hK) fun h => slices_Repeat_int_int_J1_sound _ _ _ h hK)
def cut_relation_mark_J2_S (x1 : List Int) (v1 : Int) (v2 : List Bool) : (Bool) → Option ((Int × List Bool) ⊕ (List Bool × Bool))
  | v3 =>
    if v3 = true then
      some (.inr (([] : List Bool), false))
    else
      if inX (ix x1 v1) v2.length then
      if inI (v1 + 1) then
      some (.inl ((v1 + 1), (put v2 (ix x1 v1) true)))
      else none
      else none
theorem cut_relation_mark_J2_sound (x1 : List Int) (v1 : Int) (v2 : List Bool) (s : Bool) {Φ : List Bool × Bool → Prop} {rec1 : (Int × List Bool) → Prop} {o} (h : cut_relation_mark_J2_S x1 v1 v2 s = some o) (hK : (orK rec1 Φ) o) : cut_relation_mark_J2 x1 v1 v2 rec1 Φ s := by
  unfold cut_relation_mark_J2_S at h
  unfold cut_relation_mark_J2
  exact ifS h (fun h => have t := lfS h hK; t) fun h => adS h fun h => adS h fun h => have t := lfS h hK; t
def cut_relation_mark_L1_S (x0 : Ptr cut_relation) (x1 : List Int) : (Int × List Bool) → Option ((Int × List Bool) ⊕ (List Bool × Bool))
  | (v1, v2) =>
    if v1 < (x1.length : Int) then
      if inX v1 x1.length then
      if (ix x1 v1) < 0 then
        cut_relation_mark_J2_S x1 v1 v2 true
      else
        if x0.val.n ≤ (ix x1 v1) then
          cut_relation_mark_J2_S x1 v1 v2 true
        else
          if 0 < v1 then
            if inI (v1 - 1) then
            if inX (v1 - 1) x1.length then
            cut_relation_mark_J2_S x1 v1 v2 (decide ((ix x1 v1) ≤ (ix x1 (v1 - 1))))
            else none
            else none
          else
            cut_relation_mark_J2_S x1 v1 v2 false
      else none
    else
      some (.inr (v2, true))
theorem cut_relation_mark_L1_sound (x0 : Ptr cut_relation) (x1 : List Int) (s : Int × List Bool) {Φ : List Bool × Bool → Prop} {rec1 : (Int × List Bool) → Prop} {o} (h : cut_relation_mark_L1_S x0 x1 s = some o) (hK : (orK rec1 Φ) o) : cut_relation_mark_L1 x0 x1 Φ s rec1 := by
  obtain ⟨v1, v2⟩ := s
  unfold cut_relation_mark_L1_S at h
  unfold cut_relation_mark_L1
  exact ifS h (fun h => adS h fun h => ifS h (fun h => cut_relation_mark_J2_sound _ _ _ _ h hK) fun h => ifS h (fun h => cut_relation_mark_J2_sound _ _ _ _ h hK) fun h => ifS h (fun h => adS h fun h => adS h fun h => cut_relation_mark_J2_sound _ _ _ _ h hK) fun h => cut_relation_mark_J2_sound _ _ _ _ h hK) fun h => have t := lfS h hK; t
def cut_relation_mark_S (x0 : Ptr cut_relation) (x1 : List Int) : Option (List Bool × Bool) :=
  if 0 ≤ x0.val.n then
  if lenOk x0.val.n.toNat 1 then
  loopS (cut_relation_mark_L1_S x0 x1) 100000 (0, (List.replicate x0.val.n.toNat (false : Bool)))
  else none
  else none
theorem cut_relation_mark_sound (x0 : Ptr cut_relation) (x1 : List Int) {Φ : List Bool × Bool → Prop} {o} (h : cut_relation_mark_S x0 x1 = some o) (hK : Φ o) : cut_relation_mark_W x0 x1 Φ := by
  unfold cut_relation_mark_S at h
  unfold cut_relation_mark_W
  exact adS h fun h => adS h fun h => LoopW.of_S (fun s q rec hs hq => cut_relation_mark_L1_sound _ _ s hs hq) _ _ h hK
def cut_relation_before_S (x0 : Ptr cut_relation) (x1 : Int) (x2 : Int) : Option (Bool) :=
  if inX x1 x0.val.acked.length then
  if inX x2 x0.val.issued.length then
  some (decide ((ix x0.val.acked x1) < (ix x0.val.issued x2)))
  else none
  else none
theorem cut_relation_before_sound (x0 : Ptr cut_relation) (x1 : Int) (x2 : Int) {Φ : Bool → Prop} {o} (h : cut_relation_before_S x0 x1 x2 = some o) (hK : Φ o) : cut_relation_before_W x0 x1 x2 Φ := by
  unfold cut_relation_before_S at h
  unfold cut_relation_before_W
  exact adS h fun h => adS h fun h => have t := lfS h hK; t
def cut_relation_ready_L1_S (x0 : Ptr cut_relation) (x1 : List Bool) (x2 : Int) : (Int) → Option ((Int) ⊕ (Bool))
  | v1 =>
    if v1 < x0.val.n then
      Option.bind (cut_relation_before_S x0 v1 x2) fun v2 =>
      if v2 = true then
        if inX v1 x1.length then
        if ¬ ((ix x1 v1) = true) then
          some (.inr false)
        else
          if inI (v1 + 1) then
          some (.inl (v1 + 1))
          else none
        else none
      else
        if inI (v1 + 1) then
        some (.inl (v1 + 1))
        else none
    else
      some (.inr true)
theorem cut_relation_ready_L1_sound (x0 : Ptr cut_relation) (x1 : List Bool) (x2 : Int) (s : Int) {Φ : Bool → Prop} {rec1 : (Int) → Prop} {o} (h : cut_relation_ready_L1_S x0 x1 x2 s = some o) (hK : (orK rec1 Φ) o) : cut_relation_ready_L1 x0 x1 x2 Φ s rec1 := by
  unfold cut_relation_ready_L1_S at h
  unfold cut_relation_ready_L1
  exact ifS h (fun h => blS h fun _ hv h => cut_relation_before_sound _ _ _ hv (ifS h (fun h => adS h fun h => ifS h (fun h => have t := lfS h hK; t) fun h => adS h fun h => have t := lfS h hK; t) fun h => adS h fun h => have t := lfS h hK; t)) fun h => have t := lfS h hK; t
def cut_relation_ready_S (x0 : Ptr cut_relation) (x1 : List Bool) (x2 : Int) : Option (Bool) :=
  loopS (cut_relation_ready_L1_S x0 x1 x2) 100000 0
theorem cut_relation_ready_sound (x0 : Ptr cut_relation) (x1 : List Bool) (x2 : Int) {Φ : Bool → Prop} {o} (h : cut_relation_ready_S x0 x1 x2 = some o) (hK : Φ o) : cut_relation_ready_W x0 x1 x2 Φ := by
  unfold cut_relation_ready_S at h
  unfold cut_relation_ready_W
  exact LoopW.of_S (fun s q rec hs hq => cut_relation_ready_L1_sound _ _ _ s hs hq) _ _ h hK
def slices_Clone_int_int_S (x0 : List Int) : Option (List Int) :=
  bothS (decide (x0 = [])) (
    some (([] : List Int))) (
    if lenOk (([] : List Int) ++ x0).length 8 then
    some ((([] : List Int) ++ x0))
    else none)
theorem slices_Clone_int_int_sound (x0 : List Int) {Φ : List Int → Prop} {o} (h : slices_Clone_int_int_S x0 = some o) (hK : Φ o) : slices_Clone_int_int_W x0 Φ := by
  unfold slices_Clone_int_int_S at h
  unfold slices_Clone_int_int_W
  exact nl2S h (fun h => have t := lfS h hK; t) fun h => adS h fun h => have t := lfS h hK; t
def slices_Sort_int_int_S (xs : List (Int)) : Option (List (Int)) := if xs.length ≤ 1099511627776 then some (sortI xs) else none
theorem slices_Sort_int_int_sound (xs : List (Int)) {Φ : List (Int) → Prop} {o} (h : slices_Sort_int_int_S xs = some o) (hK : Φ o) : slices_Sort_int_int_W xs Φ := by
  unfold slices_Sort_int_int_S at h
  unfold slices_Sort_int_int_W
  exact adS h fun h => lfS h hK
def cut_text_S (x0 : List Int) : Option ByteArray := if smallB x0 = true then some (textS x0) else none
theorem cut_text_sound (x0 : List Int) {Φ : ByteArray → Prop} {o} (h : cut_text_S x0 = some o) (hK : Φ o) : cut_text_W x0 Φ := by
  unfold cut_text_S at h
  unfold cut_text_W
  exact adS h fun h => lfS h hK
def slices_SortFunc_int_int_S (xs : List (List Int)) : Option (List (List Int)) := if xs.length ≤ 1099511627776 then some (sortL xs) else none
theorem slices_SortFunc_int_int_sound (xs : List (List Int)) {Φ : List (List Int) → Prop} {o} (h : slices_SortFunc_int_int_S xs = some o) (hK : Φ o) : slices_SortFunc_int_int_W xs Φ := by
  unfold slices_SortFunc_int_int_S at h
  unfold slices_SortFunc_int_int_W
  exact adS h fun h => lfS h hK
def cut_relation_next_J4_S (x2 : Int) (v5 : Int) : ((List (ByteArray × Bool)) × List (List Int)) → Option ((Int × (List (ByteArray × Bool)) × List (List Int)) ⊕ ((Int × (List (ByteArray × Bool)) × List (List Int)) ⊕ (List (List Int) × Bool)))
  | (v11, v12) =>
    if x2 < (v12.length : Int) then
      some (.inr (.inr (([] : List (List Int)), false)))
    else
      if inI (v5 + 1) then
      some (.inl ((v5 + 1), v11, v12))
      else none
theorem cut_relation_next_J4_sound (x2 : Int) (v5 : Int) (s : (List (ByteArray × Bool)) × List (List Int)) {Φ : List (List Int) × Bool → Prop} {rec1 : (Int × (List (ByteArray × Bool)) × List (List Int)) → Prop} {rec2 : (Int × (List (ByteArray × Bool)) × List (List Int)) → Prop} {o} (h : cut_relation_next_J4_S x2 v5 s = some o) (hK : (orK rec2 (orK rec1 Φ)) o) : cut_relation_next_J4 x2 v5 rec2 Φ s := by
  obtain ⟨v11, v12⟩ := s
  unfold cut_relation_next_J4_S at h
  unfold cut_relation_next_J4
  exact ifS h (fun h => have t := lfS h hK; t) fun h => adS h fun h => have t := lfS h hK; t
def cut_relation_next_J3_S (x1 : List (List Int)) (x2 : Int) (v1 : Int) (v5 : Int) (v6 : List (ByteArray × Bool)) (v7 : List (List Int)) : (Bool) → Option ((Int × (List (ByteArray × Bool)) × List (List Int)) ⊕ ((Int × (List (ByteArray × Bool)) × List (List Int)) ⊕ (List (List Int) × Bool)))
  | v8 =>
    if v8 = true then
      if inI (v5 + 1) then
      some (.inl ((v5 + 1), v6, v7))
      else none
    else
      Option.bind (slices_Clone_int_int_S (ix x1 v1)) fun v9 =>
      if lenOk (v9 ++ ([v5] : List Int)).length 8 then
      Option.bind (slices_Sort_int_int_S (v9 ++ ([v5] : List Int))) fun v10 =>
      Option.bind (cut_text_S v10) fun v13 =>
      if ¬ ((mget v6 v13 false) = true) then
        if lenOk (v7 ++ ([v10] : List (List Int))).length 24 then
        cut_relation_next_J4_S x2 v5 ((mput v6 v13 true), (v7 ++ ([v10] : List (List Int))))
        else none
      else
        cut_relation_next_J4_S x2 v5 (v6, v7)
      else none
theorem cut_relation_next_J3_sound (x1 : List (List Int)) (x2 : Int) (v1 : Int) (v5 : Int) (v6 : List (ByteArray × Bool)) (v7 : List (List Int)) (s : Bool) {Φ : List (List Int) × Bool → Prop} {rec1 : (Int × (List (ByteArray × Bool)) × List (List Int)) → Prop} {rec2 : (Int × (List (ByteArray × Bool)) × List (List Int)) → Prop} {o} (h : cut_relation_next_J3_S x1 x2 v1 v5 v6 v7 s = some o) (hK : (orK rec2 (orK rec1 Φ)) o) : cut_relation_next_J3 x1 x2 v1 v5 v6 v7 rec2 Φ s := by
  unfold cut_relation_next_J3_S at h
  unfold cut_relation_next_J3
  exact ifS h (fun h => adS h fun h => have t := lfS h hK; t) fun h => blS h fun _ hv h => slices_Clone_int_int_sound _ hv (adS h fun h => blS h fun _ hv h => slices_Sort_int_int_sound _ hv (joinI (blS h fun _ hv h => cut_text_sound _ hv (ifS h (fun h => adS h fun h => cut_relation_next_J4_sound _ _ _ h hK) fun h => cut_relation_next_J4_sound _ _ _ h hK))))
def cut_relation_next_L2_S (x0 : Ptr cut_relation) (x1 : List (List Int)) (x2 : Int) (v1 : Int) (v4 : List Bool × Bool) : (Int × (List (ByteArray × Bool)) × List (List Int)) → Option ((Int × (List (ByteArray × Bool)) × List (List Int)) ⊕ ((Int × (List (ByteArray × Bool)) × List (List Int)) ⊕ (List (List Int) × Bool)))
  | (v5, v6, v7) =>
    if v5 < x0.val.n then
      if inX v5 v4.1.length then
      if (ix v4.1 v5) = true then
        cut_relation_next_J3_S x1 x2 v1 v5 v6 v7 true
      else
        Option.bind (cut_relation_ready_S x0 v4.1 v5) fun v14 =>
        cut_relation_next_J3_S x1 x2 v1 v5 v6 v7 (decide (¬ (v14 = true)))
      else none
    else
      if inI (v1 + 1) then
      some (.inr (.inl ((v1 + 1), v6, v7)))
      else none
theorem cut_relation_next_L2_sound (x0 : Ptr cut_relation) (x1 : List (List Int)) (x2 : Int) (v1 : Int) (v4 : List Bool × Bool) (s : Int × (List (ByteArray × Bool)) × List (List Int)) {Φ : List (List Int) × Bool → Prop} {rec1 : (Int × (List (ByteArray × Bool)) × List (List Int)) → Prop} {rec2 : (Int × (List (ByteArray × Bool)) × List (List Int)) → Prop} {o} (h : cut_relation_next_L2_S x0 x1 x2 v1 v4 s = some o) (hK : (orK rec2 (orK rec1 Φ)) o) : cut_relation_next_L2 x0 x1 x2 v1 rec1 v4 Φ s rec2 := by
  obtain ⟨v5, v6, v7⟩ := s
  unfold cut_relation_next_L2_S at h
  unfold cut_relation_next_L2
  exact ifS h (fun h => adS h fun h => ifS h (fun h => cut_relation_next_J3_sound _ _ _ _ _ _ _ h hK) fun h => blS h fun _ hv h => cut_relation_ready_sound _ _ _ hv (cut_relation_next_J3_sound _ _ _ _ _ _ _ h hK)) fun h => adS h fun h => have t := lfS h hK; t
def cut_relation_next_L1_S (x0 : Ptr cut_relation) (x1 : List (List Int)) (x2 : Int) : (Int × (List (ByteArray × Bool)) × List (List Int)) → Option ((Int × (List (ByteArray × Bool)) × List (List Int)) ⊕ (List (List Int) × Bool))
  | (v1, v2, v3) =>
    if v1 < (x1.length : Int) then
      if inX v1 x1.length then
      Option.bind (cut_relation_mark_S x0 (ix x1 v1)) fun v4 =>
      loopS (cut_relation_next_L2_S x0 x1 x2 v1 v4) 100000 (0, v2, v3)
      else none
    else
      Option.bind (slices_SortFunc_int_int_S v3) fun v15 =>
      some (.inr (v15, true))
theorem cut_relation_next_L1_sound (x0 : Ptr cut_relation) (x1 : List (List Int)) (x2 : Int) (s : Int × (List (ByteArray × Bool)) × List (List Int)) {Φ : List (List Int) × Bool → Prop} {rec1 : (Int × (List (ByteArray × Bool)) × List (List Int)) → Prop} {o} (h : cut_relation_next_L1_S x0 x1 x2 s = some o) (hK : (orK rec1 Φ) o) : cut_relation_next_L1 x0 x1 x2 Φ s rec1 := by
  obtain ⟨v1, v2, v3⟩ := s
  unfold cut_relation_next_L1_S at h
  unfold cut_relation_next_L1
  exact ifS h (fun h => adS h fun h => blS h fun _ hv h => cut_relation_mark_sound _ _ hv (LoopW.of_S (fun s q rec hs hq => cut_relation_next_L2_sound _ _ _ _ _ s hs hq) _ _ h hK)) fun h => blS h fun _ hv h => slices_SortFunc_int_int_sound _ hv (have t := lfS h hK; t)
def cut_relation_next_S (x0 : Ptr cut_relation) (x1 : List (List Int)) (x2 : Int) : Option (List (List Int) × Bool) :=
  loopS (cut_relation_next_L1_S x0 x1 x2) 100000 (0, ([] : List (ByteArray × Bool)), ([] : List (List Int)))
theorem cut_relation_next_sound (x0 : Ptr cut_relation) (x1 : List (List Int)) (x2 : Int) {Φ : List (List Int) × Bool → Prop} {o} (h : cut_relation_next_S x0 x1 x2 = some o) (hK : Φ o) : cut_relation_next_W x0 x1 x2 Φ := by
  unfold cut_relation_next_S at h
  unfold cut_relation_next_W
  exact LoopW.of_S (fun s q rec hs hq => cut_relation_next_L1_sound _ _ _ s hs hq) _ _ h hK
def cut_All_L2_S (x1 : Int) : (Unit) → Option ((Unit) ⊕ (List (List Int) × Int))
  | _ =>
    if 0 < (([([] : List Int)] : List (List Int)).length : Int) then
      if inI (0 + (([([] : List Int)] : List (List Int)).length : Int)) then
      if x1 < (0 + (([([] : List Int)] : List (List Int)).length : Int)) then
        some (.inr (([] : List (List Int)), 6))
      else
        if lenOk ([([] : List Int)] : List (List Int)).length 24 then
        if inI (x1 - (([([] : List Int)] : List (List Int)).length : Int)) then
        none
        else none
        else none
      else none
    else
      some (.inr (([] : List (List Int)), 0))
theorem cut_All_L2_sound (x1 : Int) (s : Unit) {Φ : List (List Int) × Int → Prop} {rec2 : (Unit) → Prop} {o} (h : cut_All_L2_S x1 s = some o) (hK : (orK rec2 Φ) o) : cut_All_L2 x1 Φ s rec2 := by
  unfold cut_All_L2_S at h
  unfold cut_All_L2
  exact ifS h (fun h => adS h fun h => ifS h (fun h => have t := lfS h hK; t) fun h => adS h fun h => adS h fun h => (by cases h)) fun h => have t := lfS h hK; t
def cut_All_J1_S (x1 : Int) : (Bool) → Option (List (List Int) × Int)
  | v2 =>
    if v2 = true then
      some ((([] : List (List Int)), 2))
    else
      loopS (cut_All_L2_S x1) 100000 ()
theorem cut_All_J1_sound (x1 : Int) (s : Bool) {Φ : List (List Int) × Int → Prop} {o} (h : cut_All_J1_S x1 s = some o) (hK : Φ o) : cut_All_J1 x1 Φ s := by
  unfold cut_All_J1_S at h
  unfold cut_All_J1
  exact ifS h (fun h => have t := lfS h hK; t) fun h => LoopW.of_S (fun s q rec hs hq => cut_All_L2_sound _ s hs hq) _ _ h hK
def cut_All_L5_S (x0 : api_History) (x1 : Int) (v6 : List Int) (v7 : List Int) : (List (List Int) × List (List Int)) → Option ((List (List Int) × List (List Int)) ⊕ ((Int × List Int × List Int) ⊕ (List (List Int) × Int)))
  | (v9, v10) =>
    if 0 < (v10.length : Int) then
      if inI ((v9.length : Int) + (v10.length : Int)) then
      if x1 < ((v9.length : Int) + (v10.length : Int)) then
        some (.inr (.inr (([] : List (List Int)), 6)))
      else
        if lenOk (v9 ++ v10).length 24 then
        if inI (x1 - ((v9 ++ v10).length : Int)) then
        Option.bind (cut_relation_next_S (Ptr.mk (cut_relation.mk (x0.Writes.length : Int) (x0.Events.length : Int) v6 v7)) v10 (x1 - ((v9 ++ v10).length : Int))) fun v11 =>
        if ¬ (v11.2 = true) then
          some (.inr (.inr (([] : List (List Int)), 6)))
        else
          some (.inl ((v9 ++ v10), v11.1))
        else none
        else none
      else none
    else
      some (.inr (.inr (v9, 0)))
theorem cut_All_L5_sound (x0 : api_History) (x1 : Int) (v6 : List Int) (v7 : List Int) (s : List (List Int) × List (List Int)) {Φ : List (List Int) × Int → Prop} {rec3 : (Int × List Int × List Int) → Prop} {rec5 : (List (List Int) × List (List Int)) → Prop} {o} (h : cut_All_L5_S x0 x1 v6 v7 s = some o) (hK : (orK rec5 (orK rec3 Φ)) o) : cut_All_L5 x0 x1 v6 v7 Φ s rec5 := by
  obtain ⟨v9, v10⟩ := s
  unfold cut_All_L5_S at h
  unfold cut_All_L5
  exact ifS h (fun h => adS h fun h => ifS h (fun h => have t := lfS h hK; t) fun h => adS h fun h => adS h fun h => blS h fun _ hv h => cut_relation_next_sound _ _ _ hv (ifS h (fun h => have t := lfS h hK; t) fun h => have t := lfS h hK; t)) fun h => have t := lfS h hK; t
def cut_All_J4_S (x0 : api_History) (x1 : Int) (v6 : List Int) (v7 : List Int) : (Bool) → Option ((Int × List Int × List Int) ⊕ (List (List Int) × Int))
  | v8 =>
    if v8 = true then
      some (.inr (([] : List (List Int)), 2))
    else
      loopS (cut_All_L5_S x0 x1 v6 v7) 100000 (([] : List (List Int)), ([([] : List Int)] : List (List Int)))
theorem cut_All_J4_sound (x0 : api_History) (x1 : Int) (v6 : List Int) (v7 : List Int) (s : Bool) {Φ : List (List Int) × Int → Prop} {rec3 : (Int × List Int × List Int) → Prop} {o} (h : cut_All_J4_S x0 x1 v6 v7 s = some o) (hK : (orK rec3 Φ) o) : cut_All_J4 x0 x1 v6 v7 Φ s := by
  unfold cut_All_J4_S at h
  unfold cut_All_J4
  exact ifS h (fun h => have t := lfS h hK; t) fun h => LoopW.of_S (fun s q rec hs hq => cut_All_L5_sound _ _ _ _ s hs hq) _ _ h hK
def cut_All_L3_S (x0 : api_History) (x1 : Int) : (Int × List Int × List Int) → Option ((Int × List Int × List Int) ⊕ (List (List Int) × Int))
  | (v5, v6, v7) =>
    if v5 < (x0.Events.length : Int) then
      if inX v5 x0.Events.length then
      if ((ix x0.Events v5).Kind) = 0 then
        if inX ((ix x0.Events v5).Write) v6.length then
        if inI (v5 + 1) then
        some (.inl ((v5 + 1), (put v6 ((ix x0.Events v5).Write) v5), v7))
        else none
        else none
      else
        if inX ((ix x0.Events v5).Write) v7.length then
        if inI (v5 + 1) then
        some (.inl ((v5 + 1), v6, (put v7 ((ix x0.Events v5).Write) v5)))
        else none
        else none
      else none
    else
      if (0 : Int) ≠ 0 then
        some (.inr (([] : List (List Int)), 0))
      else
        if x1 < 0 then
          cut_All_J4_S x0 x1 v6 v7 true
        else
          cut_All_J4_S x0 x1 v6 v7 (decide (4096 < x1))
theorem cut_All_L3_sound (x0 : api_History) (x1 : Int) (s : Int × List Int × List Int) {Φ : List (List Int) × Int → Prop} {rec3 : (Int × List Int × List Int) → Prop} {o} (h : cut_All_L3_S x0 x1 s = some o) (hK : (orK rec3 Φ) o) : cut_All_L3 x0 x1 Φ s rec3 := by
  obtain ⟨v5, v6, v7⟩ := s
  unfold cut_All_L3_S at h
  unfold cut_All_L3
  exact ifS h (fun h => adS h fun h => ifS h (fun h => adS h fun h => adS h fun h => have t := lfS h hK; t) fun h => adS h fun h => adS h fun h => have t := lfS h hK; t) fun h => ifS h (fun h => have t := lfS h hK; t) fun h => ifS h (fun h => cut_All_J4_sound _ _ _ _ _ h hK) fun h => cut_All_J4_sound _ _ _ _ _ h hK
def cut_All_S (x0 : api_History) (x1 : Int) : Option (List (List Int) × Int) :=
  Option.bind (history_Check_S x0) fun v1 =>
  if v1 ≠ 0 then
    if v1 ≠ 0 then
      some ((([] : List (List Int)), v1))
    else
      if x1 < 0 then
        cut_All_J1_S x1 true
      else
        cut_All_J1_S x1 (decide (4096 < x1))
  else
    Option.bind (slices_Repeat_int_int_S ([(x0.Events.length : Int)] : List Int) (x0.Writes.length : Int)) fun z =>
    let v3 : List Int × Unit := (z, ())
    Option.bind (slices_Repeat_int_int_S ([(x0.Events.length : Int)] : List Int) (x0.Writes.length : Int)) fun z =>
    let v4 : List Int × Unit := (z, ())
    loopS (cut_All_L3_S x0 x1) 100000 (0, v3.1, v4.1)
theorem cut_All_sound (x0 : api_History) (x1 : Int) {Φ : List (List Int) × Int → Prop} {o} (h : cut_All_S x0 x1 = some o) (hK : Φ o) : cut_All_W x0 x1 Φ := by
  unfold cut_All_S at h
  unfold cut_All_W
  exact blS h fun _ hv h => history_Check_sound _ hv (ifS h (fun h => ifS h (fun h => have t := lfS h hK; t) fun h => ifS h (fun h => cut_All_J1_sound _ _ h hK) fun h => cut_All_J1_sound _ _ h hK) fun h => blS h fun _ hv h => ⟨_, slices_Repeat_int_int_sound _ _ hv rfl, blS h fun _ hv h => ⟨_, slices_Repeat_int_int_sound _ _ hv rfl, LoopW.of_S (fun s q rec hs hq => cut_All_L3_sound _ _ s hs hq) _ _ h hK⟩⟩)
def slices_Clone_cut_marks_bool_S (x0 : List Bool) : Option (List Bool) :=
  bothS (decide (x0 = [])) (
    some (([] : List Bool))) (
    if lenOk (([] : List Bool) ++ x0).length 1 then
    some ((([] : List Bool) ++ x0))
    else none)
theorem slices_Clone_cut_marks_bool_sound (x0 : List Bool) {Φ : List Bool → Prop} {o} (h : slices_Clone_cut_marks_bool_S x0 = some o) (hK : Φ o) : slices_Clone_cut_marks_bool_W x0 Φ := by
  unfold slices_Clone_cut_marks_bool_S at h
  unfold slices_Clone_cut_marks_bool_W
  exact nl2S h (fun h => have t := lfS h hK; t) fun h => adS h fun h => have t := lfS h hK; t
def cut_marks_members_1_L1_S (x0 : List Bool) : (Int) → Option (List (Int × Unit) × ((Int) ⊕ (Unit)))
  | v1 =>
    if v1 < (x0.length : Int) then
      if inX v1 x0.length then
      if (ix x0 v1) = true then
        Option.map (fun q => ((v1, ()) :: q.1, q.2)) (
          if inI (v1 + 1) then
          some ([], .inl (v1 + 1))
          else none)
      else
        if inI (v1 + 1) then
        some ([], .inl (v1 + 1))
        else none
      else none
    else
      some ([], .inr ())
theorem cut_marks_members_1_L1_sound (x0 : List Bool) (s : Int) {ys : List (Int × Unit)} {q} {r : List (Int × Unit)} {rec1 : (List (Int × Unit) × Int) → Prop} (h : cut_marks_members_1_L1_S x0 s = some (ys, q)) (hr : (orK (fun s => rec1 (r, s)) (fun _ => r = [])) q) : cut_marks_members_1_L1 x0 (ys ++ r, s) rec1 := by
  unfold cut_marks_members_1_L1_S at h
  unfold cut_marks_members_1_L1
  exact ifS h (fun h => adS h fun h => ifS h (fun h => mpS h fun q_ h_ he => (by obtain ⟨_, _⟩ := q_; cases he; exact ⟨rfl, (have h := h_; adS h fun h => (by cases h; exact hr)), trivial⟩)) fun h => adS h fun h => (by cases h; exact hr)) fun h => (by cases h; exact hr)
def cut_marks_members_1_S0 (x0 : List Bool) : Option (List (Int × Unit) × Unit) :=
  genS (cut_marks_members_1_L1_S x0) 100000 0
def cut_marks_members_1_S (x0 : List Bool) : Option (List (Int × Unit)) := Option.map Prod.fst (cut_marks_members_1_S0 x0)
theorem cut_marks_members_1_sound (x0 : List Bool) {l : List (Int × Unit)} (h : cut_marks_members_1_S x0 = some l) : cut_marks_members_1_I x0 l := by
  obtain ⟨⟨ys, q⟩, h0, h1⟩ := Option.map_eq_some_iff.1 h
  clear h
  have h := h0
  subst h1
  unfold cut_marks_members_1_S0 at h
  unfold cut_marks_members_1_I
  have hr : (fun _ => ([] : List (Int × Unit)) = []) q := rfl
  rw [← List.append_nil ys]
  exact LoopW.of_G (K := fun r => (fun _ => r = [])) (fun s ys q r rec hs hr => cut_marks_members_1_L1_sound _ s hs hr) _ _ _ h hr
def cut_marks_list_L1_S : (List (Int × Unit) × List Int) → Option ((List (Int × Unit) × List Int) ⊕ (List Int))
  | (lst, v1) =>
    match lst with
    | [] =>
      some (.inr v1)
    | v2 :: r3 =>
      if lenOk (v1 ++ ([v2.1] : List Int)).length 8 then
      some (.inl (r3, (v1 ++ ([v2.1] : List Int))))
      else none
theorem cut_marks_list_L1_sound (s : List (Int × Unit) × List Int) {Φ : List Int → Prop} {rec1 : (List (Int × Unit) × List Int) → Prop} {o} (h : cut_marks_list_L1_S s = some o) (hK : (orK rec1 Φ) o) : cut_marks_list_L1 Φ s rec1 := by
  obtain ⟨lst, v1⟩ := s
  unfold cut_marks_list_L1_S at h
  unfold cut_marks_list_L1
  cases lst with
  | nil => exact have t := lfS h hK; t
  | cons _ _ => exact adS h fun h => have t := lfS h hK; t
def cut_marks_list_S (x0 : List Bool) : Option (List Int) :=
  Option.bind (cut_marks_members_1_S x0) fun l4 =>
  loopS (cut_marks_list_L1_S) 100000 (l4, ([] : List Int))
theorem cut_marks_list_sound (x0 : List Bool) {Φ : List Int → Prop} {o} (h : cut_marks_list_S x0 = some o) (hK : Φ o) : cut_marks_list_W x0 Φ := by
  unfold cut_marks_list_S at h
  unfold cut_marks_list_W
  exact blS h fun _ hv h => ⟨_, cut_marks_members_1_sound _ hv, LoopW.of_S (fun s q rec hs hq => cut_marks_list_L1_sound s hs hq) _ _ h hK⟩
def cut_Least_L1_S (x1 : List Int) : (Unit) → Option ((Unit) ⊕ (List Int × Int))
  | _ =>
    if 0 < (([x1] : List (List Int)).length : Int) then
      if inX 0 ([x1] : List (List Int)).length then
      none
      else none
    else
      if (0 : Int) ≠ 0 then
        some (.inr (([] : List Int), 0))
      else
        none
theorem cut_Least_L1_sound (x1 : List Int) (s : Unit) {Φ : List Int × Int → Prop} {rec1 : (Unit) → Prop} {o} (h : cut_Least_L1_S x1 s = some o) (hK : (orK rec1 Φ) o) : cut_Least_L1 x1 Φ s rec1 := by
  unfold cut_Least_L1_S at h
  unfold cut_Least_L1
  exact ifS h (fun h => adS h fun h => (by cases h)) fun h => ifS h (fun h => have t := lfS h hK; t) fun h => (by cases h)
def cut_Least_L5_S (x0 : api_History) (v5 : List Int) (v6 : List Int) (v12 : Int × Unit) (r13 : List (Int × Unit)) : (Int × List Bool) → Option ((Int × List Bool) ⊕ ((List (Int × Unit) × List Bool) ⊕ ((Int × List (List Bool)) ⊕ ((Int × List Int × List Int) ⊕ (List Int × Int)))))
  | (v14, v15) =>
    if v14 < (x0.Writes.length : Int) then
      if inX v14 v15.length then
      if (ix v15 v14) = true then
        if inX v14 v15.length then
        if inI (v14 + 1) then
        some (.inl ((v14 + 1), (put v15 v14 true)))
        else none
        else none
      else
        Option.bind (cut_relation_before_S (Ptr.mk (cut_relation.mk (x0.Writes.length : Int) (x0.Events.length : Int) v5 v6)) v14 v12.1) fun z =>
        let v16 : Bool × Unit := (z, ())
        if inX v14 v15.length then
        if inI (v14 + 1) then
        some (.inl ((v14 + 1), (put v15 v14 v16.1)))
        else none
        else none
      else none
    else
      some (.inr (.inl (r13, v15)))
theorem cut_Least_L5_sound (x0 : api_History) (v5 : List Int) (v6 : List Int) (v12 : Int × Unit) (r13 : List (Int × Unit)) (s : Int × List Bool) {Φ : List Int × Int → Prop} {rec2 : (Int × List Int × List Int) → Prop} {rec3 : (Int × List (List Bool)) → Prop} {rec4 : (List (Int × Unit) × List Bool) → Prop} {rec5 : (Int × List Bool) → Prop} {o} (h : cut_Least_L5_S x0 v5 v6 v12 r13 s = some o) (hK : (orK rec5 (orK rec4 (orK rec3 (orK rec2 Φ)))) o) : cut_Least_L5 x0 v5 v6 rec4 v12 r13 Φ s rec5 := by
  obtain ⟨v14, v15⟩ := s
  unfold cut_Least_L5_S at h
  unfold cut_Least_L5
  exact ifS h (fun h => adS h fun h => ifS h (fun h => adS h fun h => adS h fun h => have t := lfS h hK; t) fun h => blS h fun _ hv h => ⟨_, cut_relation_before_sound _ _ _ hv rfl, adS h fun h => adS h fun h => have t := lfS h hK; t⟩) fun h => have t := lfS h hK; t
def cut_Least_L4_S (x0 : api_History) (v5 : List Int) (v6 : List Int) : (List (Int × Unit) × List Bool) → Option ((List (Int × Unit) × List Bool) ⊕ ((Int × List (List Bool)) ⊕ ((Int × List Int × List Int) ⊕ (List Int × Int))))
  | (lst, v11) =>
    match lst with
    | [] =>
      Option.bind (cut_marks_list_S v11) fun v17 =>
      some (.inr (.inr (.inr (v17, 0))))
    | v12 :: r13 =>
      loopS (cut_Least_L5_S x0 v5 v6 v12 r13) 100000 (0, v11)
theorem cut_Least_L4_sound (x0 : api_History) (v5 : List Int) (v6 : List Int) (s : List (Int × Unit) × List Bool) {Φ : List Int × Int → Prop} {rec2 : (Int × List Int × List Int) → Prop} {rec3 : (Int × List (List Bool)) → Prop} {rec4 : (List (Int × Unit) × List Bool) → Prop} {o} (h : cut_Least_L4_S x0 v5 v6 s = some o) (hK : (orK rec4 (orK rec3 (orK rec2 Φ))) o) : cut_Least_L4 x0 v5 v6 Φ s rec4 := by
  obtain ⟨lst, v11⟩ := s
  unfold cut_Least_L4_S at h
  unfold cut_Least_L4
  cases lst with
  | nil => exact blS h fun _ hv h => cut_marks_list_sound _ hv (have t := lfS h hK; t)
  | cons _ _ => exact LoopW.of_S (fun s q rec hs hq => cut_Least_L5_sound _ _ _ _ _ s hs hq) _ _ h hK
def cut_Least_L3_S (x0 : api_History) (x1 : List Int) (v5 : List Int) (v6 : List Int) : (Int × List (List Bool)) → Option ((Int × List (List Bool)) ⊕ ((Int × List Int × List Int) ⊕ (List Int × Int)))
  | (v7, v8) =>
    if v7 < (([x1] : List (List Int)).length : Int) then
      if inX v7 ([x1] : List (List Int)).length then
      Option.bind (cut_relation_mark_S (Ptr.mk (cut_relation.mk (x0.Writes.length : Int) (x0.Events.length : Int) v5 v6)) (ix ([x1] : List (List Int)) v7)) fun v9 =>
      if ¬ (v9.2 = true) then
        if (2 : Int) ≠ 0 then
          some (.inr (.inr (([] : List Int), 2)))
        else
          none
      else
        if lenOk (v8 ++ ([v9.1] : List (List Bool))).length 24 then
        if inI (v7 + 1) then
        some (.inl ((v7 + 1), (v8 ++ ([v9.1] : List (List Bool)))))
        else none
        else none
      else none
    else
      if (0 : Int) ≠ 0 then
        some (.inr (.inr (([] : List Int), 0)))
      else
        if inX 0 v8.length then
        Option.bind (slices_Clone_cut_marks_bool_S (ix v8 0)) fun v10 =>
        if inX 0 v8.length then
        Option.bind (cut_marks_members_1_S (ix v8 0)) fun l18 =>
        loopS (cut_Least_L4_S x0 v5 v6) 100000 (l18, v10)
        else none
        else none
theorem cut_Least_L3_sound (x0 : api_History) (x1 : List Int) (v5 : List Int) (v6 : List Int) (s : Int × List (List Bool)) {Φ : List Int × Int → Prop} {rec2 : (Int × List Int × List Int) → Prop} {rec3 : (Int × List (List Bool)) → Prop} {o} (h : cut_Least_L3_S x0 x1 v5 v6 s = some o) (hK : (orK rec3 (orK rec2 Φ)) o) : cut_Least_L3 x0 x1 v5 v6 Φ s rec3 := by
  obtain ⟨v7, v8⟩ := s
  unfold cut_Least_L3_S at h
  unfold cut_Least_L3
  exact ifS h (fun h => adS h fun h => blS h fun _ hv h => cut_relation_mark_sound _ _ hv (ifS h (fun h => ifS h (fun h => have t := lfS h hK; t) fun h => (by cases h)) fun h => adS h fun h => adS h fun h => have t := lfS h hK; t)) fun h => ifS h (fun h => have t := lfS h hK; t) fun h => adS h fun h => blS h fun _ hv h => slices_Clone_cut_marks_bool_sound _ hv (adS h fun h => blS h fun _ hv h => ⟨_, cut_marks_members_1_sound _ hv, LoopW.of_S (fun s q rec hs hq => cut_Least_L4_sound _ _ _ s hs hq) _ _ h hK⟩)
def cut_Least_L2_S (x0 : api_History) (x1 : List Int) : (Int × List Int × List Int) → Option ((Int × List Int × List Int) ⊕ (List Int × Int))
  | (v4, v5, v6) =>
    if v4 < (x0.Events.length : Int) then
      if inX v4 x0.Events.length then
      if ((ix x0.Events v4).Kind) = 0 then
        if inX ((ix x0.Events v4).Write) v5.length then
        if inI (v4 + 1) then
        some (.inl ((v4 + 1), (put v5 ((ix x0.Events v4).Write) v4), v6))
        else none
        else none
      else
        if inX ((ix x0.Events v4).Write) v6.length then
        if inI (v4 + 1) then
        some (.inl ((v4 + 1), v5, (put v6 ((ix x0.Events v4).Write) v4)))
        else none
        else none
      else none
    else
      if (0 : Int) ≠ 0 then
        if (0 : Int) ≠ 0 then
          some (.inr (([] : List Int), 0))
        else
          none
      else
        loopS (cut_Least_L3_S x0 x1 v5 v6) 100000 (0, ([] : List (List Bool)))
theorem cut_Least_L2_sound (x0 : api_History) (x1 : List Int) (s : Int × List Int × List Int) {Φ : List Int × Int → Prop} {rec2 : (Int × List Int × List Int) → Prop} {o} (h : cut_Least_L2_S x0 x1 s = some o) (hK : (orK rec2 Φ) o) : cut_Least_L2 x0 x1 Φ s rec2 := by
  obtain ⟨v4, v5, v6⟩ := s
  unfold cut_Least_L2_S at h
  unfold cut_Least_L2
  exact ifS h (fun h => adS h fun h => ifS h (fun h => adS h fun h => adS h fun h => have t := lfS h hK; t) fun h => adS h fun h => adS h fun h => have t := lfS h hK; t) fun h => ifS h (fun h => ifS h (fun h => have t := lfS h hK; t) fun h => (by cases h)) fun h => LoopW.of_S (fun s q rec hs hq => cut_Least_L3_sound _ _ _ _ s hs hq) _ _ h hK
def cut_Least_S (x0 : api_History) (x1 : List Int) : Option (List Int × Int) :=
  Option.bind (history_Check_S x0) fun v1 =>
  if v1 ≠ 0 then
    if v1 ≠ 0 then
      if v1 ≠ 0 then
        some ((([] : List Int), v1))
      else
        none
    else
      loopS (cut_Least_L1_S x1) 100000 ()
  else
    Option.bind (slices_Repeat_int_int_S ([(x0.Events.length : Int)] : List Int) (x0.Writes.length : Int)) fun z =>
    let v2 : List Int × Unit := (z, ())
    Option.bind (slices_Repeat_int_int_S ([(x0.Events.length : Int)] : List Int) (x0.Writes.length : Int)) fun z =>
    let v3 : List Int × Unit := (z, ())
    loopS (cut_Least_L2_S x0 x1) 100000 (0, v2.1, v3.1)
theorem cut_Least_sound (x0 : api_History) (x1 : List Int) {Φ : List Int × Int → Prop} {o} (h : cut_Least_S x0 x1 = some o) (hK : Φ o) : cut_Least_W x0 x1 Φ := by
  unfold cut_Least_S at h
  unfold cut_Least_W
  exact blS h fun _ hv h => history_Check_sound _ hv (ifS h (fun h => ifS h (fun h => ifS h (fun h => have t := lfS h hK; t) fun h => (by cases h)) fun h => LoopW.of_S (fun s q rec hs hq => cut_Least_L1_sound _ s hs hq) _ _ h hK) fun h => blS h fun _ hv h => ⟨_, slices_Repeat_int_int_sound _ _ hv rfl, blS h fun _ hv h => ⟨_, slices_Repeat_int_int_sound _ _ hv rfl, LoopW.of_S (fun s q rec hs hq => cut_Least_L2_sound _ _ s hs hq) _ _ h hK⟩⟩)
def cut_Greatest_L1_S (x1 : List Int) : (Unit) → Option ((Unit) ⊕ (List Int × Int))
  | _ =>
    if 0 < (([x1] : List (List Int)).length : Int) then
      if inX 0 ([x1] : List (List Int)).length then
      none
      else none
    else
      if (0 : Int) ≠ 0 then
        some (.inr (([] : List Int), 0))
      else
        none
theorem cut_Greatest_L1_sound (x1 : List Int) (s : Unit) {Φ : List Int × Int → Prop} {rec1 : (Unit) → Prop} {o} (h : cut_Greatest_L1_S x1 s = some o) (hK : (orK rec1 Φ) o) : cut_Greatest_L1 x1 Φ s rec1 := by
  unfold cut_Greatest_L1_S at h
  unfold cut_Greatest_L1
  exact ifS h (fun h => adS h fun h => (by cases h)) fun h => ifS h (fun h => have t := lfS h hK; t) fun h => (by cases h)
def cut_Greatest_L5_S (x0 : api_History) (v5 : List Int) (v6 : List Int) (v8 : List (List Bool)) (v12 : Int × Unit) (r13 : List (Int × Unit)) : (Int × List Bool) → Option ((Int × List Bool) ⊕ ((List (Int × Unit) × List Bool) ⊕ ((Int × List (List Bool)) ⊕ ((Int × List Int × List Int) ⊕ (List Int × Int)))))
  | (v14, v15) =>
    if v14 < (x0.Writes.length : Int) then
      if inX v12.1 v15.length then
      if (ix v15 v12.1) = true then
        if inX 0 v8.length then
        if inX v14 (ix v8 0).length then
        if (ix (ix v8 0) v14) = true then
          if inX v12.1 v15.length then
          if inI (v14 + 1) then
          some (.inl ((v14 + 1), (put v15 v12.1 true)))
          else none
          else none
        else
          Option.bind (cut_relation_before_S (Ptr.mk (cut_relation.mk (x0.Writes.length : Int) (x0.Events.length : Int) v5 v6)) v14 v12.1) fun z =>
          let v16 : Bool × Unit := (z, ())
          if inX v12.1 v15.length then
          if inI (v14 + 1) then
          some (.inl ((v14 + 1), (put v15 v12.1 (decide (¬ (v16.1 = true))))))
          else none
          else none
        else none
        else none
      else
        if inX v12.1 v15.length then
        if inI (v14 + 1) then
        some (.inl ((v14 + 1), (put v15 v12.1 false)))
        else none
        else none
      else none
    else
      some (.inr (.inl (r13, v15)))
theorem cut_Greatest_L5_sound (x0 : api_History) (v5 : List Int) (v6 : List Int) (v8 : List (List Bool)) (v12 : Int × Unit) (r13 : List (Int × Unit)) (s : Int × List Bool) {Φ : List Int × Int → Prop} {rec2 : (Int × List Int × List Int) → Prop} {rec3 : (Int × List (List Bool)) → Prop} {rec4 : (List (Int × Unit) × List Bool) → Prop} {rec5 : (Int × List Bool) → Prop} {o} (h : cut_Greatest_L5_S x0 v5 v6 v8 v12 r13 s = some o) (hK : (orK rec5 (orK rec4 (orK rec3 (orK rec2 Φ)))) o) : cut_Greatest_L5 x0 v5 v6 v8 rec4 v12 r13 Φ s rec5 := by
  obtain ⟨v14, v15⟩ := s
  unfold cut_Greatest_L5_S at h
  unfold cut_Greatest_L5
  exact ifS h (fun h => adS h fun h => ifS h (fun h => adS h fun h => adS h fun h => ifS h (fun h => adS h fun h => adS h fun h => have t := lfS h hK; t) fun h => blS h fun _ hv h => ⟨_, cut_relation_before_sound _ _ _ hv rfl, adS h fun h => adS h fun h => have t := lfS h hK; t⟩) fun h => adS h fun h => adS h fun h => have t := lfS h hK; t) fun h => have t := lfS h hK; t
def cut_Greatest_L4_S (x0 : api_History) (v5 : List Int) (v6 : List Int) (v8 : List (List Bool)) : (List (Int × Unit) × List Bool) → Option ((List (Int × Unit) × List Bool) ⊕ ((Int × List (List Bool)) ⊕ ((Int × List Int × List Int) ⊕ (List Int × Int))))
  | (lst, v11) =>
    match lst with
    | [] =>
      Option.bind (cut_marks_list_S v11) fun v17 =>
      some (.inr (.inr (.inr (v17, 0))))
    | v12 :: r13 =>
      loopS (cut_Greatest_L5_S x0 v5 v6 v8 v12 r13) 100000 (0, v11)
theorem cut_Greatest_L4_sound (x0 : api_History) (v5 : List Int) (v6 : List Int) (v8 : List (List Bool)) (s : List (Int × Unit) × List Bool) {Φ : List Int × Int → Prop} {rec2 : (Int × List Int × List Int) → Prop} {rec3 : (Int × List (List Bool)) → Prop} {rec4 : (List (Int × Unit) × List Bool) → Prop} {o} (h : cut_Greatest_L4_S x0 v5 v6 v8 s = some o) (hK : (orK rec4 (orK rec3 (orK rec2 Φ))) o) : cut_Greatest_L4 x0 v5 v6 v8 Φ s rec4 := by
  obtain ⟨lst, v11⟩ := s
  unfold cut_Greatest_L4_S at h
  unfold cut_Greatest_L4
  cases lst with
  | nil => exact blS h fun _ hv h => cut_marks_list_sound _ hv (have t := lfS h hK; t)
  | cons _ _ => exact LoopW.of_S (fun s q rec hs hq => cut_Greatest_L5_sound _ _ _ _ _ _ s hs hq) _ _ h hK
def cut_Greatest_L3_S (x0 : api_History) (x1 : List Int) (v5 : List Int) (v6 : List Int) : (Int × List (List Bool)) → Option ((Int × List (List Bool)) ⊕ ((Int × List Int × List Int) ⊕ (List Int × Int)))
  | (v7, v8) =>
    if v7 < (([x1] : List (List Int)).length : Int) then
      if inX v7 ([x1] : List (List Int)).length then
      Option.bind (cut_relation_mark_S (Ptr.mk (cut_relation.mk (x0.Writes.length : Int) (x0.Events.length : Int) v5 v6)) (ix ([x1] : List (List Int)) v7)) fun v9 =>
      if ¬ (v9.2 = true) then
        if (2 : Int) ≠ 0 then
          some (.inr (.inr (([] : List Int), 2)))
        else
          none
      else
        if lenOk (v8 ++ ([v9.1] : List (List Bool))).length 24 then
        if inI (v7 + 1) then
        some (.inl ((v7 + 1), (v8 ++ ([v9.1] : List (List Bool)))))
        else none
        else none
      else none
    else
      if (0 : Int) ≠ 0 then
        some (.inr (.inr (([] : List Int), 0)))
      else
        if inX 0 v8.length then
        Option.bind (slices_Clone_cut_marks_bool_S (ix v8 0)) fun v10 =>
        if inX 0 v8.length then
        Option.bind (cut_marks_members_1_S (ix v8 0)) fun l18 =>
        loopS (cut_Greatest_L4_S x0 v5 v6 v8) 100000 (l18, v10)
        else none
        else none
theorem cut_Greatest_L3_sound (x0 : api_History) (x1 : List Int) (v5 : List Int) (v6 : List Int) (s : Int × List (List Bool)) {Φ : List Int × Int → Prop} {rec2 : (Int × List Int × List Int) → Prop} {rec3 : (Int × List (List Bool)) → Prop} {o} (h : cut_Greatest_L3_S x0 x1 v5 v6 s = some o) (hK : (orK rec3 (orK rec2 Φ)) o) : cut_Greatest_L3 x0 x1 v5 v6 Φ s rec3 := by
  obtain ⟨v7, v8⟩ := s
  unfold cut_Greatest_L3_S at h
  unfold cut_Greatest_L3
  exact ifS h (fun h => adS h fun h => blS h fun _ hv h => cut_relation_mark_sound _ _ hv (ifS h (fun h => ifS h (fun h => have t := lfS h hK; t) fun h => (by cases h)) fun h => adS h fun h => adS h fun h => have t := lfS h hK; t)) fun h => ifS h (fun h => have t := lfS h hK; t) fun h => adS h fun h => blS h fun _ hv h => slices_Clone_cut_marks_bool_sound _ hv (adS h fun h => blS h fun _ hv h => ⟨_, cut_marks_members_1_sound _ hv, LoopW.of_S (fun s q rec hs hq => cut_Greatest_L4_sound _ _ _ _ s hs hq) _ _ h hK⟩)
def cut_Greatest_L2_S (x0 : api_History) (x1 : List Int) : (Int × List Int × List Int) → Option ((Int × List Int × List Int) ⊕ (List Int × Int))
  | (v4, v5, v6) =>
    if v4 < (x0.Events.length : Int) then
      if inX v4 x0.Events.length then
      if ((ix x0.Events v4).Kind) = 0 then
        if inX ((ix x0.Events v4).Write) v5.length then
        if inI (v4 + 1) then
        some (.inl ((v4 + 1), (put v5 ((ix x0.Events v4).Write) v4), v6))
        else none
        else none
      else
        if inX ((ix x0.Events v4).Write) v6.length then
        if inI (v4 + 1) then
        some (.inl ((v4 + 1), v5, (put v6 ((ix x0.Events v4).Write) v4)))
        else none
        else none
      else none
    else
      if (0 : Int) ≠ 0 then
        if (0 : Int) ≠ 0 then
          some (.inr (([] : List Int), 0))
        else
          none
      else
        loopS (cut_Greatest_L3_S x0 x1 v5 v6) 100000 (0, ([] : List (List Bool)))
theorem cut_Greatest_L2_sound (x0 : api_History) (x1 : List Int) (s : Int × List Int × List Int) {Φ : List Int × Int → Prop} {rec2 : (Int × List Int × List Int) → Prop} {o} (h : cut_Greatest_L2_S x0 x1 s = some o) (hK : (orK rec2 Φ) o) : cut_Greatest_L2 x0 x1 Φ s rec2 := by
  obtain ⟨v4, v5, v6⟩ := s
  unfold cut_Greatest_L2_S at h
  unfold cut_Greatest_L2
  exact ifS h (fun h => adS h fun h => ifS h (fun h => adS h fun h => adS h fun h => have t := lfS h hK; t) fun h => adS h fun h => adS h fun h => have t := lfS h hK; t) fun h => ifS h (fun h => ifS h (fun h => have t := lfS h hK; t) fun h => (by cases h)) fun h => LoopW.of_S (fun s q rec hs hq => cut_Greatest_L3_sound _ _ _ _ s hs hq) _ _ h hK
def cut_Greatest_S (x0 : api_History) (x1 : List Int) : Option (List Int × Int) :=
  Option.bind (history_Check_S x0) fun v1 =>
  if v1 ≠ 0 then
    if v1 ≠ 0 then
      if v1 ≠ 0 then
        some ((([] : List Int), v1))
      else
        none
    else
      loopS (cut_Greatest_L1_S x1) 100000 ()
  else
    Option.bind (slices_Repeat_int_int_S ([(x0.Events.length : Int)] : List Int) (x0.Writes.length : Int)) fun z =>
    let v2 : List Int × Unit := (z, ())
    Option.bind (slices_Repeat_int_int_S ([(x0.Events.length : Int)] : List Int) (x0.Writes.length : Int)) fun z =>
    let v3 : List Int × Unit := (z, ())
    loopS (cut_Greatest_L2_S x0 x1) 100000 (0, v2.1, v3.1)
theorem cut_Greatest_sound (x0 : api_History) (x1 : List Int) {Φ : List Int × Int → Prop} {o} (h : cut_Greatest_S x0 x1 = some o) (hK : Φ o) : cut_Greatest_W x0 x1 Φ := by
  unfold cut_Greatest_S at h
  unfold cut_Greatest_W
  exact blS h fun _ hv h => history_Check_sound _ hv (ifS h (fun h => ifS h (fun h => ifS h (fun h => have t := lfS h hK; t) fun h => (by cases h)) fun h => LoopW.of_S (fun s q rec hs hq => cut_Greatest_L1_sound _ s hs hq) _ _ h hK) fun h => blS h fun _ hv h => ⟨_, slices_Repeat_int_int_sound _ _ hv rfl, blS h fun _ hv h => ⟨_, slices_Repeat_int_int_sound _ _ hv rfl, LoopW.of_S (fun s q rec hs hq => cut_Greatest_L2_sound _ _ s hs hq) _ _ h hK⟩⟩)
def cut_relation_closed_L2_S (x0 : Ptr cut_relation) (x1 : List Bool) (v1 : Int × Unit) (r2 : List (Int × Unit)) : (Int) → Option ((Int) ⊕ ((List (Int × Unit) × Unit) ⊕ (Bool)))
  | v3 =>
    if v3 < x0.val.n then
      Option.bind (cut_relation_before_S x0 v3 v1.1) fun v4 =>
      if v4 = true then
        if inX v3 x1.length then
        if ¬ ((ix x1 v3) = true) then
          some (.inr (.inr false))
        else
          if inI (v3 + 1) then
          some (.inl (v3 + 1))
          else none
        else none
      else
        if inI (v3 + 1) then
        some (.inl (v3 + 1))
        else none
    else
      some (.inr (.inl (r2, ())))
theorem cut_relation_closed_L2_sound (x0 : Ptr cut_relation) (x1 : List Bool) (v1 : Int × Unit) (r2 : List (Int × Unit)) (s : Int) {Φ : Bool → Prop} {rec1 : (List (Int × Unit) × Unit) → Prop} {rec2 : (Int) → Prop} {o} (h : cut_relation_closed_L2_S x0 x1 v1 r2 s = some o) (hK : (orK rec2 (orK rec1 Φ)) o) : cut_relation_closed_L2 x0 x1 rec1 v1 r2 Φ s rec2 := by
  unfold cut_relation_closed_L2_S at h
  unfold cut_relation_closed_L2
  exact ifS h (fun h => blS h fun _ hv h => cut_relation_before_sound _ _ _ hv (ifS h (fun h => adS h fun h => ifS h (fun h => have t := lfS h hK; t) fun h => adS h fun h => have t := lfS h hK; t) fun h => adS h fun h => have t := lfS h hK; t)) fun h => have t := lfS h hK; t
def cut_relation_closed_L1_S (x0 : Ptr cut_relation) (x1 : List Bool) : (List (Int × Unit) × Unit) → Option ((List (Int × Unit) × Unit) ⊕ (Bool))
  | (lst, _) =>
    match lst with
    | [] =>
      some (.inr true)
    | v1 :: r2 =>
      loopS (cut_relation_closed_L2_S x0 x1 v1 r2) 100000 0
theorem cut_relation_closed_L1_sound (x0 : Ptr cut_relation) (x1 : List Bool) (s : List (Int × Unit) × Unit) {Φ : Bool → Prop} {rec1 : (List (Int × Unit) × Unit) → Prop} {o} (h : cut_relation_closed_L1_S x0 x1 s = some o) (hK : (orK rec1 Φ) o) : cut_relation_closed_L1 x0 x1 Φ s rec1 := by
  obtain ⟨lst, _⟩ := s
  unfold cut_relation_closed_L1_S at h
  unfold cut_relation_closed_L1
  cases lst with
  | nil => exact have t := lfS h hK; t
  | cons _ _ => exact LoopW.of_S (fun s q rec hs hq => cut_relation_closed_L2_sound _ _ _ _ s hs hq) _ _ h hK
def cut_relation_closed_S (x0 : Ptr cut_relation) (x1 : List Bool) : Option (Bool) :=
  Option.bind (cut_marks_members_1_S x1) fun l5 =>
  loopS (cut_relation_closed_L1_S x0 x1) 100000 (l5, ())
theorem cut_relation_closed_sound (x0 : Ptr cut_relation) (x1 : List Bool) {Φ : Bool → Prop} {o} (h : cut_relation_closed_S x0 x1 = some o) (hK : Φ o) : cut_relation_closed_W x0 x1 Φ := by
  unfold cut_relation_closed_S at h
  unfold cut_relation_closed_W
  exact blS h fun _ hv h => ⟨_, cut_marks_members_1_sound _ hv, LoopW.of_S (fun s q rec hs hq => cut_relation_closed_L1_sound _ _ s hs hq) _ _ h hK⟩
def cut_Frontier_L2_S : (Unit) → Option ((Unit) ⊕ ((Unit) ⊕ (List Int × Int)))
  | _ =>
    if (0 : Int) < 0 then
      none
    else
      if 0 ≤ ((-1) : Int) then
        if (27 : Int) ≠ 0 then
          some (.inr (.inr (([] : List Int), 27)))
        else
          none
      else
        if (0 : Int) ≠ 0 then
          some (.inr (.inr (([] : List Int), 0)))
        else
          none
theorem cut_Frontier_L2_sound (s : Unit) {Φ : List Int × Int → Prop} {rec1 : (Unit) → Prop} {rec2 : (Unit) → Prop} {o} (h : cut_Frontier_L2_S s = some o) (hK : (orK rec2 (orK rec1 Φ)) o) : cut_Frontier_L2 Φ s rec2 := by
  unfold cut_Frontier_L2_S at h
  unfold cut_Frontier_L2
  exact ifS h (fun h => (by cases h)) fun h => ifS h (fun h => ifS h (fun h => have t := lfS h hK; t) fun h => (by cases h)) fun h => ifS h (fun h => have t := lfS h hK; t) fun h => (by cases h)
def cut_Frontier_L1_S (x1 : List Int) : (Unit) → Option ((Unit) ⊕ (List Int × Int))
  | _ =>
    if 0 < (([x1] : List (List Int)).length : Int) then
      if inX 0 ([x1] : List (List Int)).length then
      none
      else none
    else
      loopS (cut_Frontier_L2_S) 100000 ()
theorem cut_Frontier_L1_sound (x1 : List Int) (s : Unit) {Φ : List Int × Int → Prop} {rec1 : (Unit) → Prop} {o} (h : cut_Frontier_L1_S x1 s = some o) (hK : (orK rec1 Φ) o) : cut_Frontier_L1 x1 Φ s rec1 := by
  unfold cut_Frontier_L1_S at h
  unfold cut_Frontier_L1
  exact ifS h (fun h => adS h fun h => (by cases h)) fun h => LoopW.of_S (fun s q rec hs hq => cut_Frontier_L2_sound s hs hq) _ _ h hK
def cut_Frontier_L7_S (x0 : api_History) (v5 : List Int) (v6 : List Int) (v13 : Int × Unit) (r14 : List (Int × Unit)) : (Int × List Bool) → Option ((Int × List Bool) ⊕ ((List (Int × Unit) × List Bool) ⊕ ((Int × List (List Bool)) ⊕ ((Int × List Int × List Int) ⊕ (List Int × Int)))))
  | (v15, v16) =>
    if v15 < (x0.Writes.length : Int) then
      if inX v15 v16.length then
      if (ix v16 v15) = true then
        Option.bind (cut_relation_before_S (Ptr.mk (cut_relation.mk (x0.Writes.length : Int) (x0.Events.length : Int) v5 v6)) v15 v13.1) fun z =>
        let v17 : Bool × Unit := (z, ())
        if inX v15 v16.length then
        if inI (v15 + 1) then
        some (.inl ((v15 + 1), (put v16 v15 (decide (¬ (v17.1 = true))))))
        else none
        else none
      else
        if inX v15 v16.length then
        if inI (v15 + 1) then
        some (.inl ((v15 + 1), (put v16 v15 false)))
        else none
        else none
      else none
    else
      some (.inr (.inl (r14, v16)))
theorem cut_Frontier_L7_sound (x0 : api_History) (v5 : List Int) (v6 : List Int) (v13 : Int × Unit) (r14 : List (Int × Unit)) (s : Int × List Bool) {Φ : List Int × Int → Prop} {rec3 : (Int × List Int × List Int) → Prop} {rec4 : (Int × List (List Bool)) → Prop} {rec6 : (List (Int × Unit) × List Bool) → Prop} {rec7 : (Int × List Bool) → Prop} {o} (h : cut_Frontier_L7_S x0 v5 v6 v13 r14 s = some o) (hK : (orK rec7 (orK rec6 (orK rec4 (orK rec3 Φ)))) o) : cut_Frontier_L7 x0 v5 v6 rec6 v13 r14 Φ s rec7 := by
  obtain ⟨v15, v16⟩ := s
  unfold cut_Frontier_L7_S at h
  unfold cut_Frontier_L7
  exact ifS h (fun h => adS h fun h => ifS h (fun h => blS h fun _ hv h => ⟨_, cut_relation_before_sound _ _ _ hv rfl, adS h fun h => adS h fun h => have t := lfS h hK; t⟩) fun h => adS h fun h => adS h fun h => have t := lfS h hK; t) fun h => have t := lfS h hK; t
def cut_Frontier_L6_S (x0 : api_History) (v5 : List Int) (v6 : List Int) : (List (Int × Unit) × List Bool) → Option ((List (Int × Unit) × List Bool) ⊕ ((Int × List (List Bool)) ⊕ ((Int × List Int × List Int) ⊕ (List Int × Int))))
  | (lst, v12) =>
    match lst with
    | [] =>
      Option.bind (cut_marks_list_S v12) fun v18 =>
      some (.inr (.inr (.inr (v18, 0))))
    | v13 :: r14 =>
      loopS (cut_Frontier_L7_S x0 v5 v6 v13 r14) 100000 (0, v12)
theorem cut_Frontier_L6_sound (x0 : api_History) (v5 : List Int) (v6 : List Int) (s : List (Int × Unit) × List Bool) {Φ : List Int × Int → Prop} {rec3 : (Int × List Int × List Int) → Prop} {rec4 : (Int × List (List Bool)) → Prop} {rec6 : (List (Int × Unit) × List Bool) → Prop} {o} (h : cut_Frontier_L6_S x0 v5 v6 s = some o) (hK : (orK rec6 (orK rec4 (orK rec3 Φ))) o) : cut_Frontier_L6 x0 v5 v6 Φ s rec6 := by
  obtain ⟨lst, v12⟩ := s
  unfold cut_Frontier_L6_S at h
  unfold cut_Frontier_L6
  cases lst with
  | nil => exact blS h fun _ hv h => cut_marks_list_sound _ hv (have t := lfS h hK; t)
  | cons _ _ => exact LoopW.of_S (fun s q rec hs hq => cut_Frontier_L7_sound _ _ _ _ _ s hs hq) _ _ h hK
def cut_Frontier_J5_S (x0 : api_History) (v5 : List Int) (v6 : List Int) (v8 : List (List Bool)) : (Bool) → Option ((Int × List (List Bool)) ⊕ ((Int × List Int × List Int) ⊕ (List Int × Int)))
  | v10 =>
    if v10 = true then
      if (27 : Int) ≠ 0 then
        some (.inr (.inr (([] : List Int), 27)))
      else
        none
    else
      if (0 : Int) ≠ 0 then
        some (.inr (.inr (([] : List Int), 0)))
      else
        if inX 0 v8.length then
        Option.bind (slices_Clone_cut_marks_bool_S (ix v8 0)) fun v11 =>
        if inX 0 v8.length then
        Option.bind (cut_marks_members_1_S (ix v8 0)) fun l19 =>
        loopS (cut_Frontier_L6_S x0 v5 v6) 100000 (l19, v11)
        else none
        else none
theorem cut_Frontier_J5_sound (x0 : api_History) (v5 : List Int) (v6 : List Int) (v8 : List (List Bool)) (s : Bool) {Φ : List Int × Int → Prop} {rec3 : (Int × List Int × List Int) → Prop} {rec4 : (Int × List (List Bool)) → Prop} {o} (h : cut_Frontier_J5_S x0 v5 v6 v8 s = some o) (hK : (orK rec4 (orK rec3 Φ)) o) : cut_Frontier_J5 x0 v5 v6 v8 Φ s := by
  unfold cut_Frontier_J5_S at h
  unfold cut_Frontier_J5
  exact ifS h (fun h => ifS h (fun h => have t := lfS h hK; t) fun h => (by cases h)) fun h => ifS h (fun h => have t := lfS h hK; t) fun h => adS h fun h => blS h fun _ hv h => slices_Clone_cut_marks_bool_sound _ hv (adS h fun h => blS h fun _ hv h => ⟨_, cut_marks_members_1_sound _ hv, LoopW.of_S (fun s q rec hs hq => cut_Frontier_L6_sound _ _ _ s hs hq) _ _ h hK⟩)
def cut_Frontier_L8_S (x0 : api_History) (v5 : List Int) (v6 : List Int) (v8 : List (List Bool)) : (Int) → Option ((Int) ⊕ ((Int × List (List Bool)) ⊕ ((Int × List Int × List Int) ⊕ (List Int × Int))))
  | v20 =>
    if v20 < (v8.length : Int) then
      if inX v20 v8.length then
      Option.bind (cut_relation_closed_S (Ptr.mk (cut_relation.mk (x0.Writes.length : Int) (x0.Events.length : Int) v5 v6)) (ix v8 v20)) fun v21 =>
      if ¬ (v21 = true) then
        Option.map (fun z => .inr z) (cut_Frontier_J5_S x0 v5 v6 v8 (decide (0 ≤ v20)))
      else
        if inI (v20 + 1) then
        some (.inl (v20 + 1))
        else none
      else none
    else
      Option.map (fun z => .inr z) (cut_Frontier_J5_S x0 v5 v6 v8 (decide (0 ≤ ((-1) : Int))))
theorem cut_Frontier_L8_sound (x0 : api_History) (v5 : List Int) (v6 : List Int) (v8 : List (List Bool)) (s : Int) {Φ : List Int × Int → Prop} {rec3 : (Int × List Int × List Int) → Prop} {rec4 : (Int × List (List Bool)) → Prop} {rec8 : (Int) → Prop} {o} (h : cut_Frontier_L8_S x0 v5 v6 v8 s = some o) (hK : (orK rec8 (orK rec4 (orK rec3 Φ))) o) : cut_Frontier_L8 x0 v5 v6 v8 Φ s rec8 := by
  unfold cut_Frontier_L8_S at h
  unfold cut_Frontier_L8
  exact ifS h (fun h => adS h fun h => blS h fun _ hv h => cut_relation_closed_sound _ _ hv (ifS h (fun h => mpS h fun _ hx he => cut_Frontier_J5_sound _ _ _ _ _ hx (by subst he; exact hK)) fun h => adS h fun h => have t := lfS h hK; t)) fun h => mpS h fun _ hx he => cut_Frontier_J5_sound _ _ _ _ _ hx (by subst he; exact hK)
def cut_Frontier_L4_S (x0 : api_History) (x1 : List Int) (v5 : List Int) (v6 : List Int) : (Int × List (List Bool)) → Option ((Int × List (List Bool)) ⊕ ((Int × List Int × List Int) ⊕ (List Int × Int)))
  | (v7, v8) =>
    if v7 < (([x1] : List (List Int)).length : Int) then
      if inX v7 ([x1] : List (List Int)).length then
      Option.bind (cut_relation_mark_S (Ptr.mk (cut_relation.mk (x0.Writes.length : Int) (x0.Events.length : Int) v5 v6)) (ix ([x1] : List (List Int)) v7)) fun v9 =>
      if ¬ (v9.2 = true) then
        if (2 : Int) ≠ 0 then
          some (.inr (.inr (([] : List Int), 2)))
        else
          none
      else
        if lenOk (v8 ++ ([v9.1] : List (List Bool))).length 24 then
        if inI (v7 + 1) then
        some (.inl ((v7 + 1), (v8 ++ ([v9.1] : List (List Bool)))))
        else none
        else none
      else none
    else
      loopS (cut_Frontier_L8_S x0 v5 v6 v8) 100000 0
theorem cut_Frontier_L4_sound (x0 : api_History) (x1 : List Int) (v5 : List Int) (v6 : List Int) (s : Int × List (List Bool)) {Φ : List Int × Int → Prop} {rec3 : (Int × List Int × List Int) → Prop} {rec4 : (Int × List (List Bool)) → Prop} {o} (h : cut_Frontier_L4_S x0 x1 v5 v6 s = some o) (hK : (orK rec4 (orK rec3 Φ)) o) : cut_Frontier_L4 x0 x1 v5 v6 Φ s rec4 := by
  obtain ⟨v7, v8⟩ := s
  unfold cut_Frontier_L4_S at h
  unfold cut_Frontier_L4
  exact ifS h (fun h => adS h fun h => blS h fun _ hv h => cut_relation_mark_sound _ _ hv (ifS h (fun h => ifS h (fun h => have t := lfS h hK; t) fun h => (by cases h)) fun h => adS h fun h => adS h fun h => have t := lfS h hK; t)) fun h => LoopW.of_S (fun s q rec hs hq => cut_Frontier_L8_sound _ _ _ _ s hs hq) _ _ h hK
def cut_Frontier_L3_S (x0 : api_History) (x1 : List Int) : (Int × List Int × List Int) → Option ((Int × List Int × List Int) ⊕ (List Int × Int))
  | (v4, v5, v6) =>
    if v4 < (x0.Events.length : Int) then
      if inX v4 x0.Events.length then
      if ((ix x0.Events v4).Kind) = 0 then
        if inX ((ix x0.Events v4).Write) v5.length then
        if inI (v4 + 1) then
        some (.inl ((v4 + 1), (put v5 ((ix x0.Events v4).Write) v4), v6))
        else none
        else none
      else
        if inX ((ix x0.Events v4).Write) v6.length then
        if inI (v4 + 1) then
        some (.inl ((v4 + 1), v5, (put v6 ((ix x0.Events v4).Write) v4)))
        else none
        else none
      else none
    else
      if (0 : Int) ≠ 0 then
        if (0 : Int) ≠ 0 then
          some (.inr (([] : List Int), 0))
        else
          none
      else
        loopS (cut_Frontier_L4_S x0 x1 v5 v6) 100000 (0, ([] : List (List Bool)))
theorem cut_Frontier_L3_sound (x0 : api_History) (x1 : List Int) (s : Int × List Int × List Int) {Φ : List Int × Int → Prop} {rec3 : (Int × List Int × List Int) → Prop} {o} (h : cut_Frontier_L3_S x0 x1 s = some o) (hK : (orK rec3 Φ) o) : cut_Frontier_L3 x0 x1 Φ s rec3 := by
  obtain ⟨v4, v5, v6⟩ := s
  unfold cut_Frontier_L3_S at h
  unfold cut_Frontier_L3
  exact ifS h (fun h => adS h fun h => ifS h (fun h => adS h fun h => adS h fun h => have t := lfS h hK; t) fun h => adS h fun h => adS h fun h => have t := lfS h hK; t) fun h => ifS h (fun h => ifS h (fun h => have t := lfS h hK; t) fun h => (by cases h)) fun h => LoopW.of_S (fun s q rec hs hq => cut_Frontier_L4_sound _ _ _ _ s hs hq) _ _ h hK
def cut_Frontier_S (x0 : api_History) (x1 : List Int) : Option (List Int × Int) :=
  Option.bind (history_Check_S x0) fun v1 =>
  if v1 ≠ 0 then
    if v1 ≠ 0 then
      if v1 ≠ 0 then
        some ((([] : List Int), v1))
      else
        none
    else
      loopS (cut_Frontier_L1_S x1) 100000 ()
  else
    Option.bind (slices_Repeat_int_int_S ([(x0.Events.length : Int)] : List Int) (x0.Writes.length : Int)) fun z =>
    let v2 : List Int × Unit := (z, ())
    Option.bind (slices_Repeat_int_int_S ([(x0.Events.length : Int)] : List Int) (x0.Writes.length : Int)) fun z =>
    let v3 : List Int × Unit := (z, ())
    loopS (cut_Frontier_L3_S x0 x1) 100000 (0, v2.1, v3.1)
theorem cut_Frontier_sound (x0 : api_History) (x1 : List Int) {Φ : List Int × Int → Prop} {o} (h : cut_Frontier_S x0 x1 = some o) (hK : Φ o) : cut_Frontier_W x0 x1 Φ := by
  unfold cut_Frontier_S at h
  unfold cut_Frontier_W
  exact blS h fun _ hv h => history_Check_sound _ hv (ifS h (fun h => ifS h (fun h => ifS h (fun h => have t := lfS h hK; t) fun h => (by cases h)) fun h => LoopW.of_S (fun s q rec hs hq => cut_Frontier_L1_sound _ s hs hq) _ _ h hK) fun h => blS h fun _ hv h => ⟨_, slices_Repeat_int_int_sound _ _ hv rfl, blS h fun _ hv h => ⟨_, slices_Repeat_int_int_sound _ _ hv rfl, LoopW.of_S (fun s q rec hs hq => cut_Frontier_L3_sound _ _ s hs hq) _ _ h hK⟩⟩)
def cut_Age_L2_S : (Unit) → Option ((Unit) ⊕ ((Unit) ⊕ (Int × Int)))
  | _ =>
    if (0 : Int) < 0 then
      none
    else
      if 0 ≤ ((-1) : Int) then
        if (27 : Int) ≠ 0 then
          some (.inr (.inr (0, 27)))
        else
          none
      else
        if (0 : Int) ≠ 0 then
          some (.inr (.inr (0, 0)))
        else
          none
theorem cut_Age_L2_sound (s : Unit) {Φ : Int × Int → Prop} {rec1 : (Unit) → Prop} {rec2 : (Unit) → Prop} {o} (h : cut_Age_L2_S s = some o) (hK : (orK rec2 (orK rec1 Φ)) o) : cut_Age_L2 Φ s rec2 := by
  unfold cut_Age_L2_S at h
  unfold cut_Age_L2
  exact ifS h (fun h => (by cases h)) fun h => ifS h (fun h => ifS h (fun h => have t := lfS h hK; t) fun h => (by cases h)) fun h => ifS h (fun h => have t := lfS h hK; t) fun h => (by cases h)
def cut_Age_L1_S (x1 : List Int) : (Unit) → Option ((Unit) ⊕ (Int × Int))
  | _ =>
    if 0 < (([x1] : List (List Int)).length : Int) then
      if inX 0 ([x1] : List (List Int)).length then
      none
      else none
    else
      loopS (cut_Age_L2_S) 100000 ()
theorem cut_Age_L1_sound (x1 : List Int) (s : Unit) {Φ : Int × Int → Prop} {rec1 : (Unit) → Prop} {o} (h : cut_Age_L1_S x1 s = some o) (hK : (orK rec1 Φ) o) : cut_Age_L1 x1 Φ s rec1 := by
  unfold cut_Age_L1_S at h
  unfold cut_Age_L1
  exact ifS h (fun h => adS h fun h => (by cases h)) fun h => LoopW.of_S (fun s q rec hs hq => cut_Age_L2_sound s hs hq) _ _ h hK
def cut_Age_J7_S (v11 : Int) (v12 : Int) : (Bool) → Option ((Int × Int) ⊕ ((Int × List (List Bool)) ⊕ ((Int × List Int × List Int) ⊕ (Int × Int))))
  | v13 =>
    if v13 = true then
      if inI (v11 + 1) then
      if inI (v12 + 1) then
      some (.inl ((v11 + 1), (v12 + 1)))
      else none
      else none
    else
      if inI (v12 + 1) then
      some (.inl (v11, (v12 + 1)))
      else none
theorem cut_Age_J7_sound (v11 : Int) (v12 : Int) (s : Bool) {Φ : Int × Int → Prop} {rec3 : (Int × List Int × List Int) → Prop} {rec4 : (Int × List (List Bool)) → Prop} {rec6 : (Int × Int) → Prop} {o} (h : cut_Age_J7_S v11 v12 s = some o) (hK : (orK rec6 (orK rec4 (orK rec3 Φ))) o) : cut_Age_J7 v11 v12 rec6 Φ s := by
  unfold cut_Age_J7_S at h
  unfold cut_Age_J7
  exact ifS h (fun h => adS h fun h => adS h fun h => have t := lfS h hK; t) fun h => adS h fun h => have t := lfS h hK; t
def cut_Age_L6_S (x0 : api_History) (v6 : List Int) (v8 : List (List Bool)) : (Int × Int) → Option ((Int × Int) ⊕ ((Int × List (List Bool)) ⊕ ((Int × List Int × List Int) ⊕ (Int × Int))))
  | (v11, v12) =>
    if v12 < (x0.Writes.length : Int) then
      if inX v12 v6.length then
      if (ix v6 v12) < (x0.Events.length : Int) then
        if inX 0 v8.length then
        if inX v12 (ix v8 0).length then
        cut_Age_J7_S v11 v12 (decide (¬ ((ix (ix v8 0) v12) = true)))
        else none
        else none
      else
        cut_Age_J7_S v11 v12 false
      else none
    else
      some (.inr (.inr (.inr (v11, 0))))
theorem cut_Age_L6_sound (x0 : api_History) (v6 : List Int) (v8 : List (List Bool)) (s : Int × Int) {Φ : Int × Int → Prop} {rec3 : (Int × List Int × List Int) → Prop} {rec4 : (Int × List (List Bool)) → Prop} {rec6 : (Int × Int) → Prop} {o} (h : cut_Age_L6_S x0 v6 v8 s = some o) (hK : (orK rec6 (orK rec4 (orK rec3 Φ))) o) : cut_Age_L6 x0 v6 v8 Φ s rec6 := by
  obtain ⟨v11, v12⟩ := s
  unfold cut_Age_L6_S at h
  unfold cut_Age_L6
  exact ifS h (fun h => adS h fun h => ifS h (fun h => adS h fun h => adS h fun h => cut_Age_J7_sound _ _ _ h hK) fun h => cut_Age_J7_sound _ _ _ h hK) fun h => have t := lfS h hK; t
def cut_Age_J5_S (x0 : api_History) (v6 : List Int) (v8 : List (List Bool)) : (Bool) → Option ((Int × List (List Bool)) ⊕ ((Int × List Int × List Int) ⊕ (Int × Int)))
  | v10 =>
    if v10 = true then
      if (27 : Int) ≠ 0 then
        some (.inr (.inr (0, 27)))
      else
        none
    else
      if (0 : Int) ≠ 0 then
        some (.inr (.inr (0, 0)))
      else
        loopS (cut_Age_L6_S x0 v6 v8) 100000 (0, 0)
theorem cut_Age_J5_sound (x0 : api_History) (v6 : List Int) (v8 : List (List Bool)) (s : Bool) {Φ : Int × Int → Prop} {rec3 : (Int × List Int × List Int) → Prop} {rec4 : (Int × List (List Bool)) → Prop} {o} (h : cut_Age_J5_S x0 v6 v8 s = some o) (hK : (orK rec4 (orK rec3 Φ)) o) : cut_Age_J5 x0 v6 v8 Φ s := by
  unfold cut_Age_J5_S at h
  unfold cut_Age_J5
  exact ifS h (fun h => ifS h (fun h => have t := lfS h hK; t) fun h => (by cases h)) fun h => ifS h (fun h => have t := lfS h hK; t) fun h => LoopW.of_S (fun s q rec hs hq => cut_Age_L6_sound _ _ _ s hs hq) _ _ h hK
def cut_Age_L8_S (x0 : api_History) (v5 : List Int) (v6 : List Int) (v8 : List (List Bool)) : (Int) → Option ((Int) ⊕ ((Int × List (List Bool)) ⊕ ((Int × List Int × List Int) ⊕ (Int × Int))))
  | v14 =>
    if v14 < (v8.length : Int) then
      if inX v14 v8.length then
      Option.bind (cut_relation_closed_S (Ptr.mk (cut_relation.mk (x0.Writes.length : Int) (x0.Events.length : Int) v5 v6)) (ix v8 v14)) fun v15 =>
      if ¬ (v15 = true) then
        Option.map (fun z => .inr z) (cut_Age_J5_S x0 v6 v8 (decide (0 ≤ v14)))
      else
        if inI (v14 + 1) then
        some (.inl (v14 + 1))
        else none
      else none
    else
      Option.map (fun z => .inr z) (cut_Age_J5_S x0 v6 v8 (decide (0 ≤ ((-1) : Int))))
theorem cut_Age_L8_sound (x0 : api_History) (v5 : List Int) (v6 : List Int) (v8 : List (List Bool)) (s : Int) {Φ : Int × Int → Prop} {rec3 : (Int × List Int × List Int) → Prop} {rec4 : (Int × List (List Bool)) → Prop} {rec8 : (Int) → Prop} {o} (h : cut_Age_L8_S x0 v5 v6 v8 s = some o) (hK : (orK rec8 (orK rec4 (orK rec3 Φ))) o) : cut_Age_L8 x0 v5 v6 v8 Φ s rec8 := by
  unfold cut_Age_L8_S at h
  unfold cut_Age_L8
  exact ifS h (fun h => adS h fun h => blS h fun _ hv h => cut_relation_closed_sound _ _ hv (ifS h (fun h => mpS h fun _ hx he => cut_Age_J5_sound _ _ _ _ hx (by subst he; exact hK)) fun h => adS h fun h => have t := lfS h hK; t)) fun h => mpS h fun _ hx he => cut_Age_J5_sound _ _ _ _ hx (by subst he; exact hK)
def cut_Age_L4_S (x0 : api_History) (x1 : List Int) (v5 : List Int) (v6 : List Int) : (Int × List (List Bool)) → Option ((Int × List (List Bool)) ⊕ ((Int × List Int × List Int) ⊕ (Int × Int)))
  | (v7, v8) =>
    if v7 < (([x1] : List (List Int)).length : Int) then
      if inX v7 ([x1] : List (List Int)).length then
      Option.bind (cut_relation_mark_S (Ptr.mk (cut_relation.mk (x0.Writes.length : Int) (x0.Events.length : Int) v5 v6)) (ix ([x1] : List (List Int)) v7)) fun v9 =>
      if ¬ (v9.2 = true) then
        if (2 : Int) ≠ 0 then
          some (.inr (.inr (0, 2)))
        else
          none
      else
        if lenOk (v8 ++ ([v9.1] : List (List Bool))).length 24 then
        if inI (v7 + 1) then
        some (.inl ((v7 + 1), (v8 ++ ([v9.1] : List (List Bool)))))
        else none
        else none
      else none
    else
      loopS (cut_Age_L8_S x0 v5 v6 v8) 100000 0
theorem cut_Age_L4_sound (x0 : api_History) (x1 : List Int) (v5 : List Int) (v6 : List Int) (s : Int × List (List Bool)) {Φ : Int × Int → Prop} {rec3 : (Int × List Int × List Int) → Prop} {rec4 : (Int × List (List Bool)) → Prop} {o} (h : cut_Age_L4_S x0 x1 v5 v6 s = some o) (hK : (orK rec4 (orK rec3 Φ)) o) : cut_Age_L4 x0 x1 v5 v6 Φ s rec4 := by
  obtain ⟨v7, v8⟩ := s
  unfold cut_Age_L4_S at h
  unfold cut_Age_L4
  exact ifS h (fun h => adS h fun h => blS h fun _ hv h => cut_relation_mark_sound _ _ hv (ifS h (fun h => ifS h (fun h => have t := lfS h hK; t) fun h => (by cases h)) fun h => adS h fun h => adS h fun h => have t := lfS h hK; t)) fun h => LoopW.of_S (fun s q rec hs hq => cut_Age_L8_sound _ _ _ _ s hs hq) _ _ h hK
def cut_Age_L3_S (x0 : api_History) (x1 : List Int) : (Int × List Int × List Int) → Option ((Int × List Int × List Int) ⊕ (Int × Int))
  | (v4, v5, v6) =>
    if v4 < (x0.Events.length : Int) then
      if inX v4 x0.Events.length then
      if ((ix x0.Events v4).Kind) = 0 then
        if inX ((ix x0.Events v4).Write) v5.length then
        if inI (v4 + 1) then
        some (.inl ((v4 + 1), (put v5 ((ix x0.Events v4).Write) v4), v6))
        else none
        else none
      else
        if inX ((ix x0.Events v4).Write) v6.length then
        if inI (v4 + 1) then
        some (.inl ((v4 + 1), v5, (put v6 ((ix x0.Events v4).Write) v4)))
        else none
        else none
      else none
    else
      if (0 : Int) ≠ 0 then
        if (0 : Int) ≠ 0 then
          some (.inr (0, 0))
        else
          none
      else
        loopS (cut_Age_L4_S x0 x1 v5 v6) 100000 (0, ([] : List (List Bool)))
theorem cut_Age_L3_sound (x0 : api_History) (x1 : List Int) (s : Int × List Int × List Int) {Φ : Int × Int → Prop} {rec3 : (Int × List Int × List Int) → Prop} {o} (h : cut_Age_L3_S x0 x1 s = some o) (hK : (orK rec3 Φ) o) : cut_Age_L3 x0 x1 Φ s rec3 := by
  obtain ⟨v4, v5, v6⟩ := s
  unfold cut_Age_L3_S at h
  unfold cut_Age_L3
  exact ifS h (fun h => adS h fun h => ifS h (fun h => adS h fun h => adS h fun h => have t := lfS h hK; t) fun h => adS h fun h => adS h fun h => have t := lfS h hK; t) fun h => ifS h (fun h => ifS h (fun h => have t := lfS h hK; t) fun h => (by cases h)) fun h => LoopW.of_S (fun s q rec hs hq => cut_Age_L4_sound _ _ _ _ s hs hq) _ _ h hK
def cut_Age_S (x0 : api_History) (x1 : List Int) : Option (Int × Int) :=
  Option.bind (history_Check_S x0) fun v1 =>
  if v1 ≠ 0 then
    if v1 ≠ 0 then
      if v1 ≠ 0 then
        some ((0, v1))
      else
        none
    else
      loopS (cut_Age_L1_S x1) 100000 ()
  else
    Option.bind (slices_Repeat_int_int_S ([(x0.Events.length : Int)] : List Int) (x0.Writes.length : Int)) fun z =>
    let v2 : List Int × Unit := (z, ())
    Option.bind (slices_Repeat_int_int_S ([(x0.Events.length : Int)] : List Int) (x0.Writes.length : Int)) fun z =>
    let v3 : List Int × Unit := (z, ())
    loopS (cut_Age_L3_S x0 x1) 100000 (0, v2.1, v3.1)
theorem cut_Age_sound (x0 : api_History) (x1 : List Int) {Φ : Int × Int → Prop} {o} (h : cut_Age_S x0 x1 = some o) (hK : Φ o) : cut_Age_W x0 x1 Φ := by
  unfold cut_Age_S at h
  unfold cut_Age_W
  exact blS h fun _ hv h => history_Check_sound _ hv (ifS h (fun h => ifS h (fun h => ifS h (fun h => have t := lfS h hK; t) fun h => (by cases h)) fun h => LoopW.of_S (fun s q rec hs hq => cut_Age_L1_sound _ s hs hq) _ _ h hK) fun h => blS h fun _ hv h => ⟨_, slices_Repeat_int_int_sound _ _ hv rfl, blS h fun _ hv h => ⟨_, slices_Repeat_int_int_sound _ _ hv rfl, LoopW.of_S (fun s q rec hs hq => cut_Age_L3_sound _ _ s hs hq) _ _ h hK⟩⟩)
def ref15_SameInts_L1_S (x0 : List Int) (x1 : List Int) : (Int) → Option ((Int) ⊕ (Bool))
  | v1 =>
    if v1 < (x0.length : Int) then
      if inX v1 x0.length then
      if inX v1 x1.length then
      if (ix x0 v1) ≠ (ix x1 v1) then
        some (.inr false)
      else
        if inI (v1 + 1) then
        some (.inl (v1 + 1))
        else none
      else none
      else none
    else
      some (.inr true)
theorem ref15_SameInts_L1_sound (x0 : List Int) (x1 : List Int) (s : Int) {Φ : Bool → Prop} {rec1 : (Int) → Prop} {o} (h : ref15_SameInts_L1_S x0 x1 s = some o) (hK : (orK rec1 Φ) o) : ref15_SameInts_L1 x0 x1 Φ s rec1 := by
  unfold ref15_SameInts_L1_S at h
  unfold ref15_SameInts_L1
  exact ifS h (fun h => adS h fun h => adS h fun h => ifS h (fun h => have t := lfS h hK; t) fun h => adS h fun h => have t := lfS h hK; t) fun h => have t := lfS h hK; t
def ref15_SameInts_S (x0 : List Int) (x1 : List Int) : Option (Bool) :=
  if (x0.length : Int) ≠ (x1.length : Int) then
    some (false)
  else
    loopS (ref15_SameInts_L1_S x0 x1) 100000 0
theorem ref15_SameInts_sound (x0 : List Int) (x1 : List Int) {Φ : Bool → Prop} {o} (h : ref15_SameInts_S x0 x1 = some o) (hK : Φ o) : ref15_SameInts_W x0 x1 Φ := by
  unfold ref15_SameInts_S at h
  unfold ref15_SameInts_W
  exact ifS h (fun h => have t := lfS h hK; t) fun h => LoopW.of_S (fun s q rec hs hq => ref15_SameInts_L1_sound _ _ s hs hq) _ _ h hK
def ref16_SameLists_L1_S (x0 : List (List Int)) (x1 : List (List Int)) : (Int) → Option ((Int) ⊕ (Bool))
  | v1 =>
    if v1 < (x0.length : Int) then
      if inX v1 x0.length then
      if inX v1 x1.length then
      Option.bind (ref15_SameInts_S (ix x0 v1) (ix x1 v1)) fun z =>
      let v2 : Bool × Unit := (z, ())
      if ¬ (v2.1 = true) then
        some (.inr false)
      else
        if inI (v1 + 1) then
        some (.inl (v1 + 1))
        else none
      else none
      else none
    else
      some (.inr true)
theorem ref16_SameLists_L1_sound (x0 : List (List Int)) (x1 : List (List Int)) (s : Int) {Φ : Bool → Prop} {rec1 : (Int) → Prop} {o} (h : ref16_SameLists_L1_S x0 x1 s = some o) (hK : (orK rec1 Φ) o) : ref16_SameLists_L1 x0 x1 Φ s rec1 := by
  unfold ref16_SameLists_L1_S at h
  unfold ref16_SameLists_L1
  exact ifS h (fun h => adS h fun h => adS h fun h => blS h fun _ hv h => ⟨_, ref15_SameInts_sound _ _ hv rfl, ifS h (fun h => have t := lfS h hK; t) fun h => adS h fun h => have t := lfS h hK; t⟩) fun h => have t := lfS h hK; t
def ref16_SameLists_S (x0 : List (List Int)) (x1 : List (List Int)) : Option (Bool) :=
  if (x0.length : Int) ≠ (x1.length : Int) then
    some (false)
  else
    loopS (ref16_SameLists_L1_S x0 x1) 100000 0
theorem ref16_SameLists_sound (x0 : List (List Int)) (x1 : List (List Int)) {Φ : Bool → Prop} {o} (h : ref16_SameLists_S x0 x1 = some o) (hK : Φ o) : ref16_SameLists_W x0 x1 Φ := by
  unfold ref16_SameLists_S at h
  unfold ref16_SameLists_W
  exact ifS h (fun h => have t := lfS h hK; t) fun h => LoopW.of_S (fun s q rec hs hq => ref16_SameLists_L1_sound _ _ s hs hq) _ _ h hK
def slices_Equal_int_int_L1_S (x0 : List Int) (x1 : List Int) : (Int) → Option ((Int) ⊕ (Bool))
  | v1 =>
    if v1 < (x0.length : Int) then
      if inX v1 x0.length then
      if inX v1 x1.length then
      if (ix x0 v1) ≠ (ix x1 v1) then
        some (.inr false)
      else
        if inI (v1 + 1) then
        some (.inl (v1 + 1))
        else none
      else none
      else none
    else
      some (.inr true)
theorem slices_Equal_int_int_L1_sound (x0 : List Int) (x1 : List Int) (s : Int) {Φ : Bool → Prop} {rec1 : (Int) → Prop} {o} (h : slices_Equal_int_int_L1_S x0 x1 s = some o) (hK : (orK rec1 Φ) o) : slices_Equal_int_int_L1 x0 x1 Φ s rec1 := by
  unfold slices_Equal_int_int_L1_S at h
  unfold slices_Equal_int_int_L1
  exact ifS h (fun h => adS h fun h => adS h fun h => ifS h (fun h => have t := lfS h hK; t) fun h => adS h fun h => have t := lfS h hK; t) fun h => have t := lfS h hK; t
def slices_Equal_int_int_S (x0 : List Int) (x1 : List Int) : Option (Bool) :=
  if (x0.length : Int) ≠ (x1.length : Int) then
    some (false)
  else
    loopS (slices_Equal_int_int_L1_S x0 x1) 100000 0
theorem slices_Equal_int_int_sound (x0 : List Int) (x1 : List Int) {Φ : Bool → Prop} {o} (h : slices_Equal_int_int_S x0 x1 = some o) (hK : Φ o) : slices_Equal_int_int_W x0 x1 Φ := by
  unfold slices_Equal_int_int_S at h
  unfold slices_Equal_int_int_W
  exact ifS h (fun h => have t := lfS h hK; t) fun h => LoopW.of_S (fun s q rec hs hq => slices_Equal_int_int_L1_sound _ _ s hs hq) _ _ h hK
def law16_awake_J1_S (v4 : List Int × Int) (v5 : List Int × Int) (v6 : List Int × Int) (v7 : Int × Int) (v8 : Int × Int) : (Bool) → Option (Bool)
  | v9 =>
    if v9 = true then
      Option.bind (slices_Equal_int_int_S v4.1 ([0, 2] : List Int)) fun v10 =>
      if v10 = true then
        Option.bind (slices_Equal_int_int_S v5.1 ([1] : List Int)) fun v11 =>
        if v11 = true then
          Option.bind (slices_Equal_int_int_S v6.1 ([1, 2] : List Int)) fun v12 =>
          if v12 = true then
            if v7.1 = 2 then
              some (decide (v8.1 = 0))
            else
              some (false)
          else
            some (false)
        else
          some (false)
      else
        some (false)
    else
      some (false)
theorem law16_awake_J1_sound (v4 : List Int × Int) (v5 : List Int × Int) (v6 : List Int × Int) (v7 : Int × Int) (v8 : Int × Int) (s : Bool) {Φ : Bool → Prop} {o} (h : law16_awake_J1_S v4 v5 v6 v7 v8 s = some o) (hK : Φ o) : law16_awake_J1 v4 v5 v6 v7 v8 Φ s := by
  unfold law16_awake_J1_S at h
  unfold law16_awake_J1
  exact ifS h (fun h => blS h fun _ hv h => slices_Equal_int_int_sound _ _ hv (ifS h (fun h => blS h fun _ hv h => slices_Equal_int_int_sound _ _ hv (ifS h (fun h => blS h fun _ hv h => slices_Equal_int_int_sound _ _ hv (ifS h (fun h => ifS h (fun h => have t := lfS h hK; t) fun h => have t := lfS h hK; t) fun h => have t := lfS h hK; t)) fun h => have t := lfS h hK; t)) fun h => have t := lfS h hK; t)) fun h => have t := lfS h hK; t
def law16_awake_S : Option (Bool) :=
  Option.bind (law16_example_S) fun v1 =>
  Option.bind (cut_All_S v1 6) fun v2 =>
  Option.bind (cut_All_S v1 5) fun v3 =>
  Option.bind (cut_Least_S v1 ([2] : List Int)) fun v4 =>
  Option.bind (cut_Greatest_S v1 ([1, 2] : List Int)) fun v5 =>
  Option.bind (cut_Frontier_S v1 ([0, 1, 2] : List Int)) fun v6 =>
  Option.bind (cut_Age_S v1 ([1] : List Int)) fun v7 =>
  Option.bind (cut_Age_S v1 ([0, 2] : List Int)) fun v8 =>
  if inI (v2.2 + v4.2) then
  if inI ((v2.2 + v4.2) + v5.2) then
  if inI (((v2.2 + v4.2) + v5.2) + v6.2) then
  if inI ((((v2.2 + v4.2) + v5.2) + v6.2) + v7.2) then
  if inI (((((v2.2 + v4.2) + v5.2) + v6.2) + v7.2) + v8.2) then
  if (((((v2.2 + v4.2) + v5.2) + v6.2) + v7.2) + v8.2) = 0 then
    if v3.2 = 6 then
      Option.bind (ref16_SameLists_S v2.1 ([([] : List Int), ([0] : List Int), ([1] : List Int), ([0, 1] : List Int), ([0, 2] : List Int), ([0, 1, 2] : List Int)] : List (List Int))) fun v13 =>
      law16_awake_J1_S v4 v5 v6 v7 v8 v13
    else
      law16_awake_J1_S v4 v5 v6 v7 v8 false
  else
    law16_awake_J1_S v4 v5 v6 v7 v8 false
  else none
  else none
  else none
  else none
  else none
theorem law16_awake_sound {Φ : Bool → Prop} {o} (h : law16_awake_S = some o) (hK : Φ o) : law16_awake_W Φ := by
  unfold law16_awake_S at h
  unfold law16_awake_W
  exact blS h fun _ hv h => law16_example_sound hv (blS h fun _ hv h => cut_All_sound _ _ hv (blS h fun _ hv h => cut_All_sound _ _ hv (blS h fun _ hv h => cut_Least_sound _ _ hv (blS h fun _ hv h => cut_Greatest_sound _ _ hv (blS h fun _ hv h => cut_Frontier_sound _ _ hv (blS h fun _ hv h => cut_Age_sound _ _ hv (blS h fun _ hv h => cut_Age_sound _ _ hv (adS h fun h => adS h fun h => adS h fun h => adS h fun h => adS h fun h => ifS h (fun h => ifS h (fun h => blS h fun _ hv h => ref16_SameLists_sound _ _ hv (law16_awake_J1_sound _ _ _ _ _ _ h hK)) fun h => law16_awake_J1_sound _ _ _ _ _ _ h hK) fun h => law16_awake_J1_sound _ _ _ _ _ _ h hK))))))))
theorem law16_awake_ok {Φ : Bool → Prop} (h : Φ true) : law16_awake_W Φ := law16_awake_sound (o := true) (by kernel_rfl) h
theorem leastR_ok {h : api_History} (hz : histE h = 0) {l : List Int} (hl : isSetB l (h.Writes.length : Int) = true) : leastR h l = (selL h.Writes.length (lowC h l), 0) := by
  unfold leastR
  rw [if_neg (fun t => t hz), if_neg (by rw [hl]; simp), leastC_sel hl]
theorem sel_set {n : Nat} {p : Nat → Bool} : isSetB (selL n p) (n : Int) = true := selL_set (Nat.le_refl _) (Int.le_refl _)
theorem cutGenerates_del {h : api_History} {v5 : List Int × Int} {n : Nat} {x : Int} {rec2 : Int → Prop} {Φ : Bool → Prop} {c : List Int} (hc : c.length ≤ 100000) (ex : ix v5.1 (n : Int) = x)
    (hΦ : cut_Check_W h (c.filter fun y => !decide (y = x)) fun v16 => (v16 ≠ 0 → Φ false) ∧ (¬ (v16 ≠ 0) → inI ((n : Int) + 1) ∧ rec2 ((n : Int) + 1))) {i : Nat} (hi : i < c.length) (h0 : x ∉ c.take i) (h1 : ix c (i : Int) = x) : LoopW (law16_CutGenerates_L5 h v5 (n : Int) rec2 Φ) ((i : Int), (i : Int) + 1, c) := by
  have first : (c.take (i + 1)).filter (fun y => !decide (y = x)) = c.take i := by
    rw [take_ix hi, List.filter_append, h1]
    have e1 : ([x] : List Int).filter (fun y => !decide (y = x)) = [] := by simp
    rw [e1, List.append_nil]
    exact List.filter_eq_self.2 fun y hy => by
      rw [Bool.not_eq_true', decide_eq_false_iff_not]
      exact fun e => h0 (e ▸ hy)
  refine LoopW.of_inv (fun s => ∃ k j : Nat, s.1 = (k : Int) ∧ s.2.1 = (j : Int) ∧ k ≤ j ∧ j ≤ c.length ∧ s.2.2.length = c.length ∧ s.2.2.take k = (c.take j).filter (fun y => !decide (y = x)) ∧ s.2.2.drop j = c.drop j) (fun s => c.length - s.2.1.toNat) ?_ ⟨i, i + 1, rfl, rfl, by omega, by omega, rfl, first.symm, rfl⟩
  rintro ⟨v13, v14, l⟩ rec5 ⟨k, j, e1, e2, hkj, hj, hl, hk, hd⟩ hrec
  have e1 : v13 = (k : Int) := e1
  have e2 : v14 = (j : Int) := e2
  subst e1
  subst e2
  have hl : l.length = c.length := hl
  have hk : l.take k = (c.take j).filter (fun y => !decide (y = x)) := hk
  have hd : l.drop j = c.drop j := hd
  refine ⟨fun q => ?_, fun q => ?_⟩
  · have q : (j : Int) < (l.length : Int) := q
    have hjl : j < l.length := by omega
    have hjc : j < c.length := by omega
    have xj : ix l (j : Int) = ix c (j : Int) := by
      have h2 := hd
      rw [drop_ix hjl, drop_ix hjc] at h2
      exact (List.cons.inj h2).1
    have hd1 : l.drop (j + 1) = c.drop (j + 1) := by
      have h2 := hd
      rw [drop_ix hjl, drop_ix hjc] at h2
      exact (List.cons.inj h2).2
    refine ⟨iX (by omega) q, fun r => ⟨iX (by omega) (by omega), iI (by omega) (by omega), iI (by omega) (by omega), hrec _ ⟨k + 1, j + 1, rfl, rfl, by omega, by omega, ?_, ?_, ?_⟩ ?_⟩, fun r => ⟨iI (by omega) (by omega), hrec _ ⟨k, j + 1, rfl, rfl, by omega, by omega, hl, ?_, hd1⟩ ?_⟩⟩
    · show (put l (k : Int) (ix l (j : Int))).length = c.length
      rw [put_len]; exact hl
    · show (put l (k : Int) (ix l (j : Int))).take (k + 1) = _
      rw [take_ix (by rw [put_len]; omega), ix_put_self _ (iX (by omega) (by omega)), put_nat]
      rw [List.take_set_of_le (Nat.le_refl k), hk, take_ix hjc, List.filter_append, xj]
      have : ([ix c (j : Int)] : List Int).filter (fun y => !decide (y = x)) = [ix c (j : Int)] := by
        rw [← xj, ← ex]
        simp [show ¬ ix l (j : Int) = ix v5.1 (n : Int) from r]
      rw [this]
    · show (put l (k : Int) (ix l (j : Int))).drop (j + 1) = _
      rw [put_nat, List.drop_set_of_lt (by omega)]; exact hd1
    · show c.length - ((j : Int) + 1).toNat < c.length - ((j : Int)).toNat
      omega
    · show l.take k = _
      rw [hk, take_ix hjc, List.filter_append, ← xj, Classical.not_not.1 r, ex]
      have : ([x] : List Int).filter (fun y => !decide (y = x)) = [] := by simp
      rw [this, List.append_nil]
    · show c.length - ((j : Int) + 1).toNat < c.length - ((j : Int)).toNat
      omega
  · have q : ¬ (j : Int) < (l.length : Int) := q
    obtain rfl : j = c.length := by omega
    rw [List.take_length] at hk
    have pl : (paste l (k : Int) (List.replicate (l.length - ((k : Int)).toNat) (0 : Int))).length = l.length := paste_len ⟨by omega, by omega, by omega⟩
    refine ⟨iS (by omega) (by omega) (by omega), iS (by omega) (by omega) (by omega), ?_⟩
    have es : sub (paste l (k : Int) (List.replicate (l.length - ((k : Int)).toNat) (0 : Int))) 0 (k : Int) = c.filter fun y => !decide (y = x) := by
      rw [sub0, ← hk]
      unfold paste
      rw [Int.toNat_natCast]
      rw [List.take_append_of_le_length (by rw [List.length_take]; omega), List.take_take, Nat.min_self]
    rw [es]; exact hΦ
theorem cutGenerates_law (h : api_History) (l : List Int) (_ : Rg.rg h) (_ : Rg.rg l) : law16_CutGenerates_W h l fun y => y = true := by
  have j1 : law16_CutGenerates_J1 h l (fun y => y = true) true := ⟨fun _ => law16_awake_ok rfl, fun q => absurd rfl q⟩
  refine law16_few_ok (by simp) ⟨fun _ => j1, fun q => absurd (fun t => Bool.noConfusion t) q⟩ fun hh h40 _ hl => ⟨fun r => absurd rfl r, fun _ => history_Check_ok hh ?_⟩
  by_cases hz : histE h ≠ 0
  · rw [decide_eq_true hz]; exact j1
  · rw [decide_eq_false hz]
    have hz := Classical.not_not.1 hz
    have hl : l.length ≤ 1000000 := by have := hl l (by simp); omega
    have hw : h.Writes.length ≤ 4096 := by omega
    refine ⟨fun t => Bool.noConfusion t, fun _ => ⟨_, law16_below_ok hl hw rfl, ?_⟩⟩
    have sa : isSetB (selL h.Writes.length fun w => decide ((w : Int) ∈ l)) (h.Writes.length : Int) = true := sel_set
    show ∃ v4 : List Int × Int × Unit, cut_Least_W h (selL h.Writes.length fun w => decide ((w : Int) ∈ l)) _ ∧ _
    generalize (selL h.Writes.length fun w => decide ((w : Int) ∈ l)) = A at sa ⊢
    have len : ∀ {x : List Int}, isSetB x (h.Writes.length : Int) = true → x.length ≤ 100000 := fun {x} hx => by have := isSetB_le hx (by omega); omega
    have sc : isSetB (selL h.Writes.length (lowC h A)) (h.Writes.length : Int) = true := sel_set
    have cc := lowC_closed hz sa
    have e1 := leastR_ok hz sa
    refine ⟨(selL h.Writes.length (lowC h A), 0, ()), cut_Least_ok hh (by have := len sa; omega) (by rw [e1]), ?_⟩
    generalize selL h.Writes.length (lowC h A) = c at sc cc ⊢
    have sf : isSetB (frC h c) (h.Writes.length : Int) = true := frC_set
    refine cut_Frontier_ok hh (by have := len sc; show c.length ≤ _; omega) ?_
    have e2 : frR h c = (frC h c, 0) := by unfold frR; rw [ckcR_ok hz sc cc, if_neg (fun t => t rfl)]
    show cut_Least_W h (frR h c).1 _
    rw [e2]
    refine cut_Least_ok hh (by have := len sf; show (frC h c).length ≤ _; omega) ?_
    have e3 : leastR h (frC h c) = (c, 0) := by
      have := front_least hz sc cc
      unfold leastR
      rw [if_neg (fun t => t hz), if_neg (by rw [sf]; simp), this]
    rw [e3]
    refine ⟨iI (by show _ ≤ (0 : Int) + 0; omega) (by show (0 : Int) + 0 ≤ _; omega), iI (by show _ ≤ (0 : Int) + 0 + 0; omega) (by show (0 : Int) + 0 + 0 ≤ _; omega), fun t => absurd rfl t, fun _ => equal_int_refl (by have := len sc; show c.length ≤ _; omega) ⟨fun t => absurd rfl t, fun _ => ?_⟩⟩
    have sub : ∀ x ∈ frC h c, x ∈ c := fun x hx => by
      have m := isSetB_mem sf hx
      have e : ((x.toNat : Nat) : Int) = x := Int.toNat_of_nonneg m.1
      rw [← e] at hx ⊢
      exact ((frC_mem hz sc).1 hx).1
    refine law16_contains_ok (by have := len sc; show c.length ≤ _; omega) (by have := len sf; show (frC h c).length ≤ _; omega) (fun _ => ⟨fun t => absurd rfl t, fun _ => ?_⟩) fun n => absurd sub n
    have lf := len sf
    have lc := len sc
    refine LoopW.upT (frC h c).length (fun n => (n : Int)) rfl (fun n rec hn hr => ⟨fun hlt => ⟨iX (by omega) hlt, ?_⟩, fun r => absurd (show (n : Int) < ((frC h c).length : Int) by omega) r⟩) fun rec => ⟨fun r => absurd r (by show ¬ (((frC h c).length : Int) < ((frC h c).length : Int)); omega), fun _ => law16_awake_ok rfl⟩
    have mx : ix (frC h c) (n : Int) ∈ frC h c := ix_mem (iX (by omega) (by omega))
    have mr := isSetB_mem sf mx
    have ea : (((ix (frC h c) (n : Int)).toNat : Nat) : Int) = ix (frC h c) (n : Int) := Int.toNat_of_nonneg mr.1
    have hfa : (((ix (frC h c) (n : Int)).toNat : Nat) : Int) ∈ frC h c := by rw [ea]; exact mx
    have none := ((frC_mem hz sc).1 hfa).2
    have less := front_less hz sc cc hfa
    have j3 : law16_CutGenerates_J3 h (c, 0, ()) (frC h c, 0) (n : Int) rec (fun y => y = true) () := by
      have check : cut_Check_W h (c.filter fun y => !decide (y = ix (frC h c) (n : Int))) fun v16 => (v16 ≠ 0 → false = true) ∧ (¬ (v16 ≠ 0) → inI ((n : Int) + 1) ∧ rec ((n : Int) + 1)) := by
        rw [ea] at less
        refine cut_Check_ok hh (by have := len less.1; omega) ?_
        rw [ckcR_ok hz less.1 less.2]
        exact ⟨fun t => absurd rfl t, fun _ => ⟨iI (by omega) (by omega), hr _ rfl⟩⟩
      have loop : LoopW (law16_CutGenerates_L6 h (frC h c, 0) (n : Int) rec c (fun y => y = true)) 0 := by
        refine LoopW.upI c.length (fun i => (i : Int)) (fun i => ix (frC h c) (n : Int) ∉ c.take i) rfl (by simp) (fun i rec6 hi hI hr6 => ⟨fun hlt => ⟨iX (by omega) hlt, fun q => ?_, fun q => ⟨iI (by omega) (by omega), hr6 ?_ _ rfl⟩⟩, fun r => absurd (show (i : Int) < (c.length : Int) by omega) r⟩) fun rec6 hI => ⟨fun r => absurd r (by omega), fun _ => ?_⟩
        · refine ⟨fun r => absurd (show (i : Int) = -1 from r) (by omega), fun _ => ⟨iI (by omega) (by omega), ?_⟩⟩
          exact cutGenerates_del (v5 := (frC h c, 0)) (n := n) (x := ix (frC h c) (n : Int)) (rec2 := rec) (Φ := fun y => y = true) (c := c) lc rfl check hi hI q
        · rw [take_ix hi, List.mem_append, List.mem_singleton]
          exact fun t => t.elim hI fun t => q t.symm
        · rw [List.take_length] at hI
          exact absurd (sub _ mx) hI
      refine ⟨fun e0 => ?_, ⟨by rw [List.nil_append]; exact iL (by show c.length ≤ _; omega) (by omega), ?_⟩⟩
      · have e0 : c = [] := e0
        exact Eq.mp (congrArg (fun z => LoopW (law16_CutGenerates_L6 h (frC h c, 0) (n : Int) rec z fun y => y = true) 0) e0) loop
      · rw [List.nil_append]; exact loop
    refine LoopW.upT (frC h c).length (fun k => (k : Int)) rfl (fun k rec7 hk hr7 => ⟨fun hlt => ⟨iX (by omega) hlt, ?_⟩, fun r => absurd (show (k : Int) < ((frC h c).length : Int) by omega) r⟩) fun rec7 => ⟨fun r => absurd r (by show ¬ (((frC h c).length : Int) < ((frC h c).length : Int)); omega), fun _ => ⟨fun t => absurd t (by decide), fun _ => j3⟩⟩
    have mk : ix (frC h c) (k : Int) ∈ frC h c := ix_mem (iX (by omega) (by omega))
    have mrk := isSetB_mem sf mk
    have ek : (((ix (frC h c) (k : Int)).toNat : Nat) : Int) = ix (frC h c) (k : Int) := Int.toNat_of_nonneg mrk.1
    have hb : befP h (ix (frC h c) (n : Int)).toNat (ix (frC h c) (k : Int)).toNat = false := none _ (by rw [ek]; exact sub _ mk)
    have go : history_Before_W h (((ix (frC h c) (n : Int)).toNat : Nat) : Int) (((ix (frC h c) (k : Int)).toNat : Nat) : Int) fun v19 => (v19 = true → (0 ≤ (k : Int) → false = true) ∧ (¬ (0 ≤ (k : Int)) → law16_CutGenerates_J3 h (c, 0, ()) (frC h c, 0) (n : Int) rec (fun y => y = true) ())) ∧ (¬ (v19 = true) → inI ((k : Int) + 1) ∧ rec7 ((k : Int) + 1)) := by
      refine history_Before_ok hh hz (by omega) (by omega) ?_
      rw [hb]
      exact ⟨fun t => Bool.noConfusion t, fun _ => ⟨iI (by omega) (by omega), hr7 _ rfl⟩⟩
    rw [ea, ek] at go
    exact go
end Go.Proofs.YtpmjodnmnffmhaaGreatDoor
