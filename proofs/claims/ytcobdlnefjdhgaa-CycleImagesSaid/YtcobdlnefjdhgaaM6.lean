/- Part 6 of the proof of the statement CycleImagesSaid: lemmas. No condition of its own. -/
import Derived.Lib.TrailingZeros
import Derived.Test.YtcobdlnefjdhgaaM5
namespace Go.Proofs.Ytcobdlnefjdhgaa
open Go.RowKit
section
theorem iI {x : Int} (h1 : -9223372036854775808 ≤ x) (h2 : x ≤ 9223372036854775807) : inI x := ⟨h1, h2⟩
theorem iX {i : Int} {n : Nat} (h1 : 0 ≤ i) (h2 : i < (n : Int)) : inX i n := ⟨h1, h2⟩
theorem iS {a b : Int} {n : Nat} (h1 : 0 ≤ a) (h2 : a ≤ b) (h3 : b ≤ (n : Int)) : inS a b n := ⟨h1, h2, h3⟩
theorem iL {n b : Nat} (h : n ≤ 1000000) (hb : b ≤ 1000000) : lenOk n b := by
  have := Nat.mul_le_mul h hb
  refine ⟨by omega, ?_⟩
  simp only [maxLen]
  omega
section
variable {α : Type} [Dt α]
theorem ix_get {xs : List α} {k : Nat} (h : k < xs.length) : ix xs (k : Int) = xs[k] := by
  show xs.getD k default = _
  rw [List.getD_eq_getElem?_getD, List.getElem?_eq_getElem h]; rfl
theorem take_ix {xs : List α} {k : Nat} (h : k < xs.length) : xs.take (k + 1) = xs.take k ++ [ix xs (k : Int)] := by
  rw [ix_get h]; exact (List.take_append_getElem h).symm
theorem ix_mem {xs : List α} {i : Int} (h : inX i xs.length) : ix xs i ∈ xs := by
  have e := h.nat
  have hl := h.lt
  rw [e, ix_get hl]
  exact List.getElem_mem hl
theorem ext_ix {xs ys : List α} (hl : xs.length = ys.length) (h : ∀ k : Nat, k < xs.length → ix xs (k : Int) = ix ys (k : Int)) : xs = ys := by
  apply List.ext_getElem hl
  intro k h1 h2
  have := h k h1
  rwa [ix_get h1, ix_get h2] at this
end
section
variable {A : Type}
def firstN (f : Nat → Int) : Nat → Int
  | 0 => 0
  | n + 1 => if firstN f n ≠ 0 then firstN f n else f n
theorem firstN_hit {f : Nat → Int} : ∀ {n k : Nat}, k < n → (∀ j, j < k → f j = 0) → f k ≠ 0 → firstN f n = f k
  | 0, _, hk, _, _ => by omega
  | n + 1, k, hk, h0, h1 => by
    unfold firstN
    rcases Nat.lt_or_ge k n with h | h
    · rw [firstN_hit h h0 h1, if_pos h1]
    · have e : k = n := by omega
      subst e
      have : firstN f k = 0 := by
        clear h1 hk h
        induction k with
        | zero => rfl
        | succ k ih => unfold firstN; rw [ih fun j hj => h0 j (by omega), if_neg (by simp), h0 k (by omega)]
      rw [this, if_neg (by simp)]
theorem firstN_zero {f : Nat → Int} : ∀ {n : Nat}, firstN f n = 0 ↔ ∀ k, k < n → f k = 0
  | 0 => by simp [firstN]
  | n + 1 => by
    unfold firstN
    constructor
    · intro h k hk
      by_cases h1 : firstN f n ≠ 0
      · rw [if_pos h1] at h; exact absurd h h1
      · rw [if_neg h1] at h
        rcases Nat.lt_or_ge k n with hlt | hge
        · exact (firstN_zero.1 (Classical.not_not.1 h1)) k hlt
        · have : k = n := by omega
          subst this; exact h
    · intro h
      rw [if_neg (by rw [firstN_zero.2 fun k hk => h k (by omega)]; simp), h n (by omega)]
end
end
theorem LoopW.upI {S : Type} {step : S → (S → Prop) → Prop} (n : Nat) (st : Nat → S) (I : Nat → Prop) {s : S} (hs : s = st 0) (h0 : I 0)
    (h : ∀ (k : Nat) rec, k < n → I k → (I (k + 1) → ∀ s, s = st (k + 1) → rec s) → step (st k) rec) (he : ∀ rec, I n → step (st n) rec) : LoopW step s := by
  have key : ∀ m k, k + m = n → I k → LoopN step (m + 1) (st k) := by
    intro m
    induction m with
    | zero => intro k hk hI; obtain rfl : k = n := hk; exact he _ hI
    | succ m ih => intro k hk hI; exact h k _ (by omega) hI fun hI' s hs => by rw [hs]; exact ih (k + 1) (by omega) hI'
  exact ⟨n + 1, by rw [hs]; exact key n 0 (by omega) h0⟩
theorem LoopW.upT {S : Type} {step : S → (S → Prop) → Prop} (n : Nat) (st : Nat → S) {s : S} (hs : s = st 0)
    (h : ∀ (k : Nat) rec, k < n → (∀ s, s = st (k + 1) → rec s) → step (st k) rec) (he : ∀ rec, step (st n) rec) : LoopW step s :=
  LoopW.upI n st (fun _ => True) hs trivial (fun k rec hk _ hr => h k rec hk (hr trivial)) fun rec _ => he rec
theorem LoopW.findI {step : Int → (Int → Prop) → Prop} (n : Nat) (p : Nat → Bool) (h : ∀ (k : Nat) rec, k < n → (∀ j, j < k → p j = false) → (p k = false → rec ((k : Int) + 1)) → step (k : Int) rec)
    (he : ∀ rec, (∀ j, j < n → p j = false) → step (n : Int) rec) : LoopW step 0 :=
  LoopW.upI n (fun k => (k : Int)) (fun k => ∀ j, j < k → p j = false) rfl (fun j hj => absurd hj (Nat.not_lt_zero j)) (fun k rec hk hI hr => h k rec hk hI fun hp => hr (fun j hj => by
    rcases Nat.lt_or_ge j k with h2 | h2
    · exact hI j h2
    · obtain rfl : j = k := by omega
      exact hp) _ rfl) he
theorem len_snoc {α : Type} (xs : List α) (x : α) : (xs ++ [x]).length = xs.length + 1 := by simp
theorem lenT {α : Type} {xs : List α} {k : Nat} (h : k ≤ xs.length) : (xs.take k).length = k := by rw [List.length_take]; omega
theorem take_all {α : Type} (xs : List α) : xs.take xs.length = xs := List.take_length
theorem map_take_snoc {α β : Type} [Dt α] {xs : List α} {k : Nat} (f : α → β) (h : k < xs.length) : (xs.take (k + 1)).map f = (xs.take k).map f ++ [f (ix xs (k : Int))] := by rw [take_ix h, List.map_append]; rfl
theorem LoopW.errI {S : Type} {step : S → (S → Prop) → Prop} (n : Nat) (st : Nat → S) (f : Nat → Int) {Ψ : Int → Prop} {s : S} (hs : s = st 0) (hΨ : Ψ (firstN f n))
    (h : ∀ (k : Nat) rec, k < n → (∀ j, j < k → f j = 0) → (f k ≠ 0 → Ψ (f k)) → (f k = 0 → ∀ s, s = st (k + 1) → rec s) → step (st k) rec) (he : ∀ rec, (∀ j, j < n → f j = 0) → Ψ 0 → step (st n) rec) : LoopW step s :=
  LoopW.upI n st (fun k => ∀ j, j < k → f j = 0) hs (fun j hj => absurd hj (Nat.not_lt_zero j)) (fun k rec hk hI hr => h k rec hk hI (fun h1 => by rw [firstN_hit hk hI h1] at hΨ; exact hΨ) fun h0 => hr fun j hj => by
    rcases Nat.lt_or_ge j k with h2 | h2
    · exact hI j h2
    · obtain rfl : j = k := by omega
      exact h0) fun rec hI => he rec hI (by rw [firstN_zero.2 hI] at hΨ; exact hΨ)
def wrM (m : List (coalesce_place × Sec)) (v s : Int) : List Sec → List (coalesce_place × Sec)
  | [] => m
  | d :: r => wrM (mput m ⟨v, s⟩ d) v (s + 1) r
theorem wrM_snoc {v : Int} {d : Sec} : ∀ (l : List Sec) (m : List (coalesce_place × Sec)) (s : Int), wrM m v s (l ++ [d]) = mput (wrM m v s l) ⟨v, s + (l.length : Int)⟩ d
  | [], m, s => by
    show mput m ⟨v, s⟩ d = mput m ⟨v, s + 0⟩ d
    rw [Int.add_zero]
  | x :: l, m, s => by
    rw [List.cons_append, wrM, wrM, wrM_snoc l, show s + 1 + (l.length : Int) = s + ((x :: l).length : Int) by rw [List.length_cons]; omega]
def effM (l : List api_Write) : List (coalesce_place × Sec) := l.foldl (fun m w => wrM m w.Volume w.Start w.Data) []
theorem effM_snoc (l : List api_Write) (w : api_Write) : effM (l ++ [w]) = wrM (effM l) w.Volume w.Start w.Data := by simp [effM]
theorem mput_len {κ ν : Type} [DecidableEq κ] (k : κ) (v : ν) : ∀ m : List (κ × ν), (mput m k v).length ≤ m.length + 1
  | [] => by simp [mput]
  | p :: r => by
    unfold mput
    split
    · simp
    · have := mput_len k v r
      simp only [List.length_cons]; omega
theorem wrM_len {v : Int} : ∀ (l : List Sec) (m : List (coalesce_place × Sec)) (s : Int), (wrM m v s l).length ≤ m.length + l.length
  | [], m, s => Nat.le_refl _
  | d :: r, m, s => by
    have h1 := wrM_len (v := v) r (mput m ⟨v, s⟩ d) (s + 1)
    have h2 := mput_len (⟨v, s⟩ : coalesce_place) d m
    rw [wrM, List.length_cons]; omega
theorem effM_len {c : Nat} : ∀ (l : List api_Write) (m : List (coalesce_place × Sec)), (∀ w ∈ l, w.Data.length ≤ c) → (l.foldl (fun m w => wrM m w.Volume w.Start w.Data) m).length ≤ m.length + l.length * c
  | [], m, _ => by simp
  | w :: l, m, h => by
    have h1 := effM_len l (wrM m w.Volume w.Start w.Data) fun x hx => h x (List.mem_cons_of_mem _ hx)
    have h2 := wrM_len (v := w.Volume) w.Data m w.Start
    have h3 := h w (List.mem_cons_self ..)
    rw [List.foldl_cons, List.length_cons, Nat.succ_mul]; omega
theorem mput_all {κ ν : Type} [DecidableEq κ] {p : κ → Prop} {k : κ} {v : ν} (hk : p k) : ∀ {m : List (κ × ν)}, (∀ q ∈ m, p q.1) → ∀ q ∈ mput m k v, p q.1
  | [], _, q, hq => by
    obtain rfl : q = (k, v) := by simpa [mput] using hq
    exact hk
  | a :: r, h, q, hq => by
    unfold mput at hq
    split at hq
    · rcases List.mem_cons.1 hq with rfl | hq
      · exact h a (List.mem_cons_self ..)
      · exact h q (List.mem_cons_of_mem _ hq)
    · rcases List.mem_cons.1 hq with rfl | hq
      · exact h _ (List.mem_cons_self ..)
      · exact mput_all hk (fun q hq => h q (List.mem_cons_of_mem _ hq)) q hq
theorem wrM_all {p : coalesce_place → Prop} {v : Int} : ∀ (l : List Sec) (m : List (coalesce_place × Sec)) (s : Int), (∀ j : Nat, j < l.length → p ⟨v, s + (j : Int)⟩) → (∀ q ∈ m, p q.1) → ∀ q ∈ wrM m v s l, p q.1
  | [], m, s, _, h => h
  | d :: r, m, s, hp, h => by
    refine wrM_all r _ (s + 1) (fun j hj => ?_) (mput_all ?_ h)
    · have := hp (j + 1) (by rw [List.length_cons]; omega)
      rwa [show s + ((j + 1 : Nat) : Int) = s + 1 + (j : Int) by omega] at this
    · have := hp 0 (by rw [List.length_cons]; omega)
      rwa [show s + ((0 : Nat) : Int) = s by omega] at this
def placedR (w : api_Write) : Int := if w.Volume < 0 ∨ 8 ≤ w.Volume then 7 else if w.Data.length = 0 then 1 else if w.Start < 0 ∨ 4096 - (w.Data.length : Int) < w.Start then 2 else 0
theorem placed0 {w : api_Write} (h : placedR w = 0) : 0 ≤ w.Volume ∧ w.Volume < 8 ∧ 0 < w.Data.length ∧ 0 ≤ w.Start ∧ w.Start + (w.Data.length : Int) ≤ 4096 := by
  unfold placedR at h
  split at h
  · omega
  · split at h
    · omega
    · split at h
      · omega
      · omega
theorem placed_W {w : api_Write} (hl : w.Data.length ≤ 1000000) {Φ : Int → Prop} (h : Φ (placedR w)) : Z17 w Φ := by
  unfold placedR at h
  have J : ∀ b : Bool, (b = true ↔ w.Volume < 0 ∨ 8 ≤ w.Volume) → Z16 w Φ b := fun b hb => by
    refine ⟨fun e => by rw [if_pos (hb.1 e)] at h; exact h, fun e => ?_⟩
    rw [if_neg fun q => e (hb.2 q)] at h
    refine ⟨fun q => by rw [if_pos (by omega)] at h; exact h, fun q => ?_⟩
    rw [if_neg (by omega)] at h
    refine ⟨fun r => by rw [if_pos (.inl r)] at h; exact h, fun r => ⟨iI (by omega) (by omega), fun s => by rw [if_pos (.inr s)] at h; exact h, fun s => by rw [if_neg (by omega)] at h; exact h⟩⟩
  exact ⟨fun q => J true ⟨fun _ => .inl q, fun _ => rfl⟩, fun q => J _ (by simp; omega)⟩
def PlL (l : List api_Write) : Prop := ∀ w ∈ l, placedR w = 0
theorem effM_place {l : List api_Write} (h : PlL l) : ∀ q ∈ effM l, 0 ≤ q.1.volume ∧ q.1.volume < 8 ∧ 0 ≤ q.1.sector ∧ q.1.sector < 4096 := by
  have key : ∀ (l : List api_Write) (m : List (coalesce_place × Sec)), PlL l → (∀ q ∈ m, 0 ≤ q.1.volume ∧ q.1.volume < 8 ∧ 0 ≤ q.1.sector ∧ q.1.sector < 4096) → ∀ q ∈ l.foldl (fun m w => wrM m w.Volume w.Start w.Data) m, 0 ≤ q.1.volume ∧ q.1.volume < 8 ∧ 0 ≤ q.1.sector ∧ q.1.sector < 4096 := by
    intro l
    induction l with
    | nil => intro m _ h; exact h
    | cons w l ih =>
      intro m h hm
      have := placed0 (h w (List.mem_cons_self ..))
      exact ih _ (fun x hx => h x (List.mem_cons_of_mem _ hx)) (wrM_all (p := fun c => 0 ≤ c.volume ∧ c.volume < 8 ∧ 0 ≤ c.sector ∧ c.sector < 4096) _ _ _ (fun j hj => ⟨by show 0 ≤ w.Volume; omega, by show w.Volume < 8; omega, by show 0 ≤ w.Start + (j : Int); omega, by show w.Start + (j : Int) < 4096; omega⟩) hm)
  exact key l [] h fun q hq => by cases hq
def clsW (xs : List api_Write) (ys : List Sec) : List api_Write := put xs ((xs.length : Int) - 1) ⟨(ix xs ((xs.length : Int) - 1)).Volume, (ix xs ((xs.length : Int) - 1)).Start, ys⟩
def grpS (m : List (coalesce_place × Sec)) (st : coalesce_place × List api_Write × List Sec) (p : coalesce_place) : coalesce_place × List api_Write × List Sec :=
  if p ≠ st.1 then (⟨p.volume, p.sector + 1⟩, clsW st.2.1 st.2.2 ++ [⟨p.volume, p.sector, []⟩], [] ++ [mget m p sec0]) else (⟨p.volume, p.sector + 1⟩, st.2.1, st.2.2 ++ [mget m p sec0])
def grpL (m : List (coalesce_place × Sec)) (l : List coalesce_place) : coalesce_place × List api_Write × List Sec := l.foldl (grpS m) (⟨-1, 0⟩, [], [])
theorem grpL_snoc (m : List (coalesce_place × Sec)) (l : List coalesce_place) (p : coalesce_place) : grpL m (l ++ [p]) = grpS m (grpL m l) p := by simp [grpL]
def canL (m : List (coalesce_place × Sec)) : List api_Write := clsW (grpL m (sortG pleB (m.map (·.1)))).2.1 (grpL m (sortG pleB (m.map (·.1)))).2.2
theorem clsW_len (xs : List api_Write) (ys : List Sec) : (clsW xs ys).length = xs.length := put_len _ _ _
theorem snocInd {α : Type} {P : List α → Prop} (h0 : P []) (h1 : ∀ l x, P l → P (l ++ [x])) (l : List α) : P l := by
  rw [← List.reverse_reverse l]
  induction l.reverse with
  | nil => exact h0
  | cons x r ih => rw [List.reverse_cons]; exact h1 _ _ ih
theorem nodup_len : ∀ (n : Nat) (l : List Nat), l.Nodup → (∀ i ∈ l, i < n) → l.length ≤ n
  | 0, [], _, _ => Nat.le_refl _
  | 0, i :: _, _, h => absurd (h i (List.mem_cons_self ..)) (Nat.not_lt_zero i)
  | n + 1, l, hd, h => by
    by_cases hn : n ∈ l
    · have h1 := nodup_len n (l.erase n) (hd.erase n) fun i hi => by
        have h2 := (List.Nodup.mem_erase_iff hd).1 hi
        have h3 := h i h2.2
        have := h2.1
        omega
      rw [List.length_erase_of_mem hn] at h1
      omega
    · have h1 := nodup_len n l hd fun i hi => by
        have h3 := h i hi
        have : i ≠ n := by rintro rfl; exact hn hi
        omega
      omega
theorem grpL_len (m : List (coalesce_place × Sec)) : ∀ l : List coalesce_place, (grpL m l).2.1.length ≤ l.length ∧ (grpL m l).2.2.length ≤ l.length ∧ (l ≠ [] → (∀ p ∈ l, p ≠ ⟨-1, 0⟩) → 0 < (grpL m l).2.1.length) := by
  refine snocInd ⟨Nat.le_refl _, Nat.le_refl _, fun h => absurd rfl h⟩ fun l p ih => ?_
  obtain ⟨h1, h2, h3⟩ := ih
  rw [grpL_snoc, len_snoc]
  unfold grpS
  split
  · refine ⟨?_, ?_, fun _ _ => ?_⟩
    · simp only [List.length_append, clsW_len, List.length_singleton]; omega
    · simp only [List.length_append, List.length_nil, List.length_singleton]; omega
    · simp only [List.length_append, clsW_len, List.length_singleton]; omega
  · rename_i hp
    refine ⟨by simp only; omega, by simp only [List.length_append, List.length_singleton]; omega, fun _ hall => ?_⟩
    by_cases hl : l = []
    · subst hl
      exact absurd (Classical.not_not.1 hp) (hall p (by simp))
    · exact h3 hl fun q hq => hall q (List.mem_append_left _ hq)
theorem behind_W {p : coalesce_place} {Φ : coalesce_place → Prop} (h : inI (p.sector + 1)) (hΦ : Φ ⟨p.volume, p.sector + 1⟩) : Z18 p Φ := ⟨h, hΦ⟩
theorem group_W {m : List (coalesce_place × Sec)} {ps : List coalesce_place} {Φ : List api_Write × Int → Prop} (hb : ps.length ≤ 100000000) (hp : ∀ p ∈ ps, 0 ≤ p.volume ∧ p.volume < 8 ∧ 0 ≤ p.sector ∧ p.sector < 4096) (hΦ : Φ (clsW (grpL m ps).2.1 (grpL m ps).2.2, 0)) : LoopW (Z25 m ps Φ) (0, -1, 0, [], []) := by
  have lOk : ∀ {n : Nat}, n ≤ 100000001 → lenOk n 40 := fun h => ⟨by omega, by simp only [maxLen]; omega⟩
  have lOk8 : ∀ {n : Nat}, n ≤ 100000001 → lenOk n 8 := fun h => ⟨by omega, by simp only [maxLen]; omega⟩
  refine LoopW.upT ps.length (fun k => ((k : Int), (grpL m (ps.take k)).1.volume, (grpL m (ps.take k)).1.sector, (grpL m (ps.take k)).2.1, (grpL m (ps.take k)).2.2)) rfl (fun k rec hk hrec => ?_) fun rec => ?_
  · obtain ⟨l1, l2, l3⟩ := grpL_len m (ps.take k)
    rw [lenT (by omega)] at l1 l2
    have hmem : ix ps (k : Int) ∈ ps := ix_mem ⟨by omega, by omega⟩
    have hpl := hp _ hmem
    have hst : grpL m (ps.take (k + 1)) = grpS m (grpL m (ps.take k)) (ix ps (k : Int)) := by rw [take_ix hk, grpL_snoc]
    obtain ⟨n1, n2, n3⟩ := grpL_len m (ps.take (k + 1))
    have n4 := n3 (by rw [take_ix hk]; simp) (fun p hq => by
      have := hp p (List.mem_of_mem_take hq)
      rintro rfl
      simp at this)
    rw [lenT (by omega)] at n1 n2
    have J : ∀ xs ys, (⟨(ix ps (k : Int)).volume, (ix ps (k : Int)).sector + 1⟩, xs, ys ++ [mget m (ix ps (k : Int)) sec0]) = grpL m (ps.take (k + 1)) → Z24 m ps (k : Int) rec Φ (xs, ys) := fun xs ys e => by
      have e1 : xs = (grpL m (ps.take (k + 1))).2.1 := by rw [← e]
      have e2 : ys ++ [mget m (ix ps (k : Int)) sec0] = (grpL m (ps.take (k + 1))).2.2 := by rw [← e]
      refine ⟨iI (by omega) (by rw [e1]; omega), iX (by rw [e1]; omega) (by omega), by omega, lOk8 (by rw [e2]; omega), behind_W (iI (by omega) (by omega)) ⟨iI (by omega) (by omega), hrec _ ?_⟩⟩
      rw [← e]; rfl
    refine ⟨fun _ => ⟨iX (by omega) (by omega), ?_⟩, fun h => absurd (show (k : Int) < (ps.length : Int) by omega) h⟩
    show (ix ps (k : Int) ≠ _ → _) ∧ (¬ (ix ps (k : Int) ≠ _) → _)
    refine ⟨fun h => ⟨lOk ?_, J _ _ ?_⟩, fun h => J _ _ ?_⟩
    · have := clsW_len (grpL m (ps.take k)).2.1 (grpL m (ps.take k)).2.2
      unfold clsW at this
      rw [len_snoc, this]; omega
    · rw [hst]; unfold grpS; rw [if_pos h]; rfl
    · rw [hst]; unfold grpS; rw [if_neg h]
  · refine ⟨fun h => absurd h (by simp), fun _ => ?_⟩
    rw [show ps.take ps.length = ps from take_all ps]
    exact hΦ
theorem gather_W {m : List (coalesce_place × Sec)} {Φ : List api_Write × Int → Prop} (hb : m.length ≤ 100000000) (hp : ∀ q ∈ m, 0 ≤ q.1.volume ∧ q.1.volume < 8 ∧ 0 ≤ q.1.sector ∧ q.1.sector < 4096) (hΦ : Φ (canL m, 0)) : LoopW (Z26 m Φ) ((m.length, []), []) := by
  have hent : ∀ i, i < m.length → ent m i ∈ m := fun i hi => by
    unfold ent
    rw [List.getD_eq_getElem?_getD, List.getElem?_eq_getElem hi]
    exact List.getElem_mem hi
  refine LoopW.of_inv (fun s => s.1.1 = m.length ∧ s.1.2.Nodup ∧ (∀ i ∈ s.1.2, i < m.length) ∧ s.2 = s.1.2.reverse.map fun i => (ent m i).1) (fun s => m.length - s.1.2.length) ?_ ⟨rfl, List.nodup_nil, (fun _ h => by cases h), rfl⟩
  rintro ⟨⟨n, seen⟩, ps⟩ rec ⟨h1, h2, h3, h4⟩ hrec
  simp only at h1 h2 h3 h4
  subst h1 h4
  have hle : seen.length ≤ m.length := nodup_len _ _ h2 h3
  refine ⟨rfl, fun hall => ?_, fun i hi hni => ⟨rfl, hi, ?_, hrec _ ⟨rfl, List.nodup_cons.2 ⟨hni, h2⟩, fun j hj => ?_, ?_⟩ ?_⟩⟩
  · have hperm : seen.Perm (List.range m.length) := (List.perm_ext_iff_of_nodup h2 List.nodup_range).2 fun i => ⟨fun hi => List.mem_range.2 (h3 i hi), fun hi => hall i (List.mem_range.1 hi)⟩
    have hmap : (List.range m.length).map (fun i => (ent m i).1) = m.map (·.1) := by
      apply List.ext_getElem
      · simp
      · intro i hi1 hi2
        have hi : i < m.length := by simpa using hi2
        simp only [List.getElem_map, List.getElem_range]
        unfold ent
        rw [List.getD_eq_getElem?_getD, List.getElem?_eq_getElem hi]
        rfl
    have hp2 : (seen.reverse.map fun i => (ent m i).1).Perm (m.map (·.1)) := by
      rw [← hmap]
      exact ((List.reverse_perm seen).trans hperm).map _
    have hsort : sortG pleB (seen.reverse.map fun i => (ent m i).1) = sortG pleB (m.map (·.1)) := sortG_of ple_total ple_trans ple_anti ((sortG_perm pleB _).trans hp2) (sortG_sorted ple_total ple_trans _)
    refine ⟨by rw [hp2.length_eq, List.length_map]; omega, ?_⟩
    rw [hsort]
    have hlen : (sortG pleB (m.map (·.1))).length = m.length := by rw [(sortG_perm pleB _).length_eq, List.length_map]
    refine group_W (by rw [hlen]; exact hb) (fun p hp' => ?_) hΦ
    obtain ⟨q, hq, rfl⟩ := List.mem_map.1 ((sortG_perm pleB _).mem_iff.1 hp')
    exact hp q hq
  · refine ⟨?_, ?_⟩
    · rw [len_snoc, List.length_map, List.length_reverse]; omega
    · rw [len_snoc, List.length_map, List.length_reverse]; simp only [maxLen]; omega
  · rcases List.mem_cons.1 hj with rfl | hj
    · exact hi
    · exact h3 j hj
  · simp
  · have h6 : (i :: seen).length ≤ m.length := nodup_len _ _ (List.nodup_cons.2 ⟨hni, h2⟩) fun j hj => by
      rcases List.mem_cons.1 hj with rfl | hj
      · exact hi
      · exact h3 j hj
    show m.length - (i :: seen).length < m.length - seen.length
    rw [List.length_cons] at h6 ⊢
    omega
theorem effect_W {l : List api_Write} {Φ : List api_Write × Int → Prop} (hl : l.length ≤ 20000) (hp : PlL l) (hΦ : Φ (canL (effM l), 0)) : LoopW (Z27 l Φ) (0, []) := by
  have hpl : ∀ k, k < l.length → placedR (ix l (k : Int)) = 0 := fun k hk => hp _ (ix_mem ⟨by omega, by omega⟩)
  have hlen : (effM l).length ≤ 100000000 := by
    have := effM_len (c := 4096) l [] fun w hw => by have := placed0 (hp w hw); omega
    have h2 := Nat.mul_le_mul_right 4096 hl
    show (l.foldl _ []).length ≤ _
    simp only [List.length_nil] at this
    omega
  refine LoopW.upT l.length (fun k => ((k : Int), effM (l.take k))) rfl (fun k rec hk hrec => ?_) fun rec => ?_
  · refine ⟨fun _ => ⟨iX (by omega) (by omega), ?_⟩, fun h => absurd (show (k : Int) < (l.length : Int) by omega) h⟩
    obtain ⟨a1, a2, a3, a4, a5⟩ := placed0 (hpl k hk)
    have hrec := hrec _ rfl
    rw [take_ix hk, effM_snoc] at hrec
    refine LoopW.upT (ix l (k : Int)).Data.length (fun j => ((j : Int), (ix l (k : Int)).Volume, (ix l (k : Int)).Start + (j : Int), wrM (effM (l.take k)) (ix l (k : Int)).Volume (ix l (k : Int)).Start ((ix l (k : Int)).Data.take j))) (by simp [wrM]) (fun j rec3 hj h3 => ?_) fun rec3 => ?_
    · refine ⟨fun _ => ⟨iX (by omega) (by omega), behind_W (iI (by show _ ≤ (ix l (k : Int)).Start + (j : Int) + 1; omega) (by show (ix l (k : Int)).Start + (j : Int) + 1 ≤ _; omega)) ⟨iI (by omega) (by omega), h3 _ ?_⟩⟩, fun h => absurd (show (j : Int) < ((ix l (k : Int)).Data.length : Int) by omega) h⟩
      rw [take_ix hj, wrM_snoc, lenT (by omega)]
      rw [show (ix l (k : Int)).Start + ((j + 1 : Nat) : Int) = (ix l (k : Int)).Start + (j : Int) + 1 by omega]
      rfl
    · refine ⟨fun h => absurd h (by simp), fun _ => ⟨iI (by omega) (by omega), ?_⟩⟩
      rw [show (ix l (k : Int)).Data.take (ix l (k : Int)).Data.length = (ix l (k : Int)).Data from take_all _]
      exact hrec
  · refine ⟨fun h => absurd h (by simp), fun _ => ?_⟩
    rw [show l.take l.length = l from take_all l]
    exact ⟨by omega, ⟨by rw [Int.toNat_natCast]; omega, by rw [Int.toNat_natCast]; simp only [maxLen]; omega⟩, gather_W hlen (effM_place hp) hΦ⟩
def foldR (l : List api_Write) : List api_Write × Int := if firstN (fun k => placedR (ix l (k : Int))) l.length ≠ 0 then ([], firstN (fun k => placedR (ix l (k : Int))) l.length) else (canL (effM l), 0)
theorem coalesce_Fold_ok {l : List api_Write} {Φ : List api_Write × Int → Prop} (hl : l.length ≤ 20000) (hd : ∀ w ∈ l, w.Data.length ≤ 1000000) (hΦ : Φ (foldR l)) : Z29 l Φ := by
  unfold foldR at hΦ
  refine LoopW.errI l.length (fun k => (k : Int)) (fun k => placedR (ix l (k : Int))) (Ψ := fun e => Φ (if e ≠ 0 then ([], e) else (canL (effM l), 0))) rfl hΦ (fun k rec hk hI h1 h0 => ?_) fun rec hI h0 => ?_
  · refine ⟨fun _ => ⟨iX (by omega) (by omega), placed_W (hd _ (ix_mem ⟨by omega, by omega⟩)) ⟨fun e => ?_, fun e => ⟨iI (by omega) (by omega), h0 (Classical.not_not.1 e) _ rfl⟩⟩⟩, fun h => absurd (show (k : Int) < (l.length : Int) by omega) h⟩
    have := h1 e
    rwa [if_pos e] at this
  · refine ⟨fun h => absurd h (by simp), fun _ => ?_⟩
    rw [if_neg (by simp)] at h0
    refine effect_W hl (fun w hw => ?_) h0
    obtain ⟨k, hk, rfl⟩ := List.getElem_of_mem hw
    have := hI k hk
    rwa [ix_get hk] at this
def smallL (l : List api_Write) : Bool := decide (l.length ≤ 20000) && l.all fun w => decide (w.Data.length ≤ 1000000)
theorem smallL_ok {l : List api_Write} (h : smallL l = true) : l.length ≤ 20000 ∧ ∀ w ∈ l, w.Data.length ≤ 1000000 := by
  unfold smallL at h
  rw [Bool.and_eq_true] at h
  exact ⟨of_decide_eq_true h.1, fun w hw => of_decide_eq_true (List.all_eq_true.1 h.2 w hw)⟩
def Z90 (l : List api_Write) : Option (List api_Write × Int) := if smallL l = true then some (foldR l) else none
theorem coalesce_Fold_sound (l : List api_Write) {Φ : List api_Write × Int → Prop} {o} (h : Z90 l = some o) (hK : Φ o) : Z29 l Φ := by
  unfold Z90 at h
  split at h
  · rename_i hs
    cases h
    obtain ⟨h1, h2⟩ := smallL_ok hs
    exact coalesce_Fold_ok h1 h2 hK
  · cases h
def ordE (l : List api_Write) (k : Nat) : Int := if placedR (ix l (k : Int)) ≠ 0 then placedR (ix l (k : Int)) else if k = 0 then 0 else if (ix l (k : Int)).Volume < (ix l ((k : Int) - 1)).Volume ∨ (ix l (k : Int)).Volume = (ix l ((k : Int) - 1)).Volume ∧ (ix l (k : Int)).Start ≤ (ix l ((k : Int) - 1)).Start + ((ix l ((k : Int) - 1)).Data.length : Int) then 3 else 0
def canE (l : List api_Write) : Int := firstN (ordE l) l.length
theorem canE_pl {l : List api_Write} (h : canE l = 0) : PlL l := fun w hw => by
  obtain ⟨k, hk, rfl⟩ := List.getElem_of_mem hw
  have := firstN_zero.1 h k hk
  unfold ordE at this
  rw [ix_get hk] at this
  split at this
  · rename_i h1; exact absurd this h1
  · rename_i h1; exact Classical.not_not.1 h1
def mergeR (a b : List api_Write) : List api_Write × Int := if canE a ≠ 0 then ([], canE a) else if canE b ≠ 0 then ([], canE b) else (canL (effM (a ++ b)), 0)
theorem concat_ok {a b : List api_Write} {Φ : List api_Write → Prop} (ha : a.length ≤ 10000) (hb : b.length ≤ 10000) (hΦ : Φ (a ++ b)) : Z58 [a, b] Φ := by
  have J : ∀ v3 : List api_Write, v3 = [] → Z56 [a, b] Φ v3 := by
    rintro _ rfl
    refine ⟨3, ⟨fun _ => ⟨⟨by decide, by simp⟩, iL (by show (([] : List api_Write) ++ a).length ≤ _; rw [List.nil_append]; omega) (by decide), iI (by decide) (by decide), ⟨fun _ => ⟨⟨by decide, by simp⟩, iL (by show ((([] : List api_Write) ++ a) ++ b).length ≤ _; rw [List.nil_append, List.length_append]; omega) (by decide), iI (by decide) (by decide), ⟨fun h => absurd h (by simp), fun _ => hΦ⟩⟩, fun h => absurd (show (0 + 1 : Int) < _ by simp) h⟩⟩, fun h => absurd (show (0 : Int) < _ by simp) h⟩⟩
  refine LoopW.upT 2 (fun k => ((match k with | 0 => (0 : Int) | 1 => (a.length : Int) | _ => (a.length : Int) + (b.length : Int)), (k : Int))) rfl (fun k rec hk hrec => ?_) fun rec => ?_
  · obtain rfl | rfl : k = 0 ∨ k = 1 := by omega
    · have e : (0 : Int) + (a.length : Int) = (a.length : Int) := by omega
      refine ⟨fun _ => ⟨⟨by decide, by simp⟩, iI (by show _ ≤ (0 : Int) + (a.length : Int); omega) (by show (0 : Int) + (a.length : Int) ≤ _; omega), fun h => absurd (show (0 : Int) + (a.length : Int) < 0 from h) (by omega), fun _ => ⟨iI (by decide) (by decide), hrec _ ?_⟩⟩, fun h => absurd (show (0 : Int) < _ by simp) h⟩
      show ((0 : Int) + (a.length : Int), _) = ((a.length : Int), _)
      rw [e]; rfl
    · refine ⟨fun _ => ⟨⟨by decide, by simp⟩, iI (by show _ ≤ (a.length : Int) + (b.length : Int); omega) (by show (a.length : Int) + (b.length : Int) ≤ _; omega), fun h => absurd (show (a.length : Int) + (b.length : Int) < 0 from h) (by omega), fun _ => ⟨iI (by decide) (by decide), hrec _ rfl⟩⟩, fun h => absurd (show (1 : Int) < _ by simp) h⟩
  · refine ⟨fun h => absurd (show (2 : Int) < (2 : Int) from h) (by decide), fun _ => ?_⟩
    refine ⟨fun h => absurd (show (a.length : Int) + (b.length : Int) < 0 from h) (by omega), fun _ => ⟨iI (by decide) (by decide), iI (by show _ ≤ (a.length : Int) + (b.length : Int) - ((0 : Int) - 0); omega) (by show (a.length : Int) + (b.length : Int) - ((0 : Int) - 0) ≤ _; omega), fun h => ⟨rfl, h, ⟨?_, ?_⟩, iS (by decide) (by decide) (by omega), J _ (by simp [sub])⟩, fun _ => J _ rfl⟩⟩
    · show ((a.length : Int) + (b.length : Int) - ((0 : Int) - 0)).toNat * 40 ≤ _
      omega
    · show ((a.length : Int) + (b.length : Int) - ((0 : Int) - 0)).toNat ≤ _
      simp only [maxLen]; omega
theorem canE_W {a b : List api_Write} {i : Int} {l : List api_Write} (hl : ix ([a, b] : List (List api_Write)) i = l) (hn : l.length ≤ 1000000) (hd : ∀ w ∈ l, w.Data.length ≤ 1000000) {rec1 : Int → Prop} {Φ : List api_Write × Int → Prop} (h : Z59 i rec1 Φ (canE l)) : LoopW (Z60 a b i rec1 Φ) 0 := by
  have hdk : ∀ k : Nat, k < l.length → (ix l (k : Int)).Data.length ≤ 1000000 := fun k hk => hd _ (ix_mem ⟨by omega, by omega⟩)
  refine LoopW.errI l.length (fun k => (k : Int)) (ordE l) (Ψ := Z59 i rec1 Φ) rfl h (fun k rec hk hI h1 h0 => ?_) fun rec hI h0 => ?_
  · unfold Z60
    rw [hl]
    refine ⟨fun _ => ⟨iX (by omega) (by omega), placed_W (hdk k hk) ⟨fun e => ?_, fun e => ?_⟩⟩, fun h => absurd (show (k : Int) < (l.length : Int) by omega) h⟩
    · have e2 : ordE l k = placedR (ix l (k : Int)) := by unfold ordE; rw [if_pos e]
      have := h1 (by rw [e2]; exact e)
      rwa [e2] at this
    · refine ⟨fun z => ⟨iI (by omega) (by omega), h0 ?_ _ rfl⟩, fun z => ?_⟩
      · unfold ordE; rw [if_neg e, if_pos (by omega)]
      · have hk1 : ix l ((k : Int) - 1) = ix l ((k - 1 : Nat) : Int) := by rw [show (k : Int) - 1 = ((k - 1 : Nat) : Int) by omega]
        have hp1 := hI (k - 1) (by omega)
        have hpl : placedR (ix l ((k : Int) - 1)) = 0 := by
          rw [hk1]
          unfold ordE at hp1
          split at hp1
          · rename_i q; exact absurd hp1 q
          · rename_i q; exact Classical.not_not.1 q
        obtain ⟨b1, b2, b3, b4, b5⟩ := placed0 hpl
        have bad : ((ix l (k : Int)).Volume < (ix l ((k : Int) - 1)).Volume ∨ (ix l (k : Int)).Volume = (ix l ((k : Int) - 1)).Volume ∧ (ix l (k : Int)).Start ≤ (ix l ((k : Int) - 1)).Start + ((ix l ((k : Int) - 1)).Data.length : Int)) → Z59 i rec1 Φ 3 := fun q => by
          have e2 : ordE l k = 3 := by unfold ordE; rw [if_neg e, if_neg (by omega), if_pos q]
          have := h1 (by rw [e2]; decide)
          rwa [e2] at this
        have good : ¬ ((ix l (k : Int)).Volume < (ix l ((k : Int) - 1)).Volume ∨ (ix l (k : Int)).Volume = (ix l ((k : Int) - 1)).Volume ∧ (ix l (k : Int)).Start ≤ (ix l ((k : Int) - 1)).Start + ((ix l ((k : Int) - 1)).Data.length : Int)) → rec ((k : Int) + 1) := fun q => h0 (by unfold ordE; rw [if_neg e, if_neg (by omega), if_neg q]) _ rfl
        refine ⟨iI (by omega) (by omega), iX (by omega) (by omega), fun q => bad (.inl q), fun q => ⟨fun r => ⟨iI (by omega) (by omega), fun s => bad (.inr ⟨r, s⟩), fun s => ⟨iI (by omega) (by omega), good fun t => ?_⟩⟩, fun r => ⟨iI (by omega) (by omega), good fun t => ?_⟩⟩⟩
        · rcases t with t | t
          · exact q t
          · exact s t.2
        · rcases t with t | t
          · exact q t
          · exact r t.1
  · unfold Z60
    rw [hl]
    exact ⟨fun h => absurd h (by simp), fun _ => h0⟩
theorem coalesce_Merge_ok {a b : List api_Write} {Φ : List api_Write × Int → Prop} (ha : a.length ≤ 10000) (hb : b.length ≤ 10000) (hda : ∀ w ∈ a, w.Data.length ≤ 1000000) (hdb : ∀ w ∈ b, w.Data.length ≤ 1000000) (hΦ : Φ (mergeR a b)) : Z67 a b Φ := by
  unfold mergeR at hΦ
  refine ⟨3, ⟨fun _ => ⟨⟨by decide, by simp⟩, canE_W (l := a) rfl (by omega) hda ⟨fun e => by rw [if_pos e] at hΦ; exact hΦ, fun e => ⟨iI (by decide) (by decide), ?_⟩⟩⟩, fun h => absurd (show (0 : Int) < _ by simp) h⟩⟩
  rw [if_neg e] at hΦ
  refine ⟨fun _ => ⟨⟨by decide, by simp⟩, canE_W (l := b) rfl (by omega) hdb ⟨fun e => by rw [if_pos e] at hΦ; exact hΦ, fun e2 => ⟨iI (by decide) (by decide), ?_⟩⟩⟩, fun h => absurd (show (0 + 1 : Int) < _ by simp) h⟩
  rw [if_neg e2] at hΦ
  refine ⟨fun h => absurd h (by simp), fun _ => concat_ok ha hb ?_⟩
  refine effect_W (by rw [List.length_append]; omega) (fun w hw => ?_) hΦ
  rcases List.mem_append.1 hw with hw | hw
  · exact canE_pl (Classical.not_not.1 e) w hw
  · exact canE_pl (Classical.not_not.1 e2) w hw
def Z91 (a b : List api_Write) : Option (List api_Write × Int) := if (decide (a.length ≤ 10000 ∧ b.length ≤ 10000) && (smallL a && smallL b)) = true then some (mergeR a b) else none
theorem coalesce_Merge_sound (a b : List api_Write) {Φ : List api_Write × Int → Prop} {o} (h : Z91 a b = some o) (hK : Φ o) : Z67 a b Φ := by
  unfold Z91 at h
  split at h
  · rename_i hs
    cases h
    simp only [Bool.and_eq_true] at hs
    have h0 := of_decide_eq_true hs.1
    exact coalesce_Merge_ok h0.1 h0.2 (smallL_ok hs.2.1).2 (smallL_ok hs.2.2).2 hK
  · cases h
def sizesE (l : List Int) : Int := if (l.length : Int) < 1 ∨ 8 < (l.length : Int) then 6 else firstN (fun k => if ix l (k : Int) < 1 ∨ 4096 < ix l (k : Int) then 2 else 0) l.length
def szs (im : List (List Sec)) : List Int := im.map fun v => (v.length : Int)
def imgE (im : List (List Sec)) : Int := sizesE (szs im)
theorem szs_len (im : List (List Sec)) : (szs im).length = im.length := by unfold szs; rw [List.length_map]
theorem ix_szs {im : List (List Sec)} {k : Nat} (h : k < im.length) : ix (szs im) (k : Int) = ((ix im (k : Int)).length : Int) := by
  rw [ix_get (by rw [szs_len]; exact h), ix_get h]; unfold szs; rw [List.getElem_map]
theorem sizesE_len {l : List Int} (h : sizesE l = 0) : 1 ≤ l.length ∧ l.length ≤ 8 := by
  unfold sizesE at h
  by_cases hl : (l.length : Int) < 1 ∨ 8 < (l.length : Int)
  · rw [if_pos hl] at h; cases h
  · omega
theorem sizesE_ix {l : List Int} (h : sizesE l = 0) {k : Nat} (hk : k < l.length) : 1 ≤ ix l (k : Int) ∧ ix l (k : Int) ≤ 4096 := by
  unfold sizesE at h
  by_cases hl : (l.length : Int) < 1 ∨ 8 < (l.length : Int)
  · rw [if_pos hl] at h; cases h
  · rw [if_neg hl] at h
    have := firstN_zero.1 h k hk
    by_cases q : ix l (k : Int) < 1 ∨ 4096 < ix l (k : Int)
    · rw [if_pos q] at this; cases this
    · omega
theorem ref07_Sizes_ok {l : List Int} {Φ : Int → Prop} (hΦ : Φ (sizesE l)) : ref07_Sizes_W l Φ := by
  unfold sizesE at hΦ
  by_cases h : (l.length : Int) < 1 ∨ 8 < (l.length : Int)
  · rw [if_pos h] at hΦ
    exact ⟨fun _ => hΦ, fun _ => ⟨fun _ => hΦ, fun _ => by omega⟩⟩
  · rw [if_neg h] at hΦ
    refine ⟨fun _ => by omega, fun _ => ⟨fun _ => by omega, fun _ => ?_⟩⟩
    refine LoopW.errI l.length (fun k => (k : Int)) _ rfl hΦ (fun k rec hk _ h1 h2 => ?_) fun rec _ h0 => ⟨fun _ => by omega, fun _ => h0⟩
    refine ⟨fun _ => ⟨iX (by omega) (by omega), fun q => ?_, fun q => ⟨iX (by omega) (by omega), fun r => ?_, fun r => ⟨iI (by omega) (by omega), h2 (if_neg (by omega)) _ rfl⟩⟩⟩, fun _ => by omega⟩
    · have := h1 (by rw [if_pos (.inl q)]; omega)
      rw [if_pos (.inl q)] at this; exact this
    · have := h1 (by rw [if_pos (.inr r)]; omega)
      rw [if_pos (.inr r)] at this; exact this
theorem image_checkSizes_ok {l : List Int} {Φ : Int → Prop} (hΦ : Φ (sizesE l)) : Z2 l Φ := by
  unfold sizesE at hΦ
  by_cases h : (l.length : Int) < 1 ∨ 8 < (l.length : Int)
  · rw [if_pos h] at hΦ
    exact ⟨fun _ => hΦ, fun _ => ⟨fun _ => hΦ, fun _ => by omega⟩⟩
  · rw [if_neg h] at hΦ
    refine ⟨fun _ => by omega, fun _ => ⟨fun _ => by omega, fun _ => ?_⟩⟩
    refine LoopW.errI l.length (fun k => (k : Int)) _ rfl hΦ (fun k rec hk _ h1 h2 => ?_) fun rec _ h0 => ⟨fun _ => by omega, fun _ => ⟨fun _ => by omega, fun _ => h0⟩⟩
    have go : ∀ q : ix l (k : Int) < 1 ∨ 4096 < ix l (k : Int), Φ 2 := fun q => by
      have := h1 (by rw [if_pos q]; omega)
      rw [if_pos q] at this; exact this
    refine ⟨fun _ => ⟨iX (by omega) (by omega), fun q => ⟨fun _ => ⟨fun _ => go (.inl q), fun _ => by omega⟩, fun r => absurd rfl r⟩, fun q => ⟨fun r => ⟨fun _ => go (.inr (of_decide_eq_true r)), fun _ => by omega⟩, fun r => ⟨iI (by omega) (by omega), h2 (if_neg (by have := of_decide_eq_false (Bool.eq_false_iff.2 r); omega)) _ rfl⟩⟩⟩, fun _ => by omega⟩
theorem image_sizes_ok {im : List (List Sec)} {Φ : List Int → Prop} (hl : im.length ≤ 100000) (hΦ : Φ (szs im)) : image_sizes_W im Φ := by
  refine ⟨by omega, iL (by omega) (by omega), ?_⟩
  refine LoopW.upT im.length (fun k => ((k : Int), (im.take k).map fun v => (v.length : Int))) rfl (fun k rec hk hr => ?_) fun rec => ⟨fun _ => by omega, fun _ => by rw [take_all]; exact hΦ⟩
  refine ⟨fun _ => ⟨iX (by omega) (by omega), iL (by rw [len_snoc, List.length_map, lenT (by omega)]; omega) (by omega), iI (by omega) (by omega), hr _ (by rw [map_take_snoc _ hk]; rfl)⟩, fun _ => by omega⟩
theorem image_Check_ok {im : List (List Sec)} {Φ : Int → Prop} (hl : im.length ≤ 100000) (hΦ : Φ (imgE im)) : image_Check_W im Φ := image_sizes_ok hl (image_checkSizes_ok hΦ)
def zeroI (l : List Int) : List (List Sec) := l.map fun n => List.replicate n.toNat sec0
theorem zeroI_len (l : List Int) : (zeroI l).length = l.length := by unfold zeroI; rw [List.length_map]
theorem ix_zeroI {l : List Int} {k : Nat} (h : k < l.length) : ix (zeroI l) (k : Int) = List.replicate (ix l (k : Int)).toNat sec0 := by
  rw [ix_get (by rw [zeroI_len]; exact h), ix_get h]; unfold zeroI; rw [List.getElem_map]
theorem szs_zeroI {l : List Int} (h : sizesE l = 0) : szs (zeroI l) = l := by
  refine ext_ix (by rw [szs_len, zeroI_len]) fun k hk => ?_
  rw [szs_len, zeroI_len] at hk
  have := sizesE_ix h hk
  rw [ix_szs (by rw [zeroI_len]; exact hk), ix_zeroI hk, List.length_replicate]; omega
theorem image_New_ok {l : List Int} {Φ : List (List Sec) × Int → Prop} (h0 : sizesE l = 0 → Φ (zeroI l, 0)) (h1 : sizesE l ≠ 0 → Φ ([], sizesE l)) : image_New_W l Φ := by
  refine image_checkSizes_ok ⟨fun q => h1 q, fun q => ?_⟩
  have q : sizesE l = 0 := Classical.not_not.1 q
  have hl := sizesE_len q
  refine ⟨by omega, iL (by omega) (by omega), ?_⟩
  refine LoopW.upT l.length (fun k => ((k : Int), (l.take k).map fun n => List.replicate n.toNat sec0)) rfl (fun k rec hk hr => ?_) fun rec => ⟨fun _ => by omega, fun _ => by rw [take_all]; exact h0 q⟩
  have := sizesE_ix q hk
  refine ⟨fun _ => ⟨iX (by omega) (by omega), by omega, iL (by omega) (by omega), iL (by rw [len_snoc, List.length_map, lenT (by omega)]; omega) (by omega), iI (by omega) (by omega), hr _ (by rw [map_take_snoc _ hk]; rfl)⟩, fun _ => by omega⟩
def fitW (l : List Int) (w : api_Write) : Int := if w.Volume < 0 ∨ (l.length : Int) ≤ w.Volume then 7 else if (w.Data.length : Int) = 0 then 1 else if w.Start < 0 ∨ ix l w.Volume - w.Start < (w.Data.length : Int) then 2 else 0
theorem image_fits_ok {im : List (List Sec)} {w : api_Write} {Φ : Int → Prop} (hd : w.Data.length ≤ 1000000) (hv : ∀ k : Nat, k < im.length → (ix im (k : Int)).length ≤ 1000000) (hΦ : Φ (fitW (szs im) w)) : image_fits_W im w Φ := by
  unfold fitW at hΦ
  rw [szs_len] at hΦ
  show (_ → image_fits_J1 _ _ _ _) ∧ _
  have tail : ¬ (w.Volume < 0 ∨ (im.length : Int) ≤ w.Volume) → image_fits_J1 im w Φ false := fun q => by
    rw [if_neg q] at hΦ
    refine ⟨fun r => (Bool.noConfusion r), fun _ => ⟨fun r => by rw [if_pos (by omega)] at hΦ; exact hΦ, fun r => ?_⟩⟩
    rw [if_neg (by omega)] at hΦ
    obtain ⟨v, hw⟩ := Int.eq_ofNat_of_zero_le (show 0 ≤ w.Volume by omega)
    have hvl : v < im.length := by omega
    rw [hw, ix_szs hvl] at hΦ
    have := hv v hvl
    refine ⟨fun s => by rw [if_pos (.inl s)] at hΦ; exact hΦ, fun s => ⟨iX (by omega) (by omega), ?_⟩⟩
    rw [hw]
    exact ⟨iI (by omega) (by omega), fun t => by rw [if_pos (by omega)] at hΦ; exact hΦ, fun t => by rw [if_neg (by omega)] at hΦ; exact hΦ⟩
  refine ⟨fun q => ⟨fun _ => by rw [if_pos (.inl q)] at hΦ; exact hΦ, fun r => absurd rfl r⟩, fun q => ?_⟩
  by_cases r : (im.length : Int) ≤ w.Volume
  · rw [decide_eq_true r]
    exact ⟨fun _ => by rw [if_pos (.inr r)] at hΦ; exact hΦ, fun r => absurd rfl r⟩
  · rw [decide_eq_false r]; exact tail (by omega)
theorem ref07_FitsSizes_ok {l : List Int} {w : api_Write} {Φ : Int → Prop} (hd : w.Data.length ≤ 1000000) (hl : ∀ k : Nat, k < l.length → ix l (k : Int) ≤ 1000000) (hΦ : Φ (fitW l w)) : Z82 l w Φ := by
  unfold fitW at hΦ
  refine ⟨fun q => by rw [if_pos (.inl q)] at hΦ; exact hΦ, fun q => ⟨fun r => by rw [if_pos (.inr r)] at hΦ; exact hΦ, fun r => ?_⟩⟩
  rw [if_neg (by omega)] at hΦ
  refine ⟨fun s => by rw [if_pos (by omega)] at hΦ; exact hΦ, fun s => ?_⟩
  rw [if_neg (by omega)] at hΦ
  obtain ⟨v, hw⟩ := Int.eq_ofNat_of_zero_le (show 0 ≤ w.Volume by omega)
  have hvl : v < l.length := by omega
  have := hl v hvl
  rw [hw] at hΦ ⊢
  refine ⟨fun t => by rw [if_pos (.inl t)] at hΦ; exact hΦ, fun t => ⟨iX (by omega) (by omega), fun u => by rw [if_pos (by omega)] at hΦ; exact hΦ, fun u => ⟨iX (by omega) (by omega), iI (by omega) (by omega), fun x => by rw [if_pos (by omega)] at hΦ; exact hΦ, fun x => by rw [if_neg (by omega)] at hΦ; exact hΦ⟩⟩⟩
theorem szs_small {im : List (List Sec)} (h : imgE im = 0) (k : Nat) (hk : k < im.length) : (ix im (k : Int)).length ≤ 4096 := by
  have := sizesE_ix h (k := k) (by rw [szs_len]; exact hk)
  rw [ix_szs hk] at this; omega
theorem image_Fits_ok {im : List (List Sec)} {w : api_Write} {Φ : Int → Prop} (hd : w.Data.length ≤ 1000000) (h : imgE im = 0) (hΦ : Φ (fitW (szs im) w)) : image_Fits_W im w Φ := by
  have hl := sizesE_len h
  rw [szs_len] at hl
  exact image_Check_ok (by omega) ⟨fun q => absurd h q, fun _ => image_fits_ok hd (fun k hk => Nat.le_trans (szs_small h k hk) (by omega)) hΦ⟩
theorem sizes_ok {l : List Int} (h : ¬ sizesE l ≠ 0) : l.length ≤ 8 ∧ 1 ≤ l.length ∧ ∀ k : Nat, k < l.length → 1 ≤ ix l (k : Int) ∧ ix l (k : Int) ≤ 4096 := by
  have h0 := Classical.not_not.1 h
  unfold sizesE at h0
  split at h0
  · omega
  · refine ⟨by omega, by omega, fun k hk => ?_⟩
    have := firstN_zero.1 h0 k hk
    split at this <;> omega
theorem fitW_zero {sizes : List Int} {w : api_Write} (hs : ¬ sizesE sizes ≠ 0) (h : fitW sizes w = 0) : 0 ≤ w.Volume ∧ w.Volume < (sizes.length : Int) ∧ 1 ≤ w.Data.length ∧ 0 ≤ w.Start ∧ w.Start + (w.Data.length : Int) ≤ ix sizes w.Volume ∧ ix sizes w.Volume ≤ 4096 := by
  unfold fitW at h
  split at h
  · omega
  split at h
  · omega
  split at h
  · omega
  obtain ⟨v, hv⟩ := Int.eq_ofNat_of_zero_le (show 0 ≤ w.Volume by omega)
  have hz := (sizes_ok hs).2.2 v (by omega)
  rw [← hv] at hz
  omega
theorem ix_put {α : Type} [Dt α] (xs : List α) {i j : Nat} (x : α) (hi : i < xs.length) : ix (put xs (i : Int) x) (j : Int) = if j = i then x else ix xs (j : Int) := by
  show (xs.set i x).getD j default = if j = i then x else xs.getD j default
  rw [List.getD_eq_getElem?_getD, List.getD_eq_getElem?_getD]
  by_cases h : j = i
  · subst h; rw [List.getElem?_set_self hi, if_pos rfl]; rfl
  · rw [List.getElem?_set_ne (by omega), if_neg h]
theorem put_put {α : Type} (xs : List α) (i : Int) (x y : α) : put (put xs i x) i y = put xs i y := by unfold put; rw [List.set_set]
theorem ix_put_self {α : Type} [Dt α] {xs : List α} {i : Int} (x : α) (hi : inX i xs.length) : ix (put xs i x) i = x := by
  obtain ⟨k, rfl⟩ := Int.eq_ofNat_of_zero_le hi.1
  rw [ix_put xs x (by have := hi.2; omega), if_pos rfl]
theorem ix_paste {α : Type} [Dt α] {xs ys : List α} {s i : Nat} (h : s + ys.length ≤ xs.length) : ix (paste xs (s : Int) ys) (i : Int) = if s ≤ i ∧ i < s + ys.length then ix ys ((i : Int) - (s : Int)) else ix xs (i : Int) := by
  show (paste xs (s : Int) ys).getD i default = if _ then ys.getD ((i : Int) - (s : Int)).toNat default else xs.getD i default
  unfold paste
  rw [Int.toNat_natCast, List.getD_eq_getElem?_getD, List.getD_eq_getElem?_getD, List.getD_eq_getElem?_getD]
  have e1 : (xs.take s).length = s := by rw [List.length_take]; omega
  have e2 : ys.take (xs.length - s) = ys := List.take_of_length_le (by omega)
  have e3 : min ys.length (xs.length - s) = ys.length := by omega
  rw [e2, e3]
  by_cases h1 : i < s
  · rw [if_neg (by omega), List.getElem?_append_left (by omega), List.getElem?_take_of_lt h1]
  · by_cases h2 : i < s + ys.length
    · rw [if_pos (by omega), List.getElem?_append_right (by omega), e1, List.getElem?_append_left (by omega), show ((i : Int) - (s : Int)).toNat = i - s by omega]
    · rw [if_neg (by omega), List.getElem?_append_right (by omega), e1, List.getElem?_append_right (by omega), List.getElem?_drop]
      congr 2
      omega
theorem paste_len' {α : Type} {xs ys : List α} {s : Nat} (h : s ≤ xs.length) : (paste xs (s : Int) ys).length = xs.length := paste_len ⟨by omega, by omega, by omega⟩
theorem paste_nil {α : Type} [Dt α] {xs : List α} {s : Nat} (h : s ≤ xs.length) : paste xs (s : Int) [] = xs :=
  ext_ix (paste_len' h) fun k _ => by rw [ix_paste (by simpa using h), if_neg fun q => by have := q.2; rw [List.length_nil] at this; omega]
theorem paste_step {α : Type} [Dt α] {xs ys : List α} {s m : Nat} (h : s + ys.length ≤ xs.length) (hm : m < ys.length) : put (paste xs (s : Int) (ys.take m)) ((s : Int) + (m : Int)) (ix ys (m : Int)) = paste xs (s : Int) (ys.take (m + 1)) := by
  have l1 : (ys.take m).length = m := by rw [List.length_take]; omega
  have l2 : (ys.take (m + 1)).length = m + 1 := by rw [List.length_take]; omega
  have p1 : (paste xs (s : Int) (ys.take m)).length = xs.length := paste_len' (by omega)
  refine ext_ix (by rw [put_len, p1, paste_len' (by omega)]) fun k hk => ?_
  rw [put_len, p1] at hk
  rw [show (s : Int) + (m : Int) = ((s + m : Nat) : Int) by omega, ix_put _ _ (by omega), ix_paste (by omega), ix_paste (by omega), l1, l2]
  have tk : ∀ q j : Nat, j < q → j < ys.length → ix (ys.take q) (j : Int) = ix ys (j : Int) := fun q j h1 h2 => by
    rw [ix_get (by rw [List.length_take]; omega), ix_get h2, List.getElem_take]
  by_cases h1 : k = s + m
  · rw [if_pos h1, if_pos (by omega), show (k : Int) - (s : Int) = (m : Int) by omega, tk _ _ (by omega) hm]
  · rw [if_neg h1]
    by_cases h2 : s ≤ k ∧ k < s + m
    · rw [if_pos h2, if_pos (by omega), show (k : Int) - (s : Int) = ((k - s : Nat) : Int) by omega, tk _ _ (by omega) (by omega), tk _ _ (by omega) (by omega)]
    · rw [if_neg h2, if_neg (by omega)]
def apply1 (im : List (List Sec)) (w : api_Write) : List (List Sec) := put im w.Volume (paste (ix im w.Volume) w.Start w.Data)
def appL (im : List (List Sec)) (l : List api_Write) : List (List Sec) := l.foldl apply1 im
theorem appL_snoc (im : List (List Sec)) (l : List api_Write) (w : api_Write) : appL im (l ++ [w]) = apply1 (appL im l) w := by unfold appL; rw [List.foldl_append]; rfl
structure FitW (sizes : List Int) (w : api_Write) (v s : Nat) : Prop where
  vol : w.Volume = (v : Int)
  start : w.Start = (s : Int)
  hv : v < sizes.length
  len : 1 ≤ w.Data.length
  le : ((s + w.Data.length : Nat) : Int) ≤ ix sizes (v : Int)
  top : ix sizes (v : Int) ≤ 4096
theorem fitW_of {sizes : List Int} {w : api_Write} (hs : ¬ sizesE sizes ≠ 0) (h : fitW sizes w = 0) : ∃ v s : Nat, FitW sizes w v s := by
  have := fitW_zero hs h
  obtain ⟨v, hv⟩ := Int.eq_ofNat_of_zero_le this.1
  obtain ⟨s, hst⟩ := Int.eq_ofNat_of_zero_le this.2.2.2.1
  rw [hv, hst] at this
  exact ⟨v, s, hv, hst, by omega, by omega, by omega, by omega⟩
theorem szs_apply1 {im : List (List Sec)} {w : api_Write} {v s : Nat} (h : FitW (szs im) w v s) : szs (apply1 im w) = szs im := by
  have hv := h.hv
  rw [szs_len] at hv
  have hle := h.le
  rw [ix_szs hv] at hle
  unfold apply1
  rw [h.vol, h.start]
  refine ext_ix (by rw [szs_len, szs_len, put_len]) fun k hk => ?_
  rw [szs_len, put_len] at hk
  rw [ix_szs (by rw [put_len]; exact hk), ix_szs hk, ix_put _ _ hv]
  by_cases hkv : k = v
  · rw [if_pos hkv, paste_len' (by omega), hkv]
  · rw [if_neg hkv]
theorem szs_appL {im : List (List Sec)} (hs : ¬ sizesE (szs im) ≠ 0) : ∀ {l : List api_Write}, (∀ w ∈ l, fitW (szs im) w = 0) → szs (appL im l) = szs im := by
  intro l
  induction l generalizing im with
  | nil => intro _; rfl
  | cons w l ih =>
    intro h
    obtain ⟨v, s, hw⟩ := fitW_of hs (h w (List.mem_cons_self ..))
    have e := szs_apply1 hw
    show szs (appL (apply1 im w) l) = _
    rw [ih (by rw [e]; exact hs) fun x hx => by rw [e]; exact h x (List.mem_cons_of_mem _ hx), e]
def sec (im : List (List Sec)) (v i : Nat) : Sec := ix (ix im (v : Int)) (i : Int)
def covW (w : api_Write) (v i : Nat) : Prop := w.Volume = (v : Int) ∧ w.Start ≤ (i : Int) ∧ (i : Int) < w.Start + (w.Data.length : Int)
instance (w : api_Write) (v i : Nat) : Decidable (covW w v i) := by unfold covW; infer_instance
theorem sec_apply1 {im : List (List Sec)} {w : api_Write} {v0 s0 : Nat} (h : FitW (szs im) w v0 s0) (v i : Nat) : sec (apply1 im w) v i = if covW w v i then ix w.Data ((i : Int) - w.Start) else sec im v i := by
  have hv := h.hv
  rw [szs_len] at hv
  have hle := h.le
  rw [ix_szs hv] at hle
  have h1 := h.vol
  have h2 := h.start
  have hc : covW w v i ↔ v = v0 ∧ s0 ≤ i ∧ i < s0 + w.Data.length := by unfold covW; omega
  have e : sec (apply1 im w) v i = ix (if v = v0 then paste (ix im (v0 : Int)) (s0 : Int) w.Data else ix im (v : Int)) (i : Int) := by
    unfold sec apply1
    rw [h1, h2, ix_put _ _ hv]
  rw [e]
  by_cases hkv : v = v0
  · rw [if_pos hkv, ix_paste (by omega)]
    subst hkv
    by_cases hq : s0 ≤ i ∧ i < s0 + w.Data.length
    · rw [if_pos hq, if_pos (hc.2 ⟨rfl, hq⟩), h2]
    · rw [if_neg hq, if_neg (fun q => hq (hc.1 q).2)]; rfl
  · rw [if_neg hkv, if_neg (fun q => hkv (hc.1 q).1)]; rfl
theorem sec_none {v i : Nat} : ∀ {l : List api_Write} {im : List (List Sec)}, ¬ sizesE (szs im) ≠ 0 → (∀ w ∈ l, fitW (szs im) w = 0) → (∀ w ∈ l, ¬ covW w v i) → sec (appL im l) v i = sec im v i := by
  intro l
  induction l with
  | nil => intro im _ _ _; rfl
  | cons w l ih =>
    intro im hs h hn
    obtain ⟨v0, s0, hw⟩ := fitW_of hs (h w (List.mem_cons_self ..))
    have e := szs_apply1 hw
    show sec (appL (apply1 im w) l) v i = _
    rw [ih (by rw [e]; exact hs) (fun x hx => by rw [e]; exact h x (List.mem_cons_of_mem _ hx)) fun x hx => hn x (List.mem_cons_of_mem _ hx), sec_apply1 hw, if_neg (hn w (List.mem_cons_self ..))]
theorem im_ext {a b : List (List Sec)} (hs : szs a = szs b) (h : ∀ v i : Nat, v < a.length → i < (ix a (v : Int)).length → sec a v i = sec b v i) : a = b := by
  have hl : a.length = b.length := by rw [← szs_len a, ← szs_len b, hs]
  refine ext_ix hl fun v hv => ext_ix ?_ fun i hi => h v i hv hi
  have : ix (szs a) (v : Int) = ix (szs b) (v : Int) := by rw [hs]
  rw [ix_szs hv, ix_szs (by omega)] at this
  omega
theorem fit_data {l : List Int} {w : api_Write} (hs : sizesE l = 0) (h : fitW l w = 0) : w.Data.length ≤ 4096 := by
  have := fitW_zero (by omega) h; omega
theorem slices_Clone_Sec_ok {l : List Sec} {Φ : List Sec → Prop} (hl : l.length ≤ 1000000) (hΦ : Φ l) : Z10 l Φ :=
  ⟨fun h => (by subst h; exact hΦ), iL hl (by omega), hΦ⟩
theorem image_copiedE_ok {im : List (List Sec)} {Φ : List (List Sec) → Prop} (h : imgE im = 0) (hΦ : Φ im) : Z74 im Φ := by
  have hl := sizesE_len h
  rw [szs_len] at hl
  refine ⟨by omega, iL (by omega) (by omega), ?_⟩
  refine LoopW.upT im.length (fun k => (im.take k, (k : Int))) rfl (fun k rec hk hr => ?_) fun rec => ⟨fun _ => by omega, fun _ => by rw [take_all]; exact hΦ⟩
  have := szs_small h k hk
  refine ⟨fun _ => ⟨iX (by omega) (by omega), slices_Clone_Sec_ok (by omega) ⟨iL (by rw [len_snoc, lenT (by omega)]; omega) (by omega), iI (by omega) (by omega), hr _ (by rw [take_ix hk]; rfl)⟩⟩, fun _ => by omega⟩
theorem appL_take {im : List (List Sec)} {l : List api_Write} {k : Nat} (h : k < l.length) : appL im (l.take (k + 1)) = apply1 (appL im (l.take k)) (ix l (k : Int)) := by rw [take_ix h, appL_snoc]
theorem szs_takeL {im : List (List Sec)} {l : List api_Write} (hs : imgE im = 0) (hf : ∀ w ∈ l, fitW (szs im) w = 0) (k : Nat) : szs (appL im (l.take k)) = szs im := szs_appL (by rw [show sizesE (szs im) = 0 from hs]; simp) fun w hw => hf w (List.mem_of_mem_take hw)
theorem image_Apply_ok {im : List (List Sec)} {l : List api_Write} {Φ : List (List Sec) × Int × Int → Prop} (hl : l.length ≤ 1000000) (hs : imgE im = 0) (hf : ∀ w ∈ l, fitW (szs im) w = 0) (hΦ : Φ (appL im l, 0, 0)) : image_Apply_W im l Φ := by
  have h8 := sizesE_len hs
  rw [szs_len] at h8
  refine image_Check_ok (by omega) ⟨fun q => absurd hs q, fun _ => image_copiedE_ok hs ?_⟩
  refine LoopW.upT l.length (fun k => (appL im (l.take k), (k : Int))) rfl (fun k rec hk hr => ?_) fun rec => ⟨fun _ => by omega, fun _ => by rw [take_all]; exact hΦ⟩
  have hw := hf _ (ix_mem (iX (i := (k : Int)) (n := l.length) (by omega) (by omega)))
  have e := szs_takeL hs hf k
  have hs' : imgE (appL im (l.take k)) = 0 := by unfold imgE; rw [e]; exact hs
  obtain ⟨v, s, hfw⟩ := fitW_of (by rw [show sizesE (szs im) = 0 from hs]; simp) hw
  have hv := hfw.hv
  have hle := hfw.le
  rw [← e, szs_len] at hv
  rw [← e, ix_szs hv] at hle
  refine ⟨fun _ => ⟨iX (by omega) (by omega), image_fits_ok (by have := fit_data (show sizesE (szs im) = 0 from hs) hw; omega) (fun j hj => Nat.le_trans (szs_small hs' j hj) (by omega)) ?_⟩, fun _ => by omega⟩
  rw [e, hw]
  refine ⟨fun q => absurd rfl q, fun _ => ?_⟩
  refine ⟨by rw [hfw.vol]; exact iX (by omega) (by omega), by rw [hfw.vol, hfw.start]; exact iS (by omega) (by omega) (by omega), iI (by omega) (by omega), hr _ (by rw [appL_take hk]; rfl)⟩
theorem cycle_in_ok {x lo hi : Int} {Φ : Bool → Prop} (h : Φ (decide (lo ≤ x ∧ x ≤ hi))) : cycle_in_W x lo hi Φ := by
  refine ⟨fun q => ?_, fun q => ?_⟩
  · rw [show decide (lo ≤ x ∧ x ≤ hi) = decide (x ≤ hi) from by simp [q]] at h; exact h
  · rw [show decide (lo ≤ x ∧ x ≤ hi) = false from decide_eq_false fun r => q r.1] at h; exact h
structure FewC (c : api_Cycle) : Prop where
  pos : c.Positions.length ≤ 40
  len : c.Writes.length ≤ 40
  data : ∀ w ∈ c.Writes, w.Data.length ≤ 24
def posE (l : List Int) : Int := firstN (fun k => if ix l (k : Int) < 0 ∨ 1073741824 < ix l (k : Int) then 2 else 0) l.length
def posR (least : Int) (l : List Int) : Int := if (l.length : Int) < least ∨ 8 < (l.length : Int) then 6 else posE l
theorem cycle_positions_ok {l : List Int} {least : Int} {Φ : Int → Prop} (hl : l.length ≤ 100000) (hΦ : Φ (posR least l)) : Z7 l least Φ := by
  refine cycle_in_ok ⟨fun q => ?_, fun q => ?_⟩
  · have := of_decide_eq_false (Bool.eq_false_iff.2 q)
    unfold posR at hΦ
    rw [if_pos (by omega)] at hΦ; exact hΦ
  · have := of_decide_eq_true (Classical.not_not.1 q)
    unfold posR at hΦ
    rw [if_neg (by omega)] at hΦ
    refine LoopW.errI l.length (fun k => (k : Int)) _ rfl hΦ (fun k rec hk _ h1 h2 => ?_) fun rec _ h0 => ⟨fun _ => by omega, fun _ => ⟨fun _ => by omega, fun _ => h0⟩⟩
    refine ⟨fun _ => ⟨iX (by omega) (by omega), cycle_in_ok ⟨fun r => ?_, fun r => ?_⟩⟩, fun _ => by omega⟩
    · have r := of_decide_eq_true r
      have r : ¬ (0 ≤ ix l (k : Int) ∧ ix l (k : Int) ≤ 1073741824) := fun t => r (decide_eq_true t)
      have c : ix l (k : Int) < 0 ∨ 1073741824 < ix l (k : Int) := by omega
      have := h1 (by rw [if_pos c]; omega)
      rw [if_pos c] at this
      exact ⟨fun _ => this, fun s => by omega⟩
    · have r : ¬ ¬ (decide (0 ≤ ix l (k : Int) ∧ ix l (k : Int) ≤ 1073741824) = true) := fun t => r (decide_eq_true t)
      have r := of_decide_eq_true (Classical.not_not.1 r)
      exact ⟨iI (by omega) (by omega), h2 (if_neg (by omega)) _ rfl⟩
def ordW (sizes : List Int) (l : List api_Write) (k : Nat) : Int :=
  if fitW sizes (ix l (k : Int)) ≠ 0 then fitW sizes (ix l (k : Int)) else if k = 0 then 0 else if (ix l (k : Int)).Volume < (ix l ((k : Int) - 1)).Volume ∨ ((ix l (k : Int)).Volume = (ix l ((k : Int) - 1)).Volume ∧ (ix l (k : Int)).Start ≤ (ix l ((k : Int) - 1)).Start + ((ix l ((k : Int) - 1)).Data.length : Int)) then 3 else 0
def wrsE (sizes : List Int) (l : List api_Write) : Int := firstN (ordW sizes l) l.length
theorem ordW_fit {sizes : List Int} {l : List api_Write} {k : Nat} (h : ordW sizes l k = 0) : fitW sizes (ix l (k : Int)) = 0 := by
  unfold ordW at h
  split at h
  · next q => exact absurd h q
  · next q => exact Classical.not_not.1 q
theorem coalesce_Check_ok {l : List api_Write} {sizes : List Int} {Φ : Int → Prop} (hl : l.length ≤ 100000) (hd : ∀ w ∈ l, w.Data.length ≤ 1000000) (h0 : sizesE sizes ≠ 0 → Φ (sizesE sizes)) (h1 : sizesE sizes = 0 → Φ (wrsE sizes l)) : Z53 l sizes Φ := by
  refine image_New_ok (fun hs => ⟨fun q => absurd rfl q, fun _ => ?_⟩) fun hs => ⟨fun _ => h0 hs, fun q => absurd hs q⟩
  have e := szs_zeroI hs
  refine LoopW.errI l.length (fun k => (k : Int)) _ rfl (h1 hs) (fun k rec hk hj g1 g2 => ⟨fun _ => ⟨iX (by omega) (by omega), ?_⟩, fun _ => by omega⟩) fun rec _ h0 => ⟨fun _ => by omega, fun _ => h0⟩
  have hmem := hd _ (ix_mem (iX (i := (k : Int)) (n := l.length) (by omega) (by omega)))
  refine image_Fits_ok hmem (by unfold imgE; rw [e]; exact hs) ?_
  rw [e]
  unfold ordW at g1 g2
  refine ⟨fun q => ?_, fun q => ?_⟩
  · rw [if_pos q] at g1; exact g1 q
  · rw [if_neg q] at g1 g2
    refine ⟨fun r => ?_, fun r => ?_⟩
    · rw [if_pos (by omega)] at g2
      exact ⟨iI (by omega) (by omega), g2 rfl _ rfl⟩
    · rw [if_neg (by omega)] at g1 g2
      have hp := ordW_fit (hj (k - 1) (by omega))
      obtain ⟨v, s, hf⟩ := fitW_of (by omega) hp
      have z1 := hf.le
      have z2 := hf.top
      have z3 := hf.start
      have ek : ((k - 1 : Nat) : Int) = (k : Int) - 1 := by omega
      rw [ek] at z1 z3
      refine ⟨iI (by omega) (by omega), iX (by omega) (by omega), fun t => ?_, fun t => ⟨fun u => ⟨iI (by omega) (by omega), fun x => ?_, fun x => ?_⟩, fun u => ?_⟩⟩
      · rw [if_pos (.inl t)] at g1; exact g1 (by omega)
      · rw [if_pos (.inr ⟨u, x⟩)] at g1; exact g1 (by omega)
      · rw [if_neg (by omega)] at g2; exact ⟨iI (by omega) (by omega), g2 rfl _ rfl⟩
      · rw [if_neg (by omega)] at g2; exact ⟨iI (by omega) (by omega), g2 rfl _ rfl⟩
def cycE (c : api_Cycle) (sizes : List Int) : Int :=
  if sizesE sizes ≠ 0 then sizesE sizes else if c.Base < 0 ∨ c.Number ≤ c.Base ∨ 1073741824 < c.Number then 2 else if c.Time < 0 ∨ 1073741824 < c.Time then 24 else if posR 0 c.Positions ≠ 0 then posR 0 c.Positions else wrsE sizes c.Writes
theorem cycle_Check_ok {c : api_Cycle} {sizes : List Int} {Φ : Int → Prop} (hp : c.Positions.length ≤ 100000) (hl : c.Writes.length ≤ 100000) (hd : ∀ w ∈ c.Writes, w.Data.length ≤ 1000000) (hΦ : Φ (cycE c sizes)) : cycle_Check_W c sizes Φ := by
  unfold cycE at hΦ
  refine image_New_ok (fun hs => ⟨fun q => absurd rfl q, fun _ => ?_⟩) fun hs => ⟨fun _ => by rw [if_pos hs] at hΦ; exact hΦ, fun q => absurd hs q⟩
  rw [if_neg (by omega)] at hΦ
  have J : ∀ b : Bool, (b = true ↔ c.Base < 0 ∨ c.Number ≤ c.Base ∨ 1073741824 < c.Number) → Z54 c sizes Φ b := fun b hb => by
    refine ⟨fun q => by rw [if_pos (hb.1 q)] at hΦ; exact hΦ, fun q => ?_⟩
    rw [if_neg fun r => q (hb.2 r)] at hΦ
    refine cycle_in_ok ⟨fun r => ?_, fun r => ?_⟩
    · have := of_decide_eq_false (Bool.eq_false_iff.2 r)
      rw [if_pos (by omega)] at hΦ; exact hΦ
    · have := of_decide_eq_true (Classical.not_not.1 r)
      rw [if_neg (by omega)] at hΦ
      refine cycle_positions_ok hp ⟨fun t => by rw [if_pos t] at hΦ; exact hΦ, fun t => ?_⟩
      rw [if_neg t] at hΦ
      exact coalesce_Check_ok hl hd (fun u => absurd hs u) fun _ => hΦ
  exact ⟨fun q => J true ⟨fun _ => .inl q, fun _ => rfl⟩, fun q => ⟨fun r => J true ⟨fun _ => .inr (.inl r), fun _ => rfl⟩, fun r => J _ (by simp; omega)⟩⟩
theorem slices_Clone_int_ok {l : List Int} {Φ : List Int → Prop} (hl : l.length ≤ 1000000) (hΦ : Φ l) : Z3 l Φ :=
  ⟨fun h => (by subst h; exact hΦ), iL hl (by omega), hΦ⟩
theorem mfindP {κ ν : Type} [DecidableEq κ] (k : κ) (v : ν) (c : κ) : ∀ m : List (κ × ν), mfind (mput m k v) c = if c = k then some v else mfind m c
  | [] => by unfold mput mfind mfind; rfl
  | p :: m => by
    unfold mput
    by_cases h : k = p.1
    · rw [if_pos h]
      unfold mfind
      by_cases hc : c = k
      · rw [if_pos (by rw [hc, h]), if_pos hc]
      · rw [if_neg (fun t => hc (t.trans h.symm)), if_neg hc, if_neg (fun t => hc (t.trans h.symm))]
    · rw [if_neg h]
      unfold mfind
      rw [mfindP k v c m]
      by_cases hc : c = k
      · rw [if_neg (fun t => h (hc.symm.trans t)), if_pos hc, if_pos hc]
      · rw [if_neg hc, if_neg hc]
theorem mkeys_mem {κ ν : Type} [DecidableEq κ] (c : κ) : ∀ m : List (κ × ν), c ∈ m.map (·.1) ↔ ∃ d, mfind m c = some d
  | [] => by simp [mfind]
  | p :: m => by
    unfold mfind
    by_cases h : c = p.1
    · rw [if_pos h]; simp [h]
    · rw [if_neg h, ← mkeys_mem c m, List.map_cons, List.mem_cons]
      exact ⟨fun q => q.resolve_left h, .inr⟩
theorem mput_keys {κ ν : Type} [DecidableEq κ] (k : κ) (v : ν) {m : List (κ × ν)} (c : κ) : c ∈ (mput m k v).map (·.1) ↔ c = k ∨ c ∈ m.map (·.1) := by
  rw [mkeys_mem, mkeys_mem, mfindP]
  by_cases h : c = k
  · rw [if_pos h]; exact ⟨fun _ => .inl h, fun _ => ⟨v, rfl⟩⟩
  · rw [if_neg h]; exact ⟨.inr, fun q => q.resolve_left h⟩
theorem mput_nodup {κ ν : Type} [DecidableEq κ] (k : κ) (v : ν) : ∀ {m : List (κ × ν)}, (m.map (·.1)).Nodup → ((mput m k v).map (·.1)).Nodup
  | [], _ => by simp [mput]
  | p :: m, h => by
    have h1 := List.nodup_cons.1 (show (p.1 :: m.map (·.1)).Nodup from h)
    unfold mput
    by_cases hk : k = p.1
    · rw [if_pos hk]; exact h
    · rw [if_neg hk]
      refine List.nodup_cons.2 ⟨fun q => ?_, mput_nodup k v h1.2⟩
      rcases (mput_keys k v p.1).1 q with q | q
      · exact hk q.symm
      · exact h1.1 q
theorem wrM_nodup {v : Int} : ∀ (l : List Sec) (m : List (coalesce_place × Sec)) (s : Int), (m.map (·.1)).Nodup → ((wrM m v s l).map (·.1)).Nodup
  | [], _, _, h => h
  | _ :: l, _, _, h => wrM_nodup l _ _ (mput_nodup _ _ h)
theorem effM_nodup (l : List api_Write) : ((effM l).map (·.1)).Nodup := by
  refine snocInd (P := fun l => ((effM l).map (·.1)).Nodup) List.nodup_nil (fun l w h => ?_) l
  rw [effM_snoc]; exact wrM_nodup _ _ _ h
theorem ix_cons {α : Type} [Dt α] (x : α) (l : List α) (i : Int) (h : 0 ≤ i) : ix (x :: l) i = if i = 0 then x else ix l (i - 1) := by
  obtain ⟨k, rfl⟩ := Int.eq_ofNat_of_zero_le h
  cases k with
  | zero => rfl
  | succ k => rw [if_neg (by omega), show ((k + 1 : Nat) : Int) - 1 = (k : Int) by omega]; rfl
theorem wrM_find {v : Int} (q : coalesce_place) : ∀ (l : List Sec) (m : List (coalesce_place × Sec)) (s : Int), mfind (wrM m v s l) q = if q.volume = v ∧ s ≤ q.sector ∧ q.sector < s + (l.length : Int) then some (ix l (q.sector - s)) else mfind m q
  | [], m, s => by rw [if_neg (by rw [List.length_nil]; omega)]; rfl
  | d :: l, m, s => by
    have el : ((d :: l).length : Int) = (l.length : Int) + 1 := by rw [List.length_cons]; rfl
    rw [wrM, wrM_find q l, mfindP, el]
    by_cases h : q.volume = v ∧ s ≤ q.sector ∧ q.sector < s + ((l.length : Int) + 1)
    · rw [if_pos h, ix_cons _ _ _ (by omega)]
      by_cases h0 : q.sector = s
      · rw [if_neg (by omega), if_pos (place_ext h.1 h0), if_pos (by omega)]
      · rw [if_pos (by omega), if_neg (by omega), show q.sector - (s + 1) = q.sector - s - 1 by omega]
    · rw [if_neg h, if_neg (by omega), if_neg (fun t => h (by rw [t]; exact ⟨rfl, Int.le_refl _, by show s < _; omega⟩))]
theorem wrM_sum {v : Int} (l : List Sec) (m : List (coalesce_place × Sec)) (s : Int) : (wrM m v s l).length ≤ m.length + l.length := wrM_len l m s
def secN (l : List api_Write) : Nat := (l.map (·.Data.length)).sum
theorem secN_append (a b : List api_Write) : secN (a ++ b) = secN a + secN b := by unfold secN; rw [List.map_append, List.sum_append_nat]
theorem secN_one (w : api_Write) : secN [w] = w.Data.length := by simp [secN]
theorem effM_sum (l : List api_Write) : (effM l).length ≤ secN l := by
  refine snocInd (P := fun l => (effM l).length ≤ secN l) (Nat.le_refl _) (fun l w h => ?_) l
  rw [effM_snoc, secN_append, secN_one]
  have := wrM_sum (v := w.Volume) w.Data (effM l) w.Start
  omega
theorem sec_eff {im : List (List Sec)} (hs : ¬ sizesE (szs im) ≠ 0) {v i : Nat} (l : List api_Write) : (∀ w ∈ l, fitW (szs im) w = 0) → sec (appL im l) v i = mget (effM l) ⟨(v : Int), (i : Int)⟩ (sec im v i) := by
  refine snocInd (P := fun l => (∀ w ∈ l, fitW (szs im) w = 0) → sec (appL im l) v i = mget (effM l) ⟨(v : Int), (i : Int)⟩ (sec im v i)) (fun _ => rfl) (fun l w ih h => ?_) l
  have hl : ∀ x ∈ l, fitW (szs im) x = 0 := fun x hx => h x (List.mem_append_left _ hx)
  have e := szs_appL hs hl
  obtain ⟨v0, s0, hw⟩ := fitW_of (sizes := szs (appL im l)) (w := w) (by rw [e]; exact hs) (by rw [e]; exact h w (by simp))
  rw [appL_snoc, effM_snoc, sec_apply1 hw, ih hl]
  unfold mget
  rw [wrM_find]
  by_cases hc : covW w v i
  · rw [if_pos hc, if_pos (by unfold covW at hc; exact ⟨hc.1.symm, hc.2.1, hc.2.2⟩)]
  · rw [if_neg hc, if_neg (fun t => hc (by unfold covW; exact ⟨t.1.symm, t.2.1, t.2.2⟩))]
def behW (w : api_Write) : coalesce_place := ⟨w.Volume, w.Start + (w.Data.length : Int)⟩
def stepR (m : List (coalesce_place × Sec)) (R : List api_Write) (p : coalesce_place) : List api_Write :=
  match R with
  | [] => [⟨p.volume, p.sector, [mget m p sec0]⟩]
  | w :: r => if p = behW w then ⟨w.Volume, w.Start, w.Data ++ [mget m p sec0]⟩ :: r else ⟨p.volume, p.sector, [mget m p sec0]⟩ :: w :: r
theorem clsW_snoc (xs : List api_Write) (w : api_Write) (ys : List Sec) : clsW (xs ++ [w]) ys = xs ++ [⟨w.Volume, w.Start, ys⟩] := by
  have e : (((xs ++ [w]).length : Nat) : Int) - 1 = (xs.length : Int) := by rw [len_snoc]; omega
  have g : ix (xs ++ [w]) (xs.length : Int) = w := by rw [ix_get (by rw [len_snoc]; omega)]; simp
  unfold clsW
  rw [e, g]
  show (xs ++ [w]).set xs.length _ = _
  rw [List.set_append_right _ _ (Nat.le_refl _), Nat.sub_self]; rfl
def InvG (st : coalesce_place × List api_Write × List Sec) : List api_Write → Prop
  | [] => st = (⟨-1, 0⟩, [], [])
  | w :: r => st.1 = behW w ∧ st.2.2 = w.Data ∧ ∃ d, st.2.1 = r.reverse ++ [⟨w.Volume, w.Start, d⟩]
theorem InvG.cls {st : coalesce_place × List api_Write × List Sec} : ∀ {R : List api_Write}, InvG st R → clsW st.2.1 st.2.2 = R.reverse
  | [], h => by rw [show st = (⟨-1, 0⟩, [], []) from h]; rfl
  | w :: r, ⟨_, h2, d, h3⟩ => by rw [h3, clsW_snoc, h2, List.reverse_cons]
theorem grpL_inv (m : List (coalesce_place × Sec)) (ps : List coalesce_place) : (∀ p ∈ ps, 0 ≤ p.volume) → InvG (grpL m ps) (ps.foldl (stepR m) []) := by
  refine snocInd (P := fun ps => (∀ p ∈ ps, 0 ≤ p.volume) → InvG (grpL m ps) (ps.foldl (stepR m) [])) (fun _ => rfl) (fun ps p ih h => ?_) ps
  have ih := ih fun q hq => h q (List.mem_append_left _ hq)
  have hp := h p (by simp)
  rw [grpL_snoc, List.foldl_append]
  show InvG (grpS m (grpL m ps) p) (stepR m (ps.foldl (stepR m) []) p)
  have hc := ih.cls
  generalize ps.foldl (stepR m) [] = R at ih hc ⊢
  generalize grpL m ps = st at ih hc ⊢
  unfold grpS
  cases R with
  | nil =>
    have e : st = (⟨-1, 0⟩, [], []) := ih
    rw [if_pos (by rw [e]; rintro rfl; exact absurd hp (by show ¬ ((0 : Int) ≤ -1); omega)), hc]
    exact ⟨rfl, rfl, [], rfl⟩
  | cons w r =>
    obtain ⟨h1, h2, d, h3⟩ := ih
    unfold stepR
    by_cases hb : p = behW w
    · simp only [if_pos hb]
      rw [if_neg (by rw [h1, hb]; exact fun t => t rfl)]
      refine ⟨?_, by show st.2.2 ++ _ = _; rw [h2], d, h3⟩
      show (⟨p.volume, p.sector + 1⟩ : coalesce_place) = behW ⟨w.Volume, w.Start, w.Data ++ [mget m p sec0]⟩
      unfold behW
      rw [hb, len_snoc]
      exact place_ext rfl (by show w.Start + (w.Data.length : Int) + 1 = w.Start + ((w.Data.length + 1 : Nat) : Int); omega)
    · simp only [if_neg hb]
      rw [if_pos (by rw [h1]; exact hb), hc]
      exact ⟨rfl, rfl, [], rfl⟩
def ltQ (a b : coalesce_place) : Prop := a.volume < b.volume ∨ a.volume = b.volume ∧ a.sector < b.sector
def gapW (y x : api_Write) : Prop := y.Volume < x.Volume ∨ y.Volume = x.Volume ∧ y.Start + (y.Data.length : Int) < x.Start
structure Grp (m : List (coalesce_place × Sec)) (ps : List coalesce_place) (R : List api_Write) : Prop where
  ne : ∀ w ∈ R, 0 < w.Data.length
  gap : R.Pairwise fun x y => gapW y x
  mem : ∀ w ∈ R, ∀ j : Nat, j < w.Data.length → (⟨w.Volume, w.Start + (j : Int)⟩ : coalesce_place) ∈ ps ∧ ix w.Data (j : Int) = mget m ⟨w.Volume, w.Start + (j : Int)⟩ sec0
  cov : ∀ p ∈ ps, ∃ w ∈ R, w.Volume = p.volume ∧ w.Start ≤ p.sector ∧ p.sector < w.Start + (w.Data.length : Int)
  sum : secN R = ps.length
theorem ix_snoc {α : Type} [Dt α] (xs : List α) (x : α) (j : Nat) (h : j < (xs ++ [x]).length) : ix (xs ++ [x]) (j : Int) = if j = xs.length then x else ix xs (j : Int) := by
  rw [len_snoc] at h
  by_cases e : j = xs.length
  · rw [if_pos e, ix_get (by rw [len_snoc]; omega)]; simp [e]
  · rw [if_neg e, ix_get (by rw [len_snoc]; omega), ix_get (by omega), List.getElem_append_left (by omega)]
theorem Grp.step {m : List (coalesce_place × Sec)} {ps : List coalesce_place} {R : List api_Write} (g : Grp m ps R) {p : coalesce_place} (hp : ∀ q ∈ ps, ltQ q p) : Grp m (ps ++ [p]) (stepR m R p) := by
  have one : ∀ (w : api_Write), w ∈ R → w.Volume < p.volume ∨ w.Volume = p.volume ∧ w.Start + (w.Data.length : Int) ≤ p.sector := fun w hw => by
    have h0 := g.ne w hw
    have h1 := hp _ (g.mem w hw (w.Data.length - 1) (by omega)).1
    unfold ltQ at h1
    simp only at h1
    omega
  have nw : ∀ j : Nat, j < [mget m p sec0].length → (⟨p.volume, p.sector + (j : Int)⟩ : coalesce_place) ∈ ps ++ [p] ∧ ix [mget m p sec0] (j : Int) = mget m ⟨p.volume, p.sector + (j : Int)⟩ sec0 := fun j hj => by
    obtain rfl : j = 0 := by simpa using hj
    have e : (⟨p.volume, p.sector + ((0 : Nat) : Int)⟩ : coalesce_place) = p := place_ext rfl (by show p.sector + ((0 : Nat) : Int) = p.sector; omega)
    rw [e]; exact ⟨by simp, rfl⟩
  have old : ∀ w ∈ R, ∀ j : Nat, j < w.Data.length → (⟨w.Volume, w.Start + (j : Int)⟩ : coalesce_place) ∈ ps ++ [p] ∧ ix w.Data (j : Int) = mget m ⟨w.Volume, w.Start + (j : Int)⟩ sec0 := fun w hw j hj => ⟨List.mem_append_left _ (g.mem w hw j hj).1, (g.mem w hw j hj).2⟩
  have push : (∀ w ∈ R, p ≠ behW w) → Grp m (ps ++ [p]) (⟨p.volume, p.sector, [mget m p sec0]⟩ :: R) := fun hb => by
    refine ⟨fun w hw => ?_, List.pairwise_cons.2 ⟨fun y hy => ?_, g.gap⟩, fun w hw => ?_, fun q hq => ?_, ?_⟩
    · rcases List.mem_cons.1 hw with rfl | hw
      · exact Nat.zero_lt_one
      · exact g.ne w hw
    · have h1 := one y hy
      have h2 := hb y hy
      unfold gapW
      rcases h1 with h1 | h1
      · exact .inl h1
      · refine .inr ⟨h1.1, ?_⟩
        show y.Start + (y.Data.length : Int) < p.sector
        have : y.Start + (y.Data.length : Int) ≠ p.sector := fun t => h2 (place_ext h1.1.symm t.symm)
        omega
    · rcases List.mem_cons.1 hw with rfl | hw
      · exact nw
      · exact old w hw
    · rcases List.mem_append.1 hq with hq | hq
      · obtain ⟨w, hw, h⟩ := g.cov q hq
        exact ⟨w, List.mem_cons_of_mem _ hw, h⟩
      · obtain rfl := List.mem_singleton.1 hq
        exact ⟨_, List.mem_cons_self .., rfl, Int.le_refl _, by show q.sector < q.sector + ((1 : Nat) : Int); omega⟩
    · have := g.sum
      unfold secN at *
      rw [List.map_cons, List.sum_cons, this, len_snoc]
      show 1 + ps.length = _
      omega
  cases R with
  | nil => exact push fun w hw => absurd hw List.not_mem_nil
  | cons w r =>
    have gp := List.pairwise_cons.1 g.gap
    unfold stepR
    by_cases hb : p = behW w
    · simp only [if_pos hb]
      have hv : w.Volume = p.volume := by rw [hb]; rfl
      have hsx : w.Start + (w.Data.length : Int) = p.sector := by rw [hb]; rfl
      refine ⟨fun x hx => ?_, List.pairwise_cons.2 ⟨fun y hy => gp.1 y hy, gp.2⟩, fun x hx => ?_, fun q hq => ?_, ?_⟩
      · rcases List.mem_cons.1 hx with rfl | hx
        · show 0 < (w.Data ++ _).length
          rw [len_snoc]; omega
        · exact g.ne x (List.mem_cons_of_mem _ hx)
      · rcases List.mem_cons.1 hx with rfl | hx
        · intro j hj
          have hj : j < (w.Data ++ [mget m p sec0]).length := hj
          show (⟨w.Volume, w.Start + (j : Int)⟩ : coalesce_place) ∈ ps ++ [p] ∧ ix (w.Data ++ [mget m p sec0]) (j : Int) = _
          rw [ix_snoc _ _ _ hj]
          rw [len_snoc] at hj
          by_cases e : j = w.Data.length
          · have ep : (⟨w.Volume, w.Start + (j : Int)⟩ : coalesce_place) = p := place_ext hv (by show w.Start + (j : Int) = _; omega)
            rw [if_pos e]
            exact ⟨by rw [ep]; simp, by show _ = mget m (⟨w.Volume, w.Start + (j : Int)⟩ : coalesce_place) sec0; rw [ep]⟩
          · rw [if_neg e]
            exact old w (List.mem_cons_self ..) j (by omega)
        · exact old x (List.mem_cons_of_mem _ hx)
      · rcases List.mem_append.1 hq with hq | hq
        · obtain ⟨x, hx, h1, h2, h3⟩ := g.cov q hq
          rcases List.mem_cons.1 hx with rfl | hx
          · exact ⟨_, List.mem_cons_self .., h1, h2, by show q.sector < x.Start + ((x.Data ++ [mget m p sec0]).length : Int); rw [len_snoc]; omega⟩
          · exact ⟨x, List.mem_cons_of_mem _ hx, h1, h2, h3⟩
        · obtain rfl := List.mem_singleton.1 hq
          exact ⟨_, List.mem_cons_self .., hv, by show w.Start ≤ _; omega, by show q.sector < w.Start + ((w.Data ++ [mget m q sec0]).length : Int); rw [len_snoc]; omega⟩
      · have := g.sum
        unfold secN at *
        rw [List.map_cons, List.sum_cons] at *
        rw [len_snoc, len_snoc]
        omega
    · simp only [if_neg hb]
      refine push fun y hy => ?_
      rcases List.mem_cons.1 hy with rfl | hy
      · exact hb
      · rintro rfl
        have h1 := gp.1 y hy
        have h2 := one w (List.mem_cons_self ..)
        have h3 := g.ne w (List.mem_cons_self ..)
        unfold gapW at h1
        unfold behW at h2
        simp only at h2
        omega
theorem grp_all (m : List (coalesce_place × Sec)) (ps : List coalesce_place) : ps.Pairwise ltQ → Grp m ps (ps.foldl (stepR m) []) := by
  refine snocInd (P := fun ps => ps.Pairwise ltQ → Grp m ps (ps.foldl (stepR m) [])) (fun _ => ⟨fun w hw => absurd hw List.not_mem_nil, List.Pairwise.nil, fun w hw => absurd hw List.not_mem_nil, fun p hp => absurd hp List.not_mem_nil, rfl⟩) (fun ps p ih h => ?_) ps
  rw [List.foldl_append]
  have h1 := List.pairwise_append.1 h
  exact (ih h1.1).step fun q hq => h1.2.2 q hq p (by simp)
theorem keys_sorted {m : List (coalesce_place × Sec)} (hn : (m.map (·.1)).Nodup) : (sortG pleB (m.map (·.1))).Pairwise ltQ := by
  have h1 := sortG_sorted ple_total ple_trans (m.map (·.1))
  have h2 : (sortG pleB (m.map (·.1))).Nodup := (sortG_perm pleB _).nodup_iff.2 hn
  refine (List.Pairwise.and h1 h2).imp fun {a b} h => ?_
  have := h.1
  unfold pleB at this
  simp only [decide_eq_true_eq] at this
  unfold ltQ
  have : ¬ (a.volume = b.volume ∧ a.sector = b.sector) := fun t => h.2 (place_ext t.1 t.2)
  omega
theorem canL_grp {m : List (coalesce_place × Sec)} (hn : (m.map (·.1)).Nodup) (hv : ∀ q ∈ m, 0 ≤ q.1.volume) : ∃ R, Grp m (sortG pleB (m.map (·.1))) R ∧ canL m = R.reverse := by
  refine ⟨_, grp_all m _ (keys_sorted hn), (grpL_inv m _ fun p hp => ?_).cls⟩
  obtain ⟨q, hq, rfl⟩ := List.mem_map.1 ((sortG_perm pleB _).mem_iff.1 hp)
  exact hv q hq
structure Can (m : List (coalesce_place × Sec)) (ws : List api_Write) : Prop where
  ne : ∀ w ∈ ws, 0 < w.Data.length
  gap : ws.Pairwise gapW
  mem : ∀ w ∈ ws, ∀ j : Nat, j < w.Data.length → mfind m ⟨w.Volume, w.Start + (j : Int)⟩ = some (ix w.Data (j : Int))
  cov : ∀ p d, mfind m p = some d → ∃ w ∈ ws, w.Volume = p.volume ∧ w.Start ≤ p.sector ∧ p.sector < w.Start + (w.Data.length : Int)
  sum : secN ws = m.length
theorem secN_reverse (l : List api_Write) : secN l.reverse = secN l := by
  unfold secN; rw [List.map_reverse, List.sum_reverse]
theorem canL_can {m : List (coalesce_place × Sec)} (hn : (m.map (·.1)).Nodup) (hv : ∀ q ∈ m, 0 ≤ q.1.volume) : Can m (canL m) := by
  obtain ⟨R, g, e⟩ := canL_grp hn hv
  have pm : ∀ p, p ∈ sortG pleB (m.map (·.1)) ↔ ∃ d, mfind m p = some d := fun p => ((sortG_perm pleB _).mem_iff).trans (mkeys_mem p m)
  rw [e]
  refine ⟨fun w hw => g.ne w (List.mem_reverse.1 hw), List.pairwise_reverse.2 g.gap, fun w hw j hj => ?_, fun p d h => ?_, ?_⟩
  · obtain ⟨h1, h2⟩ := g.mem w (List.mem_reverse.1 hw) j hj
    obtain ⟨d, hd⟩ := (pm _).1 h1
    unfold mget at h2
    rw [hd] at h2
    rw [hd, h2]
  · obtain ⟨w, hw, h⟩ := g.cov p ((pm p).2 ⟨d, h⟩)
    exact ⟨w, List.mem_reverse.2 hw, h⟩
  · rw [secN_reverse, g.sum, (sortG_perm pleB _).length_eq, List.length_map]
theorem eff_in {sizes : List Int} (hs : ¬ sizesE sizes ≠ 0) {l : List api_Write} (hf : ∀ w ∈ l, fitW sizes w = 0) : ∀ q ∈ effM l, 0 ≤ q.1.volume ∧ q.1.volume < (sizes.length : Int) ∧ 0 ≤ q.1.sector ∧ q.1.sector < ix sizes q.1.volume := by
  revert hf
  refine snocInd (P := fun l => (∀ w ∈ l, fitW sizes w = 0) → ∀ q ∈ effM l, 0 ≤ q.1.volume ∧ q.1.volume < (sizes.length : Int) ∧ 0 ≤ q.1.sector ∧ q.1.sector < ix sizes q.1.volume) (fun _ q hq => absurd hq List.not_mem_nil) (fun l w ih h => ?_) l
  have ih := ih fun x hx => h x (List.mem_append_left _ hx)
  obtain ⟨v, s, hw⟩ := fitW_of hs (h w (by simp))
  have e1 := hw.vol
  have e2 := hw.start
  have e3 := hw.hv
  have e4 := hw.le
  rw [effM_snoc]
  refine wrM_all (p := fun c => 0 ≤ c.volume ∧ c.volume < (sizes.length : Int) ∧ 0 ≤ c.sector ∧ c.sector < ix sizes c.volume) _ _ _ (fun j hj => ?_) ih
  rw [e1, e2]
  exact ⟨by show (0 : Int) ≤ (v : Int); omega, by show (v : Int) < _; omega, by show (0 : Int) ≤ (s : Int) + (j : Int); omega, by show (s : Int) + (j : Int) < ix sizes (v : Int); omega⟩
theorem mkey_of {m : List (coalesce_place × Sec)} {p : coalesce_place} {d : Sec} (h : mfind m p = some d) : ∃ q ∈ m, q.1 = p := by
  have := (mkeys_mem p m).2 ⟨d, h⟩
  obtain ⟨q, hq, e⟩ := List.mem_map.1 this
  exact ⟨q, hq, e⟩
theorem can_fit {sizes : List Int} {m : List (coalesce_place × Sec)} {ws : List api_Write} (c : Can m ws) (hm : ∀ q ∈ m, 0 ≤ q.1.volume ∧ q.1.volume < (sizes.length : Int) ∧ 0 ≤ q.1.sector ∧ q.1.sector < ix sizes q.1.volume) : ∀ w ∈ ws, fitW sizes w = 0 := fun w hw => by
  have h0 := c.ne w hw
  obtain ⟨q1, hq1, e1⟩ := mkey_of (c.mem w hw 0 h0)
  obtain ⟨q2, hq2, e2⟩ := mkey_of (c.mem w hw (w.Data.length - 1) (by omega))
  have b1 := hm q1 hq1
  have b2 := hm q2 hq2
  rw [e1] at b1
  rw [e2] at b2
  simp only at b1 b2
  unfold fitW
  rw [if_neg (by omega), if_neg (by omega), if_neg (by omega)]
theorem can_ord {sizes : List Int} {m : List (coalesce_place × Sec)} {ws : List api_Write} (c : Can m ws) (hf : ∀ w ∈ ws, fitW sizes w = 0) : wrsE sizes ws = 0 := by
  refine firstN_zero.2 fun k hk => ?_
  unfold ordW
  rw [if_neg (fun t => t (hf _ (ix_mem (iX (by omega) (by omega)))))]
  by_cases h0 : k = 0
  · rw [if_pos h0]
  · rw [if_neg h0]
    have g := List.pairwise_iff_getElem.1 c.gap (k - 1) k (by omega) hk (by omega)
    rw [← ix_get (by omega), ← ix_get hk, show ((k - 1 : Nat) : Int) = (k : Int) - 1 by omega] at g
    unfold gapW at g
    rw [if_neg (by omega)]
theorem sec_can {im : List (List Sec)} (hs : ¬ sizesE (szs im) ≠ 0) {m : List (coalesce_place × Sec)} {ws : List api_Write} (c : Can m ws) (hf : ∀ w ∈ ws, fitW (szs im) w = 0) (v i : Nat) : sec (appL im ws) v i = mget m ⟨(v : Int), (i : Int)⟩ (sec im v i) := by
  have hcv : ∀ w ∈ ws, covW w v i → mfind m ⟨(v : Int), (i : Int)⟩ = some (ix w.Data ((i : Int) - w.Start)) := fun w hw hc => by
    unfold covW at hc
    obtain ⟨j, hj⟩ := Int.eq_ofNat_of_zero_le (show 0 ≤ (i : Int) - w.Start by omega)
    have := c.mem w hw j (by omega)
    rw [hj, ← this]
    congr 1
    exact place_ext hc.1.symm (by show (i : Int) = w.Start + (j : Int); omega)
  unfold mget
  cases hm : mfind m ⟨(v : Int), (i : Int)⟩ with
  | none => exact sec_none hs hf fun w hw hc => by rw [hcv w hw hc] at hm; cases hm
  | some d =>
    have key : ∀ (l : List api_Write), (∀ w ∈ l, fitW (szs im) w = 0) → (∀ w ∈ l, covW w v i → ix w.Data ((i : Int) - w.Start) = d) → (∃ w ∈ l, covW w v i) → sec (appL im l) v i = d := by
      intro l
      refine snocInd (P := fun l => (∀ w ∈ l, fitW (szs im) w = 0) → (∀ w ∈ l, covW w v i → ix w.Data ((i : Int) - w.Start) = d) → (∃ w ∈ l, covW w v i) → sec (appL im l) v i = d) (fun _ _ h => ?_) (fun l w ih h1 h2 h3 => ?_) l
      · obtain ⟨w, hw, _⟩ := h; exact absurd hw List.not_mem_nil
      · have hl : ∀ x ∈ l, fitW (szs im) x = 0 := fun x hx => h1 x (List.mem_append_left _ hx)
        have e := szs_appL hs hl
        obtain ⟨v0, s0, hw⟩ := fitW_of (sizes := szs (appL im l)) (w := w) (by rw [e]; exact hs) (by rw [e]; exact h1 w (by simp))
        rw [appL_snoc, sec_apply1 hw]
        by_cases hc : covW w v i
        · rw [if_pos hc]; exact h2 w (by simp) hc
        · rw [if_neg hc]
          refine ih hl (fun x hx => h2 x (List.mem_append_left _ hx)) ?_
          obtain ⟨x, hx, hcx⟩ := h3
          rcases List.mem_append.1 hx with hx | hx
          · exact ⟨x, hx, hcx⟩
          · rw [List.mem_singleton.1 hx] at hcx; exact absurd hcx hc
    refine key ws hf (fun w hw hc => ?_) ?_
    · have := hcv w hw hc
      rw [hm] at this
      exact (Option.some.inj this).symm
    · obtain ⟨w, hw, h1, h2, h3⟩ := c.cov _ _ hm
      exact ⟨w, hw, h1, h2, h3⟩
theorem can_eff {sizes : List Int} (hs : ¬ sizesE sizes ≠ 0) {l : List api_Write} (hf : ∀ w ∈ l, fitW sizes w = 0) : Can (effM l) (canL (effM l)) := canL_can (effM_nodup l) fun q hq => (eff_in hs hf q hq).1
theorem appL_can {im : List (List Sec)} (hs : ¬ sizesE (szs im) ≠ 0) {l : List api_Write} (hf : ∀ w ∈ l, fitW (szs im) w = 0) : appL im (canL (effM l)) = appL im l := by
  have c := can_eff hs hf
  have cf := can_fit c (eff_in hs hf)
  refine im_ext (by rw [szs_appL hs cf, szs_appL hs hf]) fun v i _ _ => ?_
  rw [sec_can hs c cf, sec_eff hs l hf]
def orK {S R : Type} (a : S → Prop) (b : R → Prop) : S ⊕ R → Prop
 | .inl s => a s
 | .inr r => b r
def loopS {S R : Type} (step : S → Option (S ⊕ R)) : Nat → S → Option R
 | 0, _ => none
 | n + 1, s => match step s with
  | none => none
  | some (.inl s') => loopS step n s'
  | some (.inr r) => some r
theorem LoopW.of_S {S R : Type} {step : S → (S → Prop) → Prop} {stepS : S → Option (S ⊕ R)} {K : R → Prop} (hs : ∀ s q rec, stepS s = some q → orK rec K q → step s rec) : ∀ (n : Nat) (s : S) {o : R}, loopS stepS n s = some o → K o → LoopW step s := by
  intro n s o h hK
  refine ⟨n, ?_⟩
  induction n generalizing s with
  | zero => cases h
  | succ n ih =>
    unfold loopS at h
    split at h
    · cases h
    · rename_i s' e
      exact hs s _ _ e (ih s' h)
    · rename_i r e
      cases h
      exact hs s _ _ e hK
theorem ofBind {α β : Type} {x : Option α} {f : α → Option β} {o : β} (h : Option.bind x f = some o) : ∃ v, x = some v ∧ f v = some o := Option.bind_eq_some_iff.1 h
theorem ofIf {α : Type} {p : Prop} [Decidable p] {x : Option α} {o : α} (h : (if p then x else none) = some o) : p ∧ x = some o := by
  by_cases hp : p
  · rw [if_pos hp] at h; exact ⟨hp, h⟩
  · rw [if_neg hp] at h; cases h
theorem ofT {α : Type} {p : Prop} [Decidable p] {x y : Option α} {o : α} (hp : p) (h : (if p then x else y) = some o) : x = some o := by rw [if_pos hp] at h; exact h
theorem ofF {α : Type} {p : Prop} [Decidable p] {x y : Option α} {o : α} (hp : ¬ p) (h : (if p then x else y) = some o) : y = some o := by rw [if_neg hp] at h; exact h
def bothS {α : Type} [DecidableEq α] (b : Bool) (x y : Option α) : Option α := if b = true then (if x = y then x else none) else y
theorem ofBoth {α : Type} [DecidableEq α] {b : Bool} {x y : Option α} {o : α} (h : bothS b x y = some o) : (b = true → x = some o) ∧ y = some o := by
  unfold bothS at h
  by_cases hb : b = true
  · rw [if_pos hb] at h
    by_cases he : x = y
    · rw [if_pos he] at h; exact ⟨fun _ => h, he ▸ h⟩
    · rw [if_neg he] at h; cases h
  · rw [if_neg hb] at h; exact ⟨fun q => absurd q hb, h⟩
theorem lfS {α : Type} {K : α → Prop} {a o : α} (h : some a = some o) (hK : K o) : K a := by
  cases h; exact hK
theorem adS {α : Type} {p : Prop} [Decidable p] {x : Option α} {o : α} {B : Prop} (h : (if p then x else none) = some o) (b : x = some o → B) : p ∧ B := ⟨(ofIf h).1, b (ofIf h).2⟩
theorem ifS {α : Type} {p : Prop} [Decidable p] {x y : Option α} {o : α} {A B : Prop} (h : (if p then x else y) = some o) (a : x = some o → A) (b : y = some o → B) : (p → A) ∧ (¬ p → B) := ⟨fun c => a (ofT c h), fun c => b (ofF c h)⟩
theorem mpS {α β : Type} {g : α → β} {x : Option α} {o : β} {G : Prop} (h : Option.map g x = some o) (k : ∀ v, x = some v → g v = o → G) : G := by
  obtain ⟨v, h1, h2⟩ := Option.map_eq_some_iff.1 h
  exact k v h1 h2
theorem blS {α β : Type} {x : Option α} {f : α → Option β} {o : β} {G : Prop} (h : Option.bind x f = some o) (k : ∀ v, x = some v → f v = some o → G) : G := by
  obtain ⟨v, h1, h2⟩ := ofBind h
  exact k v h1 h2
instance decI (x : Int) : Decidable (inI x) := inferInstanceAs (Decidable (_ ∧ _))
instance decX (i : Int) (n : Nat) : Decidable (inX i n) := inferInstanceAs (Decidable (_ ∧ _))
instance decS (a b : Int) (n : Nat) : Decidable (inS a b n) := inferInstanceAs (Decidable (_ ∧ _))
instance decL (n b : Nat) : Decidable (lenOk n b) := inferInstanceAs (Decidable (_ ∧ _))
theorem nl2S {α : Type} [DecidableEq α] {p : Prop} [Decidable p] {x y : Option α} {o : α} {A B : Prop} (h : bothS (decide p) x y = some o) (a : x = some o → A) (b : y = some o → B) : (p → A) ∧ B := ⟨fun c => a ((ofBoth h).1 (decide_eq_true c)), b (ofBoth h).2⟩
def genS {S Y R : Type} (step : S → Option (List Y × (S ⊕ R))) : Nat → S → Option (List Y × R)
 | 0, _ => none
 | n + 1, s => match step s with
  | none => none
  | some (ys, .inr o) => some (ys, o)
  | some (ys, .inl s') => (genS step n s').map fun q => (ys ++ q.1, q.2)
theorem LoopW.of_G {S Y R : Type} {step : (List Y × S) → ((List Y × S) → Prop) → Prop} {stepS : S → Option (List Y × (S ⊕ R))} {K : List Y → R → Prop} (hs : ∀ s ys q r rec, stepS s = some (ys, q) → orK (fun s => rec (r, s)) (K r) q → step (ys ++ r, s) rec) : ∀ (n : Nat) (s : S) {ys : List Y} {o : R} (r : List Y), genS stepS n s = some (ys, o) → K r o → LoopW step (ys ++ r, s) := by
  intro n s ys o r h hK
  refine ⟨n, ?_⟩
  induction n generalizing s ys with
  | zero => cases h
  | succ n ih =>
    unfold genS at h
    split at h
    · cases h
    · rename_i ys o e
      cases h
      exact hs s _ _ _ (LoopN step n) e hK
    · rename_i ys s' e
      obtain ⟨v, h1, h2⟩ := Option.map_eq_some_iff.1 h
      cases h2
      rw [List.append_assoc]
      exact hs s _ _ _ (LoopN step n) e (show LoopN step n (v.1 ++ r, s') from ih s' h1)
def Z92 (x0 : Int) : Option (Bool) :=
 if x0 < 1 then
  some (true)
 else
  some (decide (4096 < x0))
theorem image_checkSizes_1_sound (x0 : Int) {Φ : Bool → Prop} {o} (h : Z92 x0 = some o) (hK : Φ o) : Z0 x0 Φ := by
  unfold Z92 at h
  unfold Z0
  exact ifS h (fun h => have t := lfS h hK; t) fun h => have t := lfS h hK; t
def Z93 (x0 : List Int) : (Int) → Option ((Int) ⊕ (Int))
 | v1 =>
  if v1 < (x0.length : Int) then
   if inX v1 x0.length then
   Option.bind (Z92 (ix x0 v1)) fun v2 =>
   if v2 = true then
    if 0 ≤ v1 then
     some (.inr 2)
    else
     some (.inr 0)
   else
    if inI (v1 + 1) then
    some (.inl (v1 + 1))
    else none
   else none
  else
   if 0 ≤ ((-1) : Int) then
    some (.inr 2)
   else
    some (.inr 0)
theorem image_checkSizes_L1_sound (x0 : List Int) (s : Int) {Φ : Int → Prop} {rec1 : (Int) → Prop} {o} (h : Z93 x0 s = some o) (hK : (orK rec1 Φ) o) : Z1 x0 Φ s rec1 := by
  unfold Z93 at h
  unfold Z1
  exact ifS h (fun h => adS h fun h => blS h fun _ hv h => image_checkSizes_1_sound _ hv (ifS h (fun h => ifS h (fun h => have t := lfS h hK; t) fun h => have t := lfS h hK; t) fun h => adS h fun h => have t := lfS h hK; t)) fun h => ifS h (fun h => have t := lfS h hK; t) fun h => have t := lfS h hK; t
def Z94 (x0 : List Int) : Option (Int) :=
 if (x0.length : Int) < 1 then
  some (6)
 else
  if 8 < (x0.length : Int) then
   some (6)
  else
   loopS (Z93 x0) 100000 0
theorem image_checkSizes_sound (x0 : List Int) {Φ : Int → Prop} {o} (h : Z94 x0 = some o) (hK : Φ o) : Z2 x0 Φ := by
  unfold Z94 at h
  unfold Z2
  exact ifS h (fun h => have t := lfS h hK; t) fun h => ifS h (fun h => have t := lfS h hK; t) fun h => LoopW.of_S (fun s q rec hs hq => image_checkSizes_L1_sound _ s hs hq) _ _ h hK
def image_New_1_S (x0 : Int) : Option (List Sec) :=
 if 0 ≤ x0 then
 if lenOk x0.toNat 8 then
 some ((List.replicate x0.toNat (sec0 : Sec)))
 else none
 else none
theorem image_New_1_sound (x0 : Int) {Φ : List Sec → Prop} {o} (h : image_New_1_S x0 = some o) (hK : Φ o) : image_New_1_W x0 Φ := by
  unfold image_New_1_S at h
  unfold image_New_1_W
  exact adS h fun h => adS h fun h => have t := lfS h hK; t
def Z95 (x0 : List Int) : (Int × List (List Sec)) → Option ((Int × List (List Sec)) ⊕ (List (List Sec) × Int))
 | (v2, v3) =>
  if v2 < (x0.length : Int) then
   if inX v2 x0.length then
   Option.bind (image_New_1_S (ix x0 v2)) fun v4 =>
   if lenOk (v3 ++ ([v4] : List (List Sec))).length 24 then
   if inI (v2 + 1) then
   some (.inl ((v2 + 1), (v3 ++ ([v4] : List (List Sec)))))
   else none
   else none
   else none
  else
   some (.inr (v3, 0))
theorem image_New_L1_sound (x0 : List Int) (s : Int × List (List Sec)) {Φ : List (List Sec) × Int → Prop} {rec1 : (Int × List (List Sec)) → Prop} {o} (h : Z95 x0 s = some o) (hK : (orK rec1 Φ) o) : image_New_L1 x0 Φ s rec1 := by
  obtain ⟨v2, v3⟩ := s
  unfold Z95 at h
  unfold image_New_L1
  exact ifS h (fun h => adS h fun h => blS h fun _ hv h => image_New_1_sound _ hv (adS h fun h => adS h fun h => have t := lfS h hK; t)) fun h => have t := lfS h hK; t
def image_New_S (x0 : List Int) : Option (List (List Sec) × Int) :=
 Option.bind (Z94 x0) fun v1 =>
 if v1 ≠ 0 then
  some ((([] : List (List Sec)), v1))
 else
  if 0 ≤ (x0.length : Int) then
  if lenOk (x0.length : Int).toNat 24 then
  loopS (Z95 x0) 100000 (0, ([] : List (List Sec)))
  else none
  else none
theorem image_New_sound (x0 : List Int) {Φ : List (List Sec) × Int → Prop} {o} (h : image_New_S x0 = some o) (hK : Φ o) : image_New_W x0 Φ := by
  unfold image_New_S at h
  unfold image_New_W
  exact blS h fun _ hv h => image_checkSizes_sound _ hv (ifS h (fun h => have t := lfS h hK; t) fun h => adS h fun h => adS h fun h => LoopW.of_S (fun s q rec hs hq => image_New_L1_sound _ s hs hq) _ _ h hK)
def cycle_in_S (x0 : Int) (x1 : Int) (x2 : Int) : Option (Bool) :=
 if x1 ≤ x0 then
  some (decide (x0 ≤ x2))
 else
  some (false)
theorem cycle_in_sound (x0 : Int) (x1 : Int) (x2 : Int) {Φ : Bool → Prop} {o} (h : cycle_in_S x0 x1 x2 = some o) (hK : Φ o) : cycle_in_W x0 x1 x2 Φ := by
  unfold cycle_in_S at h
  unfold cycle_in_W
  exact ifS h (fun h => have t := lfS h hK; t) fun h => have t := lfS h hK; t
def Z96 (x0 : List Int) : Option (List Int) :=
 bothS (decide (x0 = [])) (
  some (([] : List Int))) (
  if lenOk (([] : List Int) ++ x0).length 8 then
  some ((([] : List Int) ++ x0))
  else none)
theorem slices_Clone_int_int_sound (x0 : List Int) {Φ : List Int → Prop} {o} (h : Z96 x0 = some o) (hK : Φ o) : Z3 x0 Φ := by
  unfold Z96 at h
  unfold Z3
  exact nl2S h (fun h => have t := lfS h hK; t) fun h => adS h fun h => have t := lfS h hK; t
def cycle_Open_S (x0 : List Int) (x1 : Int) (x2 : Int) : Option (api_Capture × Int) :=
 Option.bind (image_New_S x0) fun v1 =>
 if v1.2 ≠ 0 then
  some (((api_Capture.mk 0 ([] : List Int) ([] : List Int) ([] : List Int) ([] : List api_Write)), v1.2))
 else
  Option.bind (cycle_in_S x1 1 8) fun v2 =>
  if ¬ (v2 = true) then
   some (((api_Capture.mk 0 ([] : List Int) ([] : List Int) ([] : List Int) ([] : List api_Write)), 6))
  else
   Option.bind (cycle_in_S x2 0 1073741823) fun v3 =>
   if ¬ (v3 = true) then
    some (((api_Capture.mk 0 ([] : List Int) ([] : List Int) ([] : List Int) ([] : List api_Write)), 2))
   else
    Option.bind (Z96 x0) fun z =>
    let v4 : List Int × Unit := (z, ())
    if 0 ≤ x1 then
    if lenOk x1.toNat 8 then
    some (((api_Capture.mk x2 v4.1 (List.replicate x1.toNat (0 : Int)) ([] : List Int) ([] : List api_Write)), 0))
    else none
    else none
theorem cycle_Open_sound (x0 : List Int) (x1 : Int) (x2 : Int) {Φ : api_Capture × Int → Prop} {o} (h : cycle_Open_S x0 x1 x2 = some o) (hK : Φ o) : cycle_Open_W x0 x1 x2 Φ := by
  unfold cycle_Open_S at h
  unfold cycle_Open_W
  exact blS h fun _ hv h => image_New_sound _ hv (ifS h (fun h => have t := lfS h hK; t) fun h => blS h fun _ hv h => cycle_in_sound _ _ _ hv (ifS h (fun h => have t := lfS h hK; t) fun h => blS h fun _ hv h => cycle_in_sound _ _ _ hv (ifS h (fun h => have t := lfS h hK; t) fun h => blS h fun _ hv h => ⟨_, slices_Clone_int_int_sound _ hv rfl, adS h fun h => adS h fun h => have t := lfS h hK; t⟩)))
def Z97 (x0 : Int) (x1 : Int) (x2 : List (BitVec 8)) : (Int × List Sec) → Option ((Int × List Sec) ⊕ (api_Write))
 | (v1, v2) =>
  if v1 < (x2.length : Int) then
   if inX v1 x2.length then
   if lenOk (v2 ++ ([(Sec.mk (ix x2 v1) (0#8) (0#8) (0#8) (0#8) (0#8) (0#8) (0#8))] : List Sec)).length 8 then
   if inI (v1 + 1) then
   some (.inl ((v1 + 1), (v2 ++ ([(Sec.mk (ix x2 v1) (0#8) (0#8) (0#8) (0#8) (0#8) (0#8) (0#8))] : List Sec))))
   else none
   else none
   else none
  else
   some (.inr (api_Write.mk x0 x1 v2))
theorem law23_write_L1_sound (x0 : Int) (x1 : Int) (x2 : List (BitVec 8)) (s : Int × List Sec) {Φ : api_Write → Prop} {rec1 : (Int × List Sec) → Prop} {o} (h : Z97 x0 x1 x2 s = some o) (hK : (orK rec1 Φ) o) : Z4 x0 x1 x2 Φ s rec1 := by
  obtain ⟨v1, v2⟩ := s
  unfold Z97 at h
  unfold Z4
  exact ifS h (fun h => adS h fun h => adS h fun h => adS h fun h => have t := lfS h hK; t) fun h => have t := lfS h hK; t
def law23_write_S (x0 : Int) (x1 : Int) (x2 : List (BitVec 8)) : Option (api_Write) :=
 loopS (Z97 x0 x1 x2) 100000 (0, ([] : List Sec))
theorem law23_write_sound (x0 : Int) (x1 : Int) (x2 : List (BitVec 8)) {Φ : api_Write → Prop} {o} (h : law23_write_S x0 x1 x2 = some o) (hK : Φ o) : law23_write_W x0 x1 x2 Φ := by
  unfold law23_write_S at h
  unfold law23_write_W
  exact LoopW.of_S (fun s q rec hs hq => law23_write_L1_sound _ _ _ s hs hq) _ _ h hK
def Z98 (x0 : Int) : Option (Bool) :=
 Option.bind (cycle_in_S x0 0 1073741824) fun v1 =>
 some (decide (¬ (v1 = true)))
theorem cycle_positions_1_sound (x0 : Int) {Φ : Bool → Prop} {o} (h : Z98 x0 = some o) (hK : Φ o) : Z5 x0 Φ := by
  unfold Z98 at h
  unfold Z5
  exact blS h fun _ hv h => cycle_in_sound _ _ _ hv (have t := lfS h hK; t)
def Z99 (x0 : List Int) : (Int) → Option ((Int) ⊕ (Int))
 | v2 =>
  if v2 < (x0.length : Int) then
   if inX v2 x0.length then
   Option.bind (Z98 (ix x0 v2)) fun v3 =>
   if v3 = true then
    if 0 ≤ v2 then
     some (.inr 2)
    else
     some (.inr 0)
   else
    if inI (v2 + 1) then
    some (.inl (v2 + 1))
    else none
   else none
  else
   if 0 ≤ ((-1) : Int) then
    some (.inr 2)
   else
    some (.inr 0)
theorem cycle_positions_L1_sound (x0 : List Int) (s : Int) {Φ : Int → Prop} {rec1 : (Int) → Prop} {o} (h : Z99 x0 s = some o) (hK : (orK rec1 Φ) o) : Z6 x0 Φ s rec1 := by
  unfold Z99 at h
  unfold Z6
  exact ifS h (fun h => adS h fun h => blS h fun _ hv h => cycle_positions_1_sound _ hv (ifS h (fun h => ifS h (fun h => have t := lfS h hK; t) fun h => have t := lfS h hK; t) fun h => adS h fun h => have t := lfS h hK; t)) fun h => ifS h (fun h => have t := lfS h hK; t) fun h => have t := lfS h hK; t
def Z100 (x0 : List Int) (x1 : Int) : Option (Int) :=
 Option.bind (cycle_in_S (x0.length : Int) x1 8) fun v1 =>
 if ¬ (v1 = true) then
  some (6)
 else
  loopS (Z99 x0) 100000 0
theorem cycle_positions_sound (x0 : List Int) (x1 : Int) {Φ : Int → Prop} {o} (h : Z100 x0 x1 = some o) (hK : Φ o) : Z7 x0 x1 Φ := by
  unfold Z100 at h
  unfold Z7
  exact blS h fun _ hv h => cycle_in_sound _ _ _ hv (ifS h (fun h => have t := lfS h hK; t) fun h => LoopW.of_S (fun s q rec hs hq => cycle_positions_L1_sound _ s hs hq) _ _ h hK)
def Z101 (x0 : List Sec) : Option (Int) :=
 some ((x0.length : Int))
theorem image_sizes_1_sound (x0 : List Sec) {Φ : Int → Prop} {o} (h : Z101 x0 = some o) (hK : Φ o) : Z8 x0 Φ := by
  unfold Z101 at h
  unfold Z8
  exact have t := lfS h hK; t
def Z102 (x0 : List (List Sec)) : (Int × List Int) → Option ((Int × List Int) ⊕ (List Int))
 | (v1, v2) =>
  if v1 < (x0.length : Int) then
   if inX v1 x0.length then
   Option.bind (Z101 (ix x0 v1)) fun v3 =>
   if lenOk (v2 ++ ([v3] : List Int)).length 8 then
   if inI (v1 + 1) then
   some (.inl ((v1 + 1), (v2 ++ ([v3] : List Int))))
   else none
   else none
   else none
  else
   some (.inr v2)
theorem image_sizes_L1_sound (x0 : List (List Sec)) (s : Int × List Int) {Φ : List Int → Prop} {rec1 : (Int × List Int) → Prop} {o} (h : Z102 x0 s = some o) (hK : (orK rec1 Φ) o) : Z9 x0 Φ s rec1 := by
  obtain ⟨v1, v2⟩ := s
  unfold Z102 at h
  unfold Z9
  exact ifS h (fun h => adS h fun h => blS h fun _ hv h => image_sizes_1_sound _ hv (adS h fun h => adS h fun h => have t := lfS h hK; t)) fun h => have t := lfS h hK; t
def image_sizes_S (x0 : List (List Sec)) : Option (List Int) :=
 if 0 ≤ (x0.length : Int) then
 if lenOk (x0.length : Int).toNat 8 then
 loopS (Z102 x0) 100000 (0, ([] : List Int))
 else none
 else none
theorem image_sizes_sound (x0 : List (List Sec)) {Φ : List Int → Prop} {o} (h : image_sizes_S x0 = some o) (hK : Φ o) : image_sizes_W x0 Φ := by
  unfold image_sizes_S at h
  unfold image_sizes_W
  exact adS h fun h => adS h fun h => LoopW.of_S (fun s q rec hs hq => image_sizes_L1_sound _ s hs hq) _ _ h hK
def image_Check_S (x0 : List (List Sec)) : Option (Int) :=
 Option.bind (image_sizes_S x0) fun v1 =>
 Option.bind (Z94 v1) fun v2 =>
 some (v2)
theorem image_Check_sound (x0 : List (List Sec)) {Φ : Int → Prop} {o} (h : image_Check_S x0 = some o) (hK : Φ o) : image_Check_W x0 Φ := by
  unfold image_Check_S at h
  unfold image_Check_W
  exact blS h fun _ hv h => image_sizes_sound _ hv (blS h fun _ hv h => image_checkSizes_sound _ hv (have t := lfS h hK; t))
def Z103 (x0 : List (List Sec)) (x1 : api_Write) : (Bool) → Option (Int)
 | v1 =>
  if v1 = true then
   some (7)
  else
   if (x1.Data.length : Int) = 0 then
    some (1)
   else
    if x1.Start < 0 then
     some (2)
    else
     if inX x1.Volume x0.length then
     if inI (((ix x0 x1.Volume).length : Int) - (x1.Data.length : Int)) then
     if (((ix x0 x1.Volume).length : Int) - (x1.Data.length : Int)) < x1.Start then
      some (2)
     else
      some (0)
     else none
     else none
theorem image_fits_J1_sound (x0 : List (List Sec)) (x1 : api_Write) (s : Bool) {Φ : Int → Prop} {o} (h : Z103 x0 x1 s = some o) (hK : Φ o) : image_fits_J1 x0 x1 Φ s := by
  unfold Z103 at h
  unfold image_fits_J1
  exact ifS h (fun h => have t := lfS h hK; t) fun h => ifS h (fun h => have t := lfS h hK; t) fun h => ifS h (fun h => have t := lfS h hK; t) fun h => adS h fun h => adS h fun h => ifS h (fun h => have t := lfS h hK; t) fun h => have t := lfS h hK; t
def image_fits_S (x0 : List (List Sec)) (x1 : api_Write) : Option (Int) :=
 if x1.Volume < 0 then
  Z103 x0 x1 true
 else
  Z103 x0 x1 (decide ((x0.length : Int) ≤ x1.Volume))
theorem image_fits_sound (x0 : List (List Sec)) (x1 : api_Write) {Φ : Int → Prop} {o} (h : image_fits_S x0 x1 = some o) (hK : Φ o) : image_fits_W x0 x1 Φ := by
  unfold image_fits_S at h
  unfold image_fits_W
  exact ifS h (fun h => image_fits_J1_sound _ _ _ h hK) fun h => image_fits_J1_sound _ _ _ h hK
def image_Fits_S (x0 : List (List Sec)) (x1 : api_Write) : Option (Int) :=
 Option.bind (image_Check_S x0) fun v1 =>
 if v1 ≠ 0 then
  some (v1)
 else
  Option.bind (image_fits_S x0 x1) fun v2 =>
  some (v2)
theorem image_Fits_sound (x0 : List (List Sec)) (x1 : api_Write) {Φ : Int → Prop} {o} (h : image_Fits_S x0 x1 = some o) (hK : Φ o) : image_Fits_W x0 x1 Φ := by
  unfold image_Fits_S at h
  unfold image_Fits_W
  exact blS h fun _ hv h => image_Check_sound _ hv (ifS h (fun h => have t := lfS h hK; t) fun h => blS h fun _ hv h => image_fits_sound _ _ hv (have t := lfS h hK; t))
def Z104 (x0 : List Sec) : Option (List Sec) :=
 bothS (decide (x0 = [])) (
  some (([] : List Sec))) (
  if lenOk (([] : List Sec) ++ x0).length 8 then
  some ((([] : List Sec) ++ x0))
  else none)
theorem slices_Clone_api_Sector_api_Sector_sound (x0 : List Sec) {Φ : List Sec → Prop} {o} (h : Z104 x0 = some o) (hK : Φ o) : Z10 x0 Φ := by
  unfold Z104 at h
  unfold Z10
  exact nl2S h (fun h => have t := lfS h hK; t) fun h => adS h fun h => have t := lfS h hK; t
def Z105 (x0 : api_Write) : Option (api_Write) :=
 Option.bind (Z104 x0.Data) fun v1 =>
 some ((api_Write.mk x0.Volume x0.Start v1))
theorem cycle_copied_sound (x0 : api_Write) {Φ : api_Write → Prop} {o} (h : Z105 x0 = some o) (hK : Φ o) : Z11 x0 Φ := by
  unfold Z105 at h
  unfold Z11
  exact blS h fun _ hv h => slices_Clone_api_Sector_api_Sector_sound _ hv (have t := lfS h hK; t)
def Z106 (x0 : api_Capture) (v1 : List Int × Unit) (v2 : List Int × Unit) (v3 : List Int × Unit) : (Int × List api_Write) → Option ((Int × List api_Write) ⊕ (api_Capture))
 | (v4, v5) =>
  if v4 < (x0.Writes.length : Int) then
   if inX v4 x0.Writes.length then
   Option.bind (Z105 (ix x0.Writes v4)) fun v6 =>
   if lenOk (v5 ++ ([v6] : List api_Write)).length 40 then
   if inI (v4 + 1) then
   some (.inl ((v4 + 1), (v5 ++ ([v6] : List api_Write))))
   else none
   else none
   else none
  else
   some (.inr (api_Capture.mk x0.Number v1.1 v2.1 v3.1 v5))
theorem cycle_cloned_L1_sound (x0 : api_Capture) (v1 : List Int × Unit) (v2 : List Int × Unit) (v3 : List Int × Unit) (s : Int × List api_Write) {Φ : api_Capture → Prop} {rec1 : (Int × List api_Write) → Prop} {o} (h : Z106 x0 v1 v2 v3 s = some o) (hK : (orK rec1 Φ) o) : Z12 x0 v1 v2 v3 Φ s rec1 := by
  obtain ⟨v4, v5⟩ := s
  unfold Z106 at h
  unfold Z12
  exact ifS h (fun h => adS h fun h => blS h fun _ hv h => cycle_copied_sound _ hv (adS h fun h => adS h fun h => have t := lfS h hK; t)) fun h => have t := lfS h hK; t
def Z107 (x0 : api_Capture) : Option (api_Capture) :=
 Option.bind (Z96 x0.Sizes) fun z =>
 let v1 : List Int × Unit := (z, ())
 Option.bind (Z96 x0.Positions) fun z =>
 let v2 : List Int × Unit := (z, ())
 Option.bind (Z96 x0.Nodes) fun z =>
 let v3 : List Int × Unit := (z, ())
 loopS (Z106 x0 v1 v2 v3) 100000 (0, ([] : List api_Write))
theorem cycle_cloned_sound (x0 : api_Capture) {Φ : api_Capture → Prop} {o} (h : Z107 x0 = some o) (hK : Φ o) : Z13 x0 Φ := by
  unfold Z107 at h
  unfold Z13
  exact blS h fun _ hv h => ⟨_, slices_Clone_int_int_sound _ hv rfl, blS h fun _ hv h => ⟨_, slices_Clone_int_int_sound _ hv rfl, blS h fun _ hv h => ⟨_, slices_Clone_int_int_sound _ hv rfl, LoopW.of_S (fun s q rec hs hq => cycle_cloned_L1_sound _ _ _ _ s hs hq) _ _ h hK⟩⟩⟩
def Z108 (x0 : api_Capture) (x1 : Int) (x2 : api_Write) (v1 : List (List Sec) × Int) : (Int) → Option ((Int) ⊕ (api_Capture × Int))
 | v4 =>
  if v4 < (x0.Writes.length : Int) then
   if inX v4 x0.Writes.length then
   if inX v4 x0.Nodes.length then
   if inI ((x0.Positions.length : Int) - 1) then
   Option.bind (cycle_in_S (ix x0.Nodes v4) 0 ((x0.Positions.length : Int) - 1)) fun v5 =>
   if ¬ (v5 = true) then
    some (.inr ((api_Capture.mk 0 ([] : List Int) ([] : List Int) ([] : List Int) ([] : List api_Write)), 7))
   else
    Option.bind (image_Fits_S v1.1 (ix x0.Writes v4)) fun v6 =>
    if ¬ (v6 = 0) then
     some (.inr ((api_Capture.mk 0 ([] : List Int) ([] : List Int) ([] : List Int) ([] : List api_Write)), v6))
    else
     if inI (v4 + 1) then
     some (.inl (v4 + 1))
     else none
   else none
   else none
   else none
  else
   if inI ((x0.Positions.length : Int) - 1) then
   Option.bind (cycle_in_S x1 0 ((x0.Positions.length : Int) - 1)) fun v7 =>
   if ¬ (v7 = true) then
    some (.inr ((api_Capture.mk 0 ([] : List Int) ([] : List Int) ([] : List Int) ([] : List api_Write)), 7))
   else
    Option.bind (image_Fits_S v1.1 x2) fun v8 =>
    if ¬ (v8 = 0) then
     some (.inr ((api_Capture.mk 0 ([] : List Int) ([] : List Int) ([] : List Int) ([] : List api_Write)), v8))
    else
     if ¬ ((x0.Writes.length : Int) < 4096) then
      some (.inr ((api_Capture.mk 0 ([] : List Int) ([] : List Int) ([] : List Int) ([] : List api_Write)), 11))
     else
      Option.bind (Z107 x0) fun v9 =>
      if lenOk (v9.Nodes ++ ([x1] : List Int)).length 8 then
      Option.bind (Z105 x2) fun z =>
      let v10 : api_Write × Unit := (z, ())
      if lenOk (v9.Writes ++ ([v10.1] : List api_Write)).length 40 then
      some (.inr ((api_Capture.mk v9.Number v9.Sizes v9.Positions (v9.Nodes ++ ([x1] : List Int)) (v9.Writes ++ ([v10.1] : List api_Write))), 0))
      else none
      else none
   else none
theorem cycle_Add_L1_sound (x0 : api_Capture) (x1 : Int) (x2 : api_Write) (v1 : List (List Sec) × Int) (s : Int) {Φ : api_Capture × Int → Prop} {rec1 : (Int) → Prop} {o} (h : Z108 x0 x1 x2 v1 s = some o) (hK : (orK rec1 Φ) o) : cycle_Add_L1 x0 x1 x2 v1 Φ s rec1 := by
  unfold Z108 at h
  unfold cycle_Add_L1
  exact ifS h (fun h => adS h fun h => adS h fun h => adS h fun h => blS h fun _ hv h => cycle_in_sound _ _ _ hv (ifS h (fun h => have t := lfS h hK; t) fun h => blS h fun _ hv h => image_Fits_sound _ _ hv (ifS h (fun h => have t := lfS h hK; t) fun h => adS h fun h => have t := lfS h hK; t))) fun h => adS h fun h => blS h fun _ hv h => cycle_in_sound _ _ _ hv (ifS h (fun h => have t := lfS h hK; t) fun h => blS h fun _ hv h => image_Fits_sound _ _ hv (ifS h (fun h => have t := lfS h hK; t) fun h => ifS h (fun h => have t := lfS h hK; t) fun h => blS h fun _ hv h => cycle_cloned_sound _ hv (adS h fun h => blS h fun _ hv h => ⟨_, cycle_copied_sound _ hv rfl, adS h fun h => have t := lfS h hK; t⟩)))
def cycle_Add_S (x0 : api_Capture) (x1 : Int) (x2 : api_Write) : Option (api_Capture × Int) :=
 Option.bind (image_New_S x0.Sizes) fun v1 =>
 if ¬ (v1.2 = 0) then
  some (((api_Capture.mk 0 ([] : List Int) ([] : List Int) ([] : List Int) ([] : List api_Write)), v1.2))
 else
  Option.bind (cycle_in_S x0.Number 0 1073741823) fun v2 =>
  if ¬ (v2 = true) then
   some (((api_Capture.mk 0 ([] : List Int) ([] : List Int) ([] : List Int) ([] : List api_Write)), 2))
  else
   Option.bind (Z100 x0.Positions 1) fun v3 =>
   if ¬ (v3 = 0) then
    some (((api_Capture.mk 0 ([] : List Int) ([] : List Int) ([] : List Int) ([] : List api_Write)), v3))
   else
    if (x0.Nodes.length : Int) = (x0.Writes.length : Int) then
     if ¬ ((x0.Writes.length : Int) ≤ 4096) then
      some (((api_Capture.mk 0 ([] : List Int) ([] : List Int) ([] : List Int) ([] : List api_Write)), 6))
     else
      loopS (Z108 x0 x1 x2 v1) 100000 0
    else
     some (((api_Capture.mk 0 ([] : List Int) ([] : List Int) ([] : List Int) ([] : List api_Write)), 6))
theorem cycle_Add_sound (x0 : api_Capture) (x1 : Int) (x2 : api_Write) {Φ : api_Capture × Int → Prop} {o} (h : cycle_Add_S x0 x1 x2 = some o) (hK : Φ o) : cycle_Add_W x0 x1 x2 Φ := by
  unfold cycle_Add_S at h
  unfold cycle_Add_W
  exact blS h fun _ hv h => image_New_sound _ hv (ifS h (fun h => have t := lfS h hK; t) fun h => blS h fun _ hv h => cycle_in_sound _ _ _ hv (ifS h (fun h => have t := lfS h hK; t) fun h => blS h fun _ hv h => cycle_positions_sound _ _ hv (ifS h (fun h => have t := lfS h hK; t) fun h => ifS h (fun h => ifS h (fun h => have t := lfS h hK; t) fun h => LoopW.of_S (fun s q rec hs hq => cycle_Add_L1_sound _ _ _ _ s hs hq) _ _ h hK) fun h => have t := lfS h hK; t)))
def Z109 (x0 : Int) : Option (Bool) :=
 some (decide (0 < x0))
theorem cycle_divide_1_sound (x0 : Int) {Φ : Bool → Prop} {o} (h : Z109 x0 = some o) (hK : Φ o) : Z14 x0 Φ := by
  unfold Z109 at h
  unfold Z14
  exact have t := lfS h hK; t
def Z110 (x0 : cycle_division) (x1 : Bool) : (Int) → Option (List (Int × api_Write × Unit) × ((Int) ⊕ (Unit)))
 | v1 =>
  if v1 < (x0.c.Writes.length : Int) then
   if inX v1 x0.c.Writes.length then
   if inX v1 x0.part.length then
   if (ix x0.part v1) = x1 then
    Option.map (fun q => ((v1, (ix x0.c.Writes v1), ()) :: q.1, q.2)) (
     if inI (v1 + 1) then
     some ([], .inl (v1 + 1))
     else none)
   else
    if inI (v1 + 1) then
    some ([], .inl (v1 + 1))
    else none
   else none
   else none
  else
   some ([], .inr ())
theorem cycle_division_writes_1_L1_sound (x0 : cycle_division) (x1 : Bool) (s : Int) {ys : List (Int × api_Write × Unit)} {q} {r : List (Int × api_Write × Unit)} {rec1 : (List (Int × api_Write × Unit) × Int) → Prop} (h : Z110 x0 x1 s = some (ys, q)) (hr : (orK (fun s => rec1 (r, s)) (fun _ => r = [])) q) : Z15 x0 x1 (ys ++ r, s) rec1 := by
  unfold Z110 at h
  unfold Z15
  exact ifS h (fun h => adS h fun h => adS h fun h => ifS h (fun h => mpS h fun q_ h_ he => (by obtain ⟨_, _⟩ := q_; cases he; exact ⟨rfl, (have h := h_; adS h fun h => (by cases h; exact hr)), trivial⟩)) fun h => adS h fun h => (by cases h; exact hr)) fun h => (by cases h; exact hr)
def cycle_division_writes_1_S0 (x0 : cycle_division) (x1 : Bool) : Option (List (Int × api_Write × Unit) × Unit) :=
 genS (Z110 x0 x1) 100000 0
def Z111 (x0 : cycle_division) (x1 : Bool) : Option (List (Int × api_Write × Unit)) := Option.map Prod.fst (cycle_division_writes_1_S0 x0 x1)
theorem cycle_division_writes_1_sound (x0 : cycle_division) (x1 : Bool) {l : List (Int × api_Write × Unit)} (h : Z111 x0 x1 = some l) : cycle_division_writes_1_I x0 x1 l := by
  obtain ⟨⟨ys, q⟩, h0, h1⟩ := Option.map_eq_some_iff.1 h
  clear h
  have h := h0
  subst h1
  unfold cycle_division_writes_1_S0 at h
  unfold cycle_division_writes_1_I
  have hr : (fun _ => ([] : List (Int × api_Write × Unit)) = []) q := rfl
  rw [← List.append_nil ys]
  exact LoopW.of_G (K := fun r => (fun _ => r = [])) (fun s ys q r rec hs hr => cycle_division_writes_1_L1_sound _ _ s hs hr) _ _ _ h hr
def Z112 (v1 : api_Write) (v2 : List Sec) (v3 : Int × api_Write × Unit) (r4 : List (Int × api_Write × Unit)) : (Int × List Sec) → Option ((Int × List Sec) ⊕ ((List (Int × api_Write × Unit) × List Sec) ⊕ (api_Write)))
 | (v6, v7) =>
  if v6 < (v2.length : Int) then
   if inI (v1.Start + v6) then
   if inI ((v1.Start + v6) - v3.2.1.Start) then
   if inI ((v3.2.1.Data.length : Int) - 1) then
   Option.bind (cycle_in_S ((v1.Start + v6) - v3.2.1.Start) 0 ((v3.2.1.Data.length : Int) - 1)) fun v8 =>
   if v8 = true then
    if inX ((v1.Start + v6) - v3.2.1.Start) v3.2.1.Data.length then
    if inX v6 v7.length then
    if inI (v6 + 1) then
    some (.inl ((v6 + 1), (put v7 v6 (ix v3.2.1.Data ((v1.Start + v6) - v3.2.1.Start)))))
    else none
    else none
    else none
   else
    if inI (v6 + 1) then
    some (.inl ((v6 + 1), v7))
    else none
   else none
   else none
   else none
  else
   some (.inr (.inl (r4, v7)))
theorem cycle_division_later_L3_sound (v1 : api_Write) (v2 : List Sec) (v3 : Int × api_Write × Unit) (r4 : List (Int × api_Write × Unit)) (s : Int × List Sec) {Φ : api_Write → Prop} {rec1 : (List (Int × api_Write × Unit) × List Sec) → Prop} {rec3 : (Int × List Sec) → Prop} {o} (h : Z112 v1 v2 v3 r4 s = some o) (hK : (orK rec3 (orK rec1 Φ)) o) : Z30 v1 v2 rec1 v3 r4 Φ s rec3 := by
  obtain ⟨v6, v7⟩ := s
  unfold Z112 at h
  unfold Z30
  exact ifS h (fun h => adS h fun h => adS h fun h => adS h fun h => blS h fun _ hv h => cycle_in_sound _ _ _ hv (ifS h (fun h => adS h fun h => adS h fun h => adS h fun h => have t := lfS h hK; t) fun h => adS h fun h => have t := lfS h hK; t)) fun h => have t := lfS h hK; t
def Z113 (v1 : api_Write) (v2 : List Sec) (v3 : Int × api_Write × Unit) (r4 : List (Int × api_Write × Unit)) : (Bool) → Option ((List (Int × api_Write × Unit) × List Sec) ⊕ (api_Write))
 | v5 =>
  if v5 = true then
   some (.inl (r4, v2))
  else
   loopS (Z112 v1 v2 v3 r4) 100000 (0, v2)
theorem cycle_division_later_J2_sound (v1 : api_Write) (v2 : List Sec) (v3 : Int × api_Write × Unit) (r4 : List (Int × api_Write × Unit)) (s : Bool) {Φ : api_Write → Prop} {rec1 : (List (Int × api_Write × Unit) × List Sec) → Prop} {o} (h : Z113 v1 v2 v3 r4 s = some o) (hK : (orK rec1 Φ) o) : Z31 v1 v2 rec1 v3 r4 Φ s := by
  unfold Z113 at h
  unfold Z31
  exact ifS h (fun h => have t := lfS h hK; t) fun h => LoopW.of_S (fun s q rec hs hq => cycle_division_later_L3_sound _ _ _ _ s hs hq) _ _ h hK
def Z114 (x1 : Int) (v1 : api_Write) : (List (Int × api_Write × Unit) × List Sec) → Option ((List (Int × api_Write × Unit) × List Sec) ⊕ (api_Write))
 | (lst, v2) =>
  match lst with
  | [] =>
   some (.inr (api_Write.mk v1.Volume v1.Start v2))
  | v3 :: r4 =>
   if v3.1 < x1 then
    Z113 v1 v2 v3 r4 true
   else
    Z113 v1 v2 v3 r4 (decide (v3.2.1.Volume ≠ v1.Volume))
theorem cycle_division_later_L1_sound (x1 : Int) (v1 : api_Write) (s : List (Int × api_Write × Unit) × List Sec) {Φ : api_Write → Prop} {rec1 : (List (Int × api_Write × Unit) × List Sec) → Prop} {o} (h : Z114 x1 v1 s = some o) (hK : (orK rec1 Φ) o) : Z32 x1 v1 Φ s rec1 := by
  obtain ⟨lst, v2⟩ := s
  unfold Z114 at h
  unfold Z32
  cases lst with
  | nil => exact have t := lfS h hK; t
  | cons _ _ => exact ifS h (fun h => cycle_division_later_J2_sound _ _ _ _ _ h hK) fun h => cycle_division_later_J2_sound _ _ _ _ _ h hK
def Z115 (x0 : cycle_division) (x1 : Int) (x2 : api_Write) : Option (api_Write) :=
 Option.bind (Z105 x2) fun v1 =>
 Option.bind (Z111 x0 true) fun l9 =>
 loopS (Z114 x1 v1) 100000 (l9, v1.Data)
theorem cycle_division_later_sound (x0 : cycle_division) (x1 : Int) (x2 : api_Write) {Φ : api_Write → Prop} {o} (h : Z115 x0 x1 x2 = some o) (hK : Φ o) : Z33 x0 x1 x2 Φ := by
  unfold Z115 at h
  unfold Z33
  exact blS h fun _ hv h => cycle_copied_sound _ hv (blS h fun _ hv h => ⟨_, cycle_division_writes_1_sound _ _ hv, LoopW.of_S (fun s q rec hs hq => cycle_division_later_L1_sound _ _ s hs hq) _ _ h hK⟩)
def Z116 (x0 : api_Capture) (x1 : Int) (v12 : List Bool) (v18 : List api_Write × Int) (v19 : List Int × Unit) (v20 : List Int × Unit) (v21 : List Int × Unit) : (List (Int × api_Write × Unit) × (List Int × List api_Write)) → Option ((List (Int × api_Write × Unit) × (List Int × List api_Write)) ⊕ ((List (Int × api_Write × Unit) × List api_Write) ⊕ ((Int) ⊕ ((Int × List Int × List Bool) ⊕ ((Int × List Int) ⊕ ((Int) ⊕ (api_Capture × api_Cycle × Int)))))))
 | (lst, v22, v23) =>
  match lst with
  | [] =>
   some (.inr (.inr (.inr (.inr (.inr (.inr ((api_Capture.mk (x0.Number + 1) v20.1 v21.1 v22 v23), (api_Cycle.mk x0.Number (x0.Number + 1) x1 v19.1 v18.1), 0)))))))
  | v24 :: r25 =>
   if inX v24.1 x0.Nodes.length then
   if lenOk (v22 ++ ([(ix x0.Nodes v24.1)] : List Int)).length 8 then
   Option.bind (Z115 (cycle_division.mk x0 v12) v24.1 v24.2.1) fun z =>
   let v26 : api_Write × Unit := (z, ())
   if lenOk (v23 ++ ([v26.1] : List api_Write)).length 40 then
   some (.inl (r25, ((v22 ++ ([(ix x0.Nodes v24.1)] : List Int)), (v23 ++ ([v26.1] : List api_Write)))))
   else none
   else none
   else none
theorem cycle_Close_L6_sound (x0 : api_Capture) (x1 : Int) (v12 : List Bool) (v18 : List api_Write × Int) (v19 : List Int × Unit) (v20 : List Int × Unit) (v21 : List Int × Unit) (s : List (Int × api_Write × Unit) × (List Int × List api_Write)) {Φ : api_Capture × api_Cycle × Int → Prop} {rec1 : (Int) → Prop} {rec2 : (Int × List Int) → Prop} {rec3 : (Int × List Int × List Bool) → Prop} {rec4 : (Int) → Prop} {rec5 : (List (Int × api_Write × Unit) × List api_Write) → Prop} {rec6 : (List (Int × api_Write × Unit) × (List Int × List api_Write)) → Prop} {o} (h : Z116 x0 x1 v12 v18 v19 v20 v21 s = some o) (hK : (orK rec6 (orK rec5 (orK rec4 (orK rec3 (orK rec2 (orK rec1 Φ)))))) o) : Z34 x0 x1 v12 v18 v19 v20 v21 Φ s rec6 := by
  obtain ⟨lst, v22, v23⟩ := s
  unfold Z116 at h
  unfold Z34
  cases lst with
  | nil => exact have t := lfS h hK; t
  | cons _ _ => exact adS h fun h => adS h fun h => blS h fun _ hv h => ⟨_, cycle_division_later_sound _ _ _ hv rfl, adS h fun h => have t := lfS h hK; t⟩
def Z117 (x0 : api_Capture) (x1 : Int) (x2 : List Int) (v12 : List Bool) : (List (Int × api_Write × Unit) × List api_Write) → Option ((List (Int × api_Write × Unit) × List api_Write) ⊕ ((Int) ⊕ ((Int × List Int × List Bool) ⊕ ((Int × List Int) ⊕ ((Int) ⊕ (api_Capture × api_Cycle × Int))))))
 | (lst, v15) =>
  match lst with
  | [] =>
   Option.bind (Z90 v15) fun v18 =>
   if ¬ (v18.2 = 0) then
    some (.inr (.inr (.inr (.inr (.inr ((api_Capture.mk 0 ([] : List Int) ([] : List Int) ([] : List Int) ([] : List api_Write)), (api_Cycle.mk 0 0 0 ([] : List Int) ([] : List api_Write)), v18.2))))))
   else
    if inI (x0.Number + 1) then
    Option.bind (Z96 x2) fun z =>
    let v19 : List Int × Unit := (z, ())
    if inI (x0.Number + 1) then
    Option.bind (Z96 x0.Sizes) fun z =>
    let v20 : List Int × Unit := (z, ())
    Option.bind (Z96 x2) fun z =>
    let v21 : List Int × Unit := (z, ())
    Option.bind (Z111 (cycle_division.mk x0 v12) false) fun l27 =>
    loopS (Z116 x0 x1 v12 v18 v19 v20 v21) 100000 (l27, (([] : List Int), ([] : List api_Write)))
    else none
    else none
  | v16 :: r17 =>
   if lenOk (v15 ++ ([v16.2.1] : List api_Write)).length 40 then
   some (.inl (r17, (v15 ++ ([v16.2.1] : List api_Write))))
   else none
theorem cycle_Close_L5_sound (x0 : api_Capture) (x1 : Int) (x2 : List Int) (v12 : List Bool) (s : List (Int × api_Write × Unit) × List api_Write) {Φ : api_Capture × api_Cycle × Int → Prop} {rec1 : (Int) → Prop} {rec2 : (Int × List Int) → Prop} {rec3 : (Int × List Int × List Bool) → Prop} {rec4 : (Int) → Prop} {rec5 : (List (Int × api_Write × Unit) × List api_Write) → Prop} {o} (h : Z117 x0 x1 x2 v12 s = some o) (hK : (orK rec5 (orK rec4 (orK rec3 (orK rec2 (orK rec1 Φ))))) o) : Z35 x0 x1 x2 v12 Φ s rec5 := by
  obtain ⟨lst, v15⟩ := s
  unfold Z117 at h
  unfold Z35
  cases lst with
  | nil => exact blS h fun _ hv h => coalesce_Fold_sound _ hv (ifS h (fun h => have t := lfS h hK; t) fun h => adS h fun h => blS h fun _ hv h => ⟨_, slices_Clone_int_int_sound _ hv rfl, adS h fun h => blS h fun _ hv h => ⟨_, slices_Clone_int_int_sound _ hv rfl, blS h fun _ hv h => ⟨_, slices_Clone_int_int_sound _ hv rfl, blS h fun _ hv h => ⟨_, cycle_division_writes_1_sound _ _ hv, LoopW.of_S (fun s q rec hs hq => cycle_Close_L6_sound _ _ _ _ _ _ _ s hs hq) _ _ h hK⟩⟩⟩⟩)
  | cons _ _ => exact adS h fun h => have t := lfS h hK; t
def Z118 (x0 : api_Capture) (x1 : Int) (v12 : List Bool) (v32 : List api_Write × Int) (v33 : List Int × Unit) (v34 : List Int × Unit) (v35 : List Int × Unit) : (List (Int × api_Write × Unit) × (List Int × List api_Write)) → Option ((List (Int × api_Write × Unit) × (List Int × List api_Write)) ⊕ ((List (Int × api_Write × Unit) × List api_Write) ⊕ ((Int) ⊕ ((Int × List Int × List Bool) ⊕ ((Int × List Int) ⊕ ((Int) ⊕ (api_Capture × api_Cycle × Int)))))))
 | (lst, v36, v37) =>
  match lst with
  | [] =>
   some (.inr (.inr (.inr (.inr (.inr (.inr ((api_Capture.mk (x0.Number + 1) v34.1 v35.1 v36 v37), (api_Cycle.mk x0.Number (x0.Number + 1) x1 v33.1 v32.1), 0)))))))
  | v38 :: r39 =>
   if inX v38.1 x0.Nodes.length then
   if lenOk (v36 ++ ([(ix x0.Nodes v38.1)] : List Int)).length 8 then
   Option.bind (Z115 (cycle_division.mk x0 v12) v38.1 v38.2.1) fun z =>
   let v40 : api_Write × Unit := (z, ())
   if lenOk (v37 ++ ([v40.1] : List api_Write)).length 40 then
   some (.inl (r39, ((v36 ++ ([(ix x0.Nodes v38.1)] : List Int)), (v37 ++ ([v40.1] : List api_Write)))))
   else none
   else none
   else none
theorem cycle_Close_L8_sound (x0 : api_Capture) (x1 : Int) (v12 : List Bool) (v32 : List api_Write × Int) (v33 : List Int × Unit) (v34 : List Int × Unit) (v35 : List Int × Unit) (s : List (Int × api_Write × Unit) × (List Int × List api_Write)) {Φ : api_Capture × api_Cycle × Int → Prop} {rec1 : (Int) → Prop} {rec2 : (Int × List Int) → Prop} {rec3 : (Int × List Int × List Bool) → Prop} {rec4 : (Int) → Prop} {rec7 : (List (Int × api_Write × Unit) × List api_Write) → Prop} {rec8 : (List (Int × api_Write × Unit) × (List Int × List api_Write)) → Prop} {o} (h : Z118 x0 x1 v12 v32 v33 v34 v35 s = some o) (hK : (orK rec8 (orK rec7 (orK rec4 (orK rec3 (orK rec2 (orK rec1 Φ)))))) o) : Z36 x0 x1 v12 v32 v33 v34 v35 Φ s rec8 := by
  obtain ⟨lst, v36, v37⟩ := s
  unfold Z118 at h
  unfold Z36
  cases lst with
  | nil => exact have t := lfS h hK; t
  | cons _ _ => exact adS h fun h => adS h fun h => blS h fun _ hv h => ⟨_, cycle_division_later_sound _ _ _ hv rfl, adS h fun h => have t := lfS h hK; t⟩
def Z119 (x0 : api_Capture) (x1 : Int) (x2 : List Int) (v12 : List Bool) : (List (Int × api_Write × Unit) × List api_Write) → Option ((List (Int × api_Write × Unit) × List api_Write) ⊕ ((Int) ⊕ ((Int × List Int × List Bool) ⊕ ((Int × List Int) ⊕ ((Int) ⊕ (api_Capture × api_Cycle × Int))))))
 | (lst, v29) =>
  match lst with
  | [] =>
   Option.bind (Z90 v29) fun v32 =>
   if ¬ (v32.2 = 0) then
    some (.inr (.inr (.inr (.inr (.inr ((api_Capture.mk 0 ([] : List Int) ([] : List Int) ([] : List Int) ([] : List api_Write)), (api_Cycle.mk 0 0 0 ([] : List Int) ([] : List api_Write)), v32.2))))))
   else
    if inI (x0.Number + 1) then
    Option.bind (Z96 x2) fun z =>
    let v33 : List Int × Unit := (z, ())
    if inI (x0.Number + 1) then
    Option.bind (Z96 x0.Sizes) fun z =>
    let v34 : List Int × Unit := (z, ())
    Option.bind (Z96 x2) fun z =>
    let v35 : List Int × Unit := (z, ())
    Option.bind (Z111 (cycle_division.mk x0 v12) false) fun l41 =>
    loopS (Z118 x0 x1 v12 v32 v33 v34 v35) 100000 (l41, (([] : List Int), ([] : List api_Write)))
    else none
    else none
  | v30 :: r31 =>
   if lenOk (v29 ++ ([v30.2.1] : List api_Write)).length 40 then
   some (.inl (r31, (v29 ++ ([v30.2.1] : List api_Write))))
   else none
theorem cycle_Close_L7_sound (x0 : api_Capture) (x1 : Int) (x2 : List Int) (v12 : List Bool) (s : List (Int × api_Write × Unit) × List api_Write) {Φ : api_Capture × api_Cycle × Int → Prop} {rec1 : (Int) → Prop} {rec2 : (Int × List Int) → Prop} {rec3 : (Int × List Int × List Bool) → Prop} {rec4 : (Int) → Prop} {rec7 : (List (Int × api_Write × Unit) × List api_Write) → Prop} {o} (h : Z119 x0 x1 x2 v12 s = some o) (hK : (orK rec7 (orK rec4 (orK rec3 (orK rec2 (orK rec1 Φ))))) o) : Z37 x0 x1 x2 v12 Φ s rec7 := by
  obtain ⟨lst, v29⟩ := s
  unfold Z119 at h
  unfold Z37
  cases lst with
  | nil => exact blS h fun _ hv h => coalesce_Fold_sound _ hv (ifS h (fun h => have t := lfS h hK; t) fun h => adS h fun h => blS h fun _ hv h => ⟨_, slices_Clone_int_int_sound _ hv rfl, adS h fun h => blS h fun _ hv h => ⟨_, slices_Clone_int_int_sound _ hv rfl, blS h fun _ hv h => ⟨_, slices_Clone_int_int_sound _ hv rfl, blS h fun _ hv h => ⟨_, cycle_division_writes_1_sound _ _ hv, LoopW.of_S (fun s q rec hs hq => cycle_Close_L8_sound _ _ _ _ _ _ _ s hs hq) _ _ h hK⟩⟩⟩⟩)
  | cons _ _ => exact adS h fun h => have t := lfS h hK; t
def Z120 (x0 : api_Capture) (x1 : Int) (x2 : List Int) (v11 : List Int) (v12 : List Bool) : (Int) → Option ((Int) ⊕ ((Int × List Int × List Bool) ⊕ ((Int × List Int) ⊕ ((Int) ⊕ (api_Capture × api_Cycle × Int)))))
 | v13 =>
  if v13 < (v11.length : Int) then
   if inX v13 v11.length then
   Option.bind (Z109 (ix v11 v13)) fun v14 =>
   if v14 = true then
    if ¬ (¬ (0 ≤ v13)) then
     some (.inr (.inr (.inr (.inr ((api_Capture.mk 0 ([] : List Int) ([] : List Int) ([] : List Int) ([] : List api_Write)), (api_Cycle.mk 0 0 0 ([] : List Int) ([] : List api_Write)), 2)))))
    else
     Option.bind (Z111 (cycle_division.mk x0 v12) true) fun l28 =>
     loopS (Z117 x0 x1 x2 v12) 100000 (l28, ([] : List api_Write))
   else
    if inI (v13 + 1) then
    some (.inl (v13 + 1))
    else none
   else none
  else
   if ¬ (¬ (0 ≤ ((-1) : Int))) then
    some (.inr (.inr (.inr (.inr ((api_Capture.mk 0 ([] : List Int) ([] : List Int) ([] : List Int) ([] : List api_Write)), (api_Cycle.mk 0 0 0 ([] : List Int) ([] : List api_Write)), 2)))))
   else
    Option.bind (Z111 (cycle_division.mk x0 v12) true) fun l42 =>
    loopS (Z119 x0 x1 x2 v12) 100000 (l42, ([] : List api_Write))
theorem cycle_Close_L4_sound (x0 : api_Capture) (x1 : Int) (x2 : List Int) (v11 : List Int) (v12 : List Bool) (s : Int) {Φ : api_Capture × api_Cycle × Int → Prop} {rec1 : (Int) → Prop} {rec2 : (Int × List Int) → Prop} {rec3 : (Int × List Int × List Bool) → Prop} {rec4 : (Int) → Prop} {o} (h : Z120 x0 x1 x2 v11 v12 s = some o) (hK : (orK rec4 (orK rec3 (orK rec2 (orK rec1 Φ)))) o) : Z38 x0 x1 x2 v11 v12 Φ s rec4 := by
  unfold Z120 at h
  unfold Z38
  exact ifS h (fun h => adS h fun h => blS h fun _ hv h => cycle_divide_1_sound _ hv (ifS h (fun h => ifS h (fun h => have t := lfS h hK; t) fun h => blS h fun _ hv h => ⟨_, cycle_division_writes_1_sound _ _ hv, LoopW.of_S (fun s q rec hs hq => cycle_Close_L5_sound _ _ _ _ s hs hq) _ _ h hK⟩) fun h => adS h fun h => have t := lfS h hK; t)) fun h => ifS h (fun h => have t := lfS h hK; t) fun h => blS h fun _ hv h => ⟨_, cycle_division_writes_1_sound _ _ hv, LoopW.of_S (fun s q rec hs hq => cycle_Close_L7_sound _ _ _ _ s hs hq) _ _ h hK⟩
def Z121 (x0 : api_Capture) (x1 : Int) (x2 : List Int) : (Int × List Int × List Bool) → Option ((Int × List Int × List Bool) ⊕ ((Int × List Int) ⊕ ((Int) ⊕ (api_Capture × api_Cycle × Int))))
 | (v10, v11, v12) =>
  if v10 < (x0.Nodes.length : Int) then
   if inX v10 x0.Nodes.length then
   if inX (ix x0.Nodes v10) v11.length then
   if lenOk (v12 ++ ([decide (0 < (ix v11 (ix x0.Nodes v10)))] : List Bool)).length 1 then
   if inX (ix x0.Nodes v10) v11.length then
   if inI ((ix v11 (ix x0.Nodes v10)) - 1) then
   if inX (ix x0.Nodes v10) v11.length then
   if inI (v10 + 1) then
   some (.inl ((v10 + 1), (put v11 (ix x0.Nodes v10) (if ((ix v11 (ix x0.Nodes v10)) - 1) < 0 then 0 else ((ix v11 (ix x0.Nodes v10)) - 1))), (v12 ++ ([decide (0 < (ix v11 (ix x0.Nodes v10)))] : List Bool))))
   else none
   else none
   else none
   else none
   else none
   else none
   else none
  else
   loopS (Z120 x0 x1 x2 v11 v12) 100000 0
theorem cycle_Close_L3_sound (x0 : api_Capture) (x1 : Int) (x2 : List Int) (s : Int × List Int × List Bool) {Φ : api_Capture × api_Cycle × Int → Prop} {rec1 : (Int) → Prop} {rec2 : (Int × List Int) → Prop} {rec3 : (Int × List Int × List Bool) → Prop} {o} (h : Z121 x0 x1 x2 s = some o) (hK : (orK rec3 (orK rec2 (orK rec1 Φ))) o) : Z39 x0 x1 x2 Φ s rec3 := by
  obtain ⟨v10, v11, v12⟩ := s
  unfold Z121 at h
  unfold Z39
  exact ifS h (fun h => adS h fun h => adS h fun h => adS h fun h => adS h fun h => adS h fun h => adS h fun h => adS h fun h => have t := lfS h hK; t) fun h => LoopW.of_S (fun s q rec hs hq => cycle_Close_L4_sound _ _ _ _ _ s hs hq) _ _ h hK
def Z122 (x0 : api_Capture) (x1 : Int) (x2 : List Int) : (Int × List Int) → Option ((Int × List Int) ⊕ ((Int) ⊕ (api_Capture × api_Cycle × Int)))
 | (v8, v9) =>
  if v8 < (x2.length : Int) then
   if inX v8 x2.length then
   if inX v8 x0.Positions.length then
   if inX v8 v9.length then
   if inX v8 (put v9 v8 (Go.IntKind.wrap Go.IntKind.i64 ((ix x2 v8) - (ix x0.Positions v8)))).length then
   if ¬ (0 ≤ (ix (put v9 v8 (Go.IntKind.wrap Go.IntKind.i64 ((ix x2 v8) - (ix x0.Positions v8)))) v8)) then
    some (.inr (.inr ((api_Capture.mk 0 ([] : List Int) ([] : List Int) ([] : List Int) ([] : List api_Write)), (api_Cycle.mk 0 0 0 ([] : List Int) ([] : List api_Write)), 2)))
   else
    if inI (v8 + 1) then
    some (.inl ((v8 + 1), (put v9 v8 (Go.IntKind.wrap Go.IntKind.i64 ((ix x2 v8) - (ix x0.Positions v8))))))
    else none
   else none
   else none
   else none
   else none
  else
   loopS (Z121 x0 x1 x2) 100000 (0, v9, ([] : List Bool))
theorem cycle_Close_L2_sound (x0 : api_Capture) (x1 : Int) (x2 : List Int) (s : Int × List Int) {Φ : api_Capture × api_Cycle × Int → Prop} {rec1 : (Int) → Prop} {rec2 : (Int × List Int) → Prop} {o} (h : Z122 x0 x1 x2 s = some o) (hK : (orK rec2 (orK rec1 Φ)) o) : Z40 x0 x1 x2 Φ s rec2 := by
  obtain ⟨v8, v9⟩ := s
  unfold Z122 at h
  unfold Z40
  exact ifS h (fun h => adS h fun h => adS h fun h => adS h fun h => adS h fun h => ifS h (fun h => have t := lfS h hK; t) fun h => adS h fun h => have t := lfS h hK; t) fun h => LoopW.of_S (fun s q rec hs hq => cycle_Close_L3_sound _ _ _ s hs hq) _ _ h hK
def Z123 (x0 : api_Capture) (x1 : Int) (x2 : List Int) (v1 : List (List Sec) × Int) : (Int) → Option ((Int) ⊕ (api_Capture × api_Cycle × Int))
 | v4 =>
  if v4 < (x0.Writes.length : Int) then
   if inX v4 x0.Writes.length then
   if inX v4 x0.Nodes.length then
   if inI ((x0.Positions.length : Int) - 1) then
   Option.bind (cycle_in_S (ix x0.Nodes v4) 0 ((x0.Positions.length : Int) - 1)) fun v5 =>
   if ¬ (v5 = true) then
    some (.inr ((api_Capture.mk 0 ([] : List Int) ([] : List Int) ([] : List Int) ([] : List api_Write)), (api_Cycle.mk 0 0 0 ([] : List Int) ([] : List api_Write)), 7))
   else
    Option.bind (image_Fits_S v1.1 (ix x0.Writes v4)) fun v6 =>
    if ¬ (v6 = 0) then
     some (.inr ((api_Capture.mk 0 ([] : List Int) ([] : List Int) ([] : List Int) ([] : List api_Write)), (api_Cycle.mk 0 0 0 ([] : List Int) ([] : List api_Write)), v6))
    else
     if inI (v4 + 1) then
     some (.inl (v4 + 1))
     else none
   else none
   else none
   else none
  else
   Option.bind (cycle_in_S x1 0 1073741824) fun v7 =>
   if ¬ (v7 = true) then
    some (.inr ((api_Capture.mk 0 ([] : List Int) ([] : List Int) ([] : List Int) ([] : List api_Write)), (api_Cycle.mk 0 0 0 ([] : List Int) ([] : List api_Write)), 24))
   else
    if ¬ ((x2.length : Int) = (x0.Positions.length : Int)) then
     some (.inr ((api_Capture.mk 0 ([] : List Int) ([] : List Int) ([] : List Int) ([] : List api_Write)), (api_Cycle.mk 0 0 0 ([] : List Int) ([] : List api_Write)), 6))
    else
     if 0 ≤ (x2.length : Int) then
     if lenOk (x2.length : Int).toNat 8 then
     loopS (Z122 x0 x1 x2) 100000 (0, (List.replicate (x2.length : Int).toNat (0 : Int)))
     else none
     else none
theorem cycle_Close_L1_sound (x0 : api_Capture) (x1 : Int) (x2 : List Int) (v1 : List (List Sec) × Int) (s : Int) {Φ : api_Capture × api_Cycle × Int → Prop} {rec1 : (Int) → Prop} {o} (h : Z123 x0 x1 x2 v1 s = some o) (hK : (orK rec1 Φ) o) : Z41 x0 x1 x2 v1 Φ s rec1 := by
  unfold Z123 at h
  unfold Z41
  exact ifS h (fun h => adS h fun h => adS h fun h => adS h fun h => blS h fun _ hv h => cycle_in_sound _ _ _ hv (ifS h (fun h => have t := lfS h hK; t) fun h => blS h fun _ hv h => image_Fits_sound _ _ hv (ifS h (fun h => have t := lfS h hK; t) fun h => adS h fun h => have t := lfS h hK; t))) fun h => blS h fun _ hv h => cycle_in_sound _ _ _ hv (ifS h (fun h => have t := lfS h hK; t) fun h => ifS h (fun h => have t := lfS h hK; t) fun h => adS h fun h => adS h fun h => LoopW.of_S (fun s q rec hs hq => cycle_Close_L2_sound _ _ _ s hs hq) _ _ h hK)
def cycle_Close_S (x0 : api_Capture) (x1 : Int) (x2 : List Int) : Option (api_Capture × api_Cycle × Int) :=
 Option.bind (image_New_S x0.Sizes) fun v1 =>
 if ¬ (v1.2 = 0) then
  some (((api_Capture.mk 0 ([] : List Int) ([] : List Int) ([] : List Int) ([] : List api_Write)), (api_Cycle.mk 0 0 0 ([] : List Int) ([] : List api_Write)), v1.2))
 else
  Option.bind (cycle_in_S x0.Number 0 1073741823) fun v2 =>
  if ¬ (v2 = true) then
   some (((api_Capture.mk 0 ([] : List Int) ([] : List Int) ([] : List Int) ([] : List api_Write)), (api_Cycle.mk 0 0 0 ([] : List Int) ([] : List api_Write)), 2))
  else
   Option.bind (Z100 x0.Positions 1) fun v3 =>
   if ¬ (v3 = 0) then
    some (((api_Capture.mk 0 ([] : List Int) ([] : List Int) ([] : List Int) ([] : List api_Write)), (api_Cycle.mk 0 0 0 ([] : List Int) ([] : List api_Write)), v3))
   else
    if (x0.Nodes.length : Int) = (x0.Writes.length : Int) then
     if ¬ ((x0.Writes.length : Int) ≤ 4096) then
      some (((api_Capture.mk 0 ([] : List Int) ([] : List Int) ([] : List Int) ([] : List api_Write)), (api_Cycle.mk 0 0 0 ([] : List Int) ([] : List api_Write)), 6))
     else
      loopS (Z123 x0 x1 x2 v1) 100000 0
    else
     some (((api_Capture.mk 0 ([] : List Int) ([] : List Int) ([] : List Int) ([] : List api_Write)), (api_Cycle.mk 0 0 0 ([] : List Int) ([] : List api_Write)), 6))
theorem cycle_Close_sound (x0 : api_Capture) (x1 : Int) (x2 : List Int) {Φ : api_Capture × api_Cycle × Int → Prop} {o} (h : cycle_Close_S x0 x1 x2 = some o) (hK : Φ o) : cycle_Close_W x0 x1 x2 Φ := by
  unfold cycle_Close_S at h
  unfold cycle_Close_W
  exact blS h fun _ hv h => image_New_sound _ hv (ifS h (fun h => have t := lfS h hK; t) fun h => blS h fun _ hv h => cycle_in_sound _ _ _ hv (ifS h (fun h => have t := lfS h hK; t) fun h => blS h fun _ hv h => cycle_positions_sound _ _ hv (ifS h (fun h => have t := lfS h hK; t) fun h => ifS h (fun h => ifS h (fun h => have t := lfS h hK; t) fun h => LoopW.of_S (fun s q rec hs hq => cycle_Close_L1_sound _ _ _ _ s hs hq) _ _ h hK) fun h => have t := lfS h hK; t)))
def Z124 (x0 : List Sec) (x1 : List Sec) : (Int) → Option ((Int) ⊕ (Bool))
 | v1 =>
  if v1 < (x0.length : Int) then
   if inX v1 x0.length then
   if inX v1 x1.length then
   if (ix x0 v1) ≠ (ix x1 v1) then
    some (.inr false)
   else
    if inI (v1 + 1) then
    some (.inl (v1 + 1))
    else none
   else none
   else none
  else
   some (.inr true)
theorem ref03_SameSectors_L1_sound (x0 : List Sec) (x1 : List Sec) (s : Int) {Φ : Bool → Prop} {rec1 : (Int) → Prop} {o} (h : Z124 x0 x1 s = some o) (hK : (orK rec1 Φ) o) : Z42 x0 x1 Φ s rec1 := by
  unfold Z124 at h
  unfold Z42
  exact ifS h (fun h => adS h fun h => adS h fun h => ifS h (fun h => have t := lfS h hK; t) fun h => adS h fun h => have t := lfS h hK; t) fun h => have t := lfS h hK; t
def Z125 (x0 : List Sec) (x1 : List Sec) : Option (Bool) :=
 if (x0.length : Int) ≠ (x1.length : Int) then
  some (false)
 else
  loopS (Z124 x0 x1) 100000 0
theorem ref03_SameSectors_sound (x0 : List Sec) (x1 : List Sec) {Φ : Bool → Prop} {o} (h : Z125 x0 x1 = some o) (hK : Φ o) : Z43 x0 x1 Φ := by
  unfold Z125 at h
  unfold Z43
  exact ifS h (fun h => have t := lfS h hK; t) fun h => LoopW.of_S (fun s q rec hs hq => ref03_SameSectors_L1_sound _ _ s hs hq) _ _ h hK
def Z126 (x0 : List api_Write) (x1 : List api_Write) : (Int) → Option ((Int) ⊕ (Bool))
 | v1 =>
  if v1 < (x0.length : Int) then
   if inX v1 x0.length then
   if inX v1 x1.length then
   if ((ix x0 v1).Volume) ≠ ((ix x1 v1).Volume) then
    some (.inr false)
   else
    if inX v1 x0.length then
    if inX v1 x1.length then
    if ((ix x0 v1).Start) ≠ ((ix x1 v1).Start) then
     some (.inr false)
    else
     if inX v1 x0.length then
     if inX v1 x1.length then
     Option.bind (Z125 ((ix x0 v1).Data) ((ix x1 v1).Data)) fun z =>
     let v2 : Bool × Unit := (z, ())
     if ¬ (v2.1 = true) then
      some (.inr false)
     else
      if inI (v1 + 1) then
      some (.inl (v1 + 1))
      else none
     else none
     else none
    else none
    else none
   else none
   else none
  else
   some (.inr true)
theorem ref03_SameWrites_L1_sound (x0 : List api_Write) (x1 : List api_Write) (s : Int) {Φ : Bool → Prop} {rec1 : (Int) → Prop} {o} (h : Z126 x0 x1 s = some o) (hK : (orK rec1 Φ) o) : Z44 x0 x1 Φ s rec1 := by
  unfold Z126 at h
  unfold Z44
  exact ifS h (fun h => adS h fun h => adS h fun h => ifS h (fun h => have t := lfS h hK; t) fun h => adS h fun h => adS h fun h => ifS h (fun h => have t := lfS h hK; t) fun h => adS h fun h => adS h fun h => blS h fun _ hv h => ⟨_, ref03_SameSectors_sound _ _ hv rfl, ifS h (fun h => have t := lfS h hK; t) fun h => adS h fun h => have t := lfS h hK; t⟩) fun h => have t := lfS h hK; t
def Z127 (x0 : List api_Write) (x1 : List api_Write) : Option (Bool) :=
 if (x0.length : Int) ≠ (x1.length : Int) then
  some (false)
 else
  loopS (Z126 x0 x1) 100000 0
theorem ref03_SameWrites_sound (x0 : List api_Write) (x1 : List api_Write) {Φ : Bool → Prop} {o} (h : Z127 x0 x1 = some o) (hK : Φ o) : Z45 x0 x1 Φ := by
  unfold Z127 at h
  unfold Z45
  exact ifS h (fun h => have t := lfS h hK; t) fun h => LoopW.of_S (fun s q rec hs hq => ref03_SameWrites_L1_sound _ _ s hs hq) _ _ h hK
def ref22_Same_S (x0 : List api_Write) (x1 : List api_Write) : Option (Bool) :=
 Option.bind (Z127 x0 x1) fun v1 =>
 some (v1)
theorem ref22_Same_sound (x0 : List api_Write) (x1 : List api_Write) {Φ : Bool → Prop} {o} (h : ref22_Same_S x0 x1 = some o) (hK : Φ o) : ref22_Same_W x0 x1 Φ := by
  unfold ref22_Same_S at h
  unfold ref22_Same_W
  exact blS h fun _ hv h => ref03_SameWrites_sound _ _ hv (have t := lfS h hK; t)
def Z128 (x0 : BitVec 64) (x1 : BitVec 64) : Option (BitVec 64 × BitVec 64) :=
 some ((((((x0 >>> ((32#64).toNat : Int).toNat) * (x1 >>> ((32#64).toNat : Int).toNat)) + ((((x0 >>> ((32#64).toNat : Int).toNat) * (x1 &&& (4294967295#64))) + (((x0 &&& (4294967295#64)) * (x1 &&& (4294967295#64))) >>> ((32#64).toNat : Int).toNat)) >>> ((32#64).toNat : Int).toNat)) + ((((((x0 >>> ((32#64).toNat : Int).toNat) * (x1 &&& (4294967295#64))) + (((x0 &&& (4294967295#64)) * (x1 &&& (4294967295#64))) >>> ((32#64).toNat : Int).toNat)) &&& (4294967295#64)) + ((x0 &&& (4294967295#64)) * (x1 >>> ((32#64).toNat : Int).toNat))) >>> ((32#64).toNat : Int).toNat)), (x0 * x1)))
theorem math_bits_Mul64_sound (x0 : BitVec 64) (x1 : BitVec 64) {Φ : BitVec 64 × BitVec 64 → Prop} {o} (h : Z128 x0 x1 = some o) (hK : Φ o) : Z46 x0 x1 Φ := by
  unfold Z128 at h
  unfold Z46
  exact have t := lfS h hK; t
def Z129 (x0 : BitVec 64) (x1 : BitVec 64) : Option (BitVec 64 × BitVec 64) :=
 Option.bind (Z128 x0 x1) fun v1 =>
 some ((v1.1, v1.2))
theorem math_bits_Mul_sound (x0 : BitVec 64) (x1 : BitVec 64) {Φ : BitVec 64 × BitVec 64 → Prop} {o} (h : Z129 x0 x1 = some o) (hK : Φ o) : Z47 x0 x1 Φ := by
  unfold Z129 at h
  unfold Z47
  exact blS h fun _ hv h => math_bits_Mul64_sound _ _ hv (have t := lfS h hK; t)
def Z130 : (Int × List Int) → Option ((Int × List Int) ⊕ (List Int))
 | (v3, v4) =>
  if v3 < (v4.length : Int) then
   if inS v3 (v4.length : Int) v4.length then
   if inS 0 v3 v4.length then
   if inI (v3 + ((min (sub v4 0 v3).length (v4.length - (v3 : Int).toNat) : Nat) : Int)) then
   some (.inl ((v3 + ((min (sub v4 0 v3).length (v4.length - (v3 : Int).toNat) : Nat) : Int)), (paste v4 v3 (sub v4 0 v3))))
   else none
   else none
   else none
  else
   some (.inr v4)
theorem slices_Repeat_int_int_L2_sound (s : Int × List Int) {Φ : List Int → Prop} {rec2 : (Int × List Int) → Prop} {o} (h : Z130 s = some o) (hK : (orK rec2 Φ) o) : Z48 Φ s rec2 := by
  obtain ⟨v3, v4⟩ := s
  unfold Z130 at h
  unfold Z48
  exact ifS h (fun h => adS h fun h => adS h fun h => adS h fun h => have t := lfS h hK; t) fun h => have t := lfS h hK; t
def Z131 (x0 : List Int) (v1 : BitVec 64 × BitVec 64) : (Bool) → Option (List Int)
 | v2 =>
  if v2 = true then
   none
  else
   if 0 ≤ v1.2.toInt then
   if lenOk v1.2.toInt.toNat 8 then
   loopS (Z130) 100000 (((min x0.length ((List.replicate v1.2.toInt.toNat (0 : Int)).length - (0 : Int).toNat) : Nat) : Int), (paste (List.replicate v1.2.toInt.toNat (0 : Int)) 0 x0))
   else none
   else none
theorem slices_Repeat_int_int_J1_sound (x0 : List Int) (v1 : BitVec 64 × BitVec 64) (s : Bool) {Φ : List Int → Prop} {o} (h : Z131 x0 v1 s = some o) (hK : Φ o) : Z49 x0 v1 Φ s := by
  unfold Z131 at h
  unfold Z49
  exact ifS h (fun h => (by cases h)) fun h => adS h fun h => adS h fun h => LoopW.of_S (fun s q rec hs hq => slices_Repeat_int_int_L2_sound s hs hq) _ _ h hK
def Z132 (x0 : List Int) (x1 : Int) : Option (List Int) :=
 if x1 < 0 then
  none
 else
  Option.bind (Z129 (BitVec.ofInt 64 (x0.length : Int)) (BitVec.ofInt 64 x1)) fun v1 =>
  if (0#64) < v1.1 then
   Z131 x0 v1 true
  else
   Z131 x0 v1 (decide ((9223372036854775807#64) < v1.2))
theorem slices_Repeat_int_int_sound (x0 : List Int) (x1 : Int) {Φ : List Int → Prop} {o} (h : Z132 x0 x1 = some o) (hK : Φ o) : Z50 x0 x1 Φ := by
  unfold Z132 at h
  unfold Z50
  exact ifS h (fun h => (by cases h)) fun h => blS h fun _ hv h => math_bits_Mul_sound _ _ hv (ifS h (fun h => slices_Repeat_int_int_J1_sound _ _ _ h hK) fun h => slices_Repeat_int_int_J1_sound _ _ _ h hK)
def Z133 : Option (List Int) :=
 Option.bind (Z132 ([4096] : List Int) 8) fun v1 =>
 some (v1)
theorem cycle_largest_sound {Φ : List Int → Prop} {o} (h : Z133 = some o) (hK : Φ o) : Z51 Φ := by
  unfold Z133 at h
  unfold Z51
  exact blS h fun _ hv h => slices_Repeat_int_int_sound _ _ hv (have t := lfS h hK; t)
def Z134 (x0 : List api_Write) (v1 : List (List Sec) × Int) : (Int) → Option ((Int) ⊕ (Int))
 | v2 =>
  if v2 < (x0.length : Int) then
   if inX v2 x0.length then
   Option.bind (image_Fits_S v1.1 (ix x0 v2)) fun v3 =>
   if v3 ≠ 0 then
    some (.inr v3)
   else
    if v2 = 0 then
     if inI (v2 + 1) then
     some (.inl (v2 + 1))
     else none
    else
     if inI (v2 - 1) then
     if inX (v2 - 1) x0.length then
     if ((ix x0 v2).Volume) < ((ix x0 (v2 - 1)).Volume) then
      some (.inr 3)
     else
      if ((ix x0 v2).Volume) = ((ix x0 (v2 - 1)).Volume) then
       if inI (((ix x0 (v2 - 1)).Start) + (((ix x0 (v2 - 1)).Data).length : Int)) then
       if ((ix x0 v2).Start) ≤ (((ix x0 (v2 - 1)).Start) + (((ix x0 (v2 - 1)).Data).length : Int)) then
        some (.inr 3)
       else
        if inI (v2 + 1) then
        some (.inl (v2 + 1))
        else none
       else none
      else
       if inI (v2 + 1) then
       some (.inl (v2 + 1))
       else none
     else none
     else none
   else none
  else
   some (.inr 0)
theorem coalesce_Check_L1_sound (x0 : List api_Write) (v1 : List (List Sec) × Int) (s : Int) {Φ : Int → Prop} {rec1 : (Int) → Prop} {o} (h : Z134 x0 v1 s = some o) (hK : (orK rec1 Φ) o) : Z52 x0 v1 Φ s rec1 := by
  unfold Z134 at h
  unfold Z52
  exact ifS h (fun h => adS h fun h => blS h fun _ hv h => image_Fits_sound _ _ hv (ifS h (fun h => have t := lfS h hK; t) fun h => ifS h (fun h => adS h fun h => have t := lfS h hK; t) fun h => adS h fun h => adS h fun h => ifS h (fun h => have t := lfS h hK; t) fun h => ifS h (fun h => adS h fun h => ifS h (fun h => have t := lfS h hK; t) fun h => adS h fun h => have t := lfS h hK; t) fun h => adS h fun h => have t := lfS h hK; t)) fun h => have t := lfS h hK; t
def Z135 (x0 : List api_Write) (x1 : List Int) : Option (Int) :=
 Option.bind (image_New_S x1) fun v1 =>
 if v1.2 ≠ 0 then
  some (v1.2)
 else
  loopS (Z134 x0 v1) 100000 0
theorem coalesce_Check_sound (x0 : List api_Write) (x1 : List Int) {Φ : Int → Prop} {o} (h : Z135 x0 x1 = some o) (hK : Φ o) : Z53 x0 x1 Φ := by
  unfold Z135 at h
  unfold Z53
  exact blS h fun _ hv h => image_New_sound _ hv (ifS h (fun h => have t := lfS h hK; t) fun h => LoopW.of_S (fun s q rec hs hq => coalesce_Check_L1_sound _ _ s hs hq) _ _ h hK)
def Z136 (x0 : api_Cycle) (x1 : List Int) : (Bool) → Option (Int)
 | v2 =>
  if v2 = true then
   some (2)
  else
   Option.bind (cycle_in_S x0.Time 0 1073741824) fun v3 =>
   if ¬ (v3 = true) then
    some (24)
   else
    Option.bind (Z100 x0.Positions 0) fun v4 =>
    if v4 ≠ 0 then
     some (v4)
    else
     Option.bind (Z135 x0.Writes x1) fun v5 =>
     some (v5)
theorem cycle_Check_J1_sound (x0 : api_Cycle) (x1 : List Int) (s : Bool) {Φ : Int → Prop} {o} (h : Z136 x0 x1 s = some o) (hK : Φ o) : Z54 x0 x1 Φ s := by
  unfold Z136 at h
  unfold Z54
  exact ifS h (fun h => have t := lfS h hK; t) fun h => blS h fun _ hv h => cycle_in_sound _ _ _ hv (ifS h (fun h => have t := lfS h hK; t) fun h => blS h fun _ hv h => cycle_positions_sound _ _ hv (ifS h (fun h => have t := lfS h hK; t) fun h => blS h fun _ hv h => coalesce_Check_sound _ _ hv (have t := lfS h hK; t)))
def cycle_Check_S (x0 : api_Cycle) (x1 : List Int) : Option (Int) :=
 Option.bind (image_New_S x1) fun v1 =>
 if v1.2 ≠ 0 then
  some (v1.2)
 else
  if x0.Base < 0 then
   Z136 x0 x1 true
  else
   if x0.Number ≤ x0.Base then
    Z136 x0 x1 true
   else
    Z136 x0 x1 (decide (1073741824 < x0.Number))
theorem cycle_Check_sound (x0 : api_Cycle) (x1 : List Int) {Φ : Int → Prop} {o} (h : cycle_Check_S x0 x1 = some o) (hK : Φ o) : cycle_Check_W x0 x1 Φ := by
  unfold cycle_Check_S at h
  unfold cycle_Check_W
  exact blS h fun _ hv h => image_New_sound _ hv (ifS h (fun h => have t := lfS h hK; t) fun h => ifS h (fun h => cycle_Check_J1_sound _ _ _ h hK) fun h => ifS h (fun h => cycle_Check_J1_sound _ _ _ h hK) fun h => cycle_Check_J1_sound _ _ _ h hK)
def Z137 (x0 : api_Cycle) (x1 : api_Cycle) : (Int) → Option ((Int) ⊕ ((Int) ⊕ (api_Cycle × Int)))
 | v4 =>
  if v4 < (x0.Positions.length : Int) then
   if inX v4 x0.Positions.length then
   if inX v4 x1.Positions.length then
   if (ix x1.Positions v4) < (ix x0.Positions v4) then
    some (.inr (.inr ((api_Cycle.mk 0 0 0 ([] : List Int) ([] : List api_Write)), 2)))
   else
    if inI (v4 + 1) then
    some (.inl (v4 + 1))
    else none
   else none
   else none
  else
   Option.bind (Z91 x0.Writes x1.Writes) fun v5 =>
   if v5.2 ≠ 0 then
    some (.inr (.inr ((api_Cycle.mk 0 0 0 ([] : List Int) ([] : List api_Write)), v5.2)))
   else
    Option.bind (Z96 x1.Positions) fun z =>
    let v6 : List Int × Unit := (z, ())
    some (.inr (.inr ((api_Cycle.mk x0.Base x1.Number x1.Time v6.1 v5.1), 0)))
theorem cycle_Compose_L2_sound (x0 : api_Cycle) (x1 : api_Cycle) (s : Int) {Φ : api_Cycle × Int → Prop} {rec1 : (Int) → Prop} {rec2 : (Int) → Prop} {o} (h : Z137 x0 x1 s = some o) (hK : (orK rec2 (orK rec1 Φ)) o) : Z68 x0 x1 Φ s rec2 := by
  unfold Z137 at h
  unfold Z68
  exact ifS h (fun h => adS h fun h => adS h fun h => ifS h (fun h => have t := lfS h hK; t) fun h => adS h fun h => have t := lfS h hK; t) fun h => blS h fun _ hv h => coalesce_Merge_sound _ _ hv (ifS h (fun h => have t := lfS h hK; t) fun h => blS h fun _ hv h => ⟨_, slices_Clone_int_int_sound _ hv rfl, have t := lfS h hK; t⟩)
def Z138 (x0 : api_Cycle) (x1 : api_Cycle) : (Int) → Option ((Int) ⊕ (api_Cycle × Int))
 | v1 =>
  if v1 < (([x0, x1] : List api_Cycle).length : Int) then
   if inX v1 ([x0, x1] : List api_Cycle).length then
   Option.bind (Z133) fun z =>
   let v2 : List Int × Unit := (z, ())
   Option.bind (cycle_Check_S (ix ([x0, x1] : List api_Cycle) v1) v2.1) fun z =>
   let v3 : Int × Unit := (z, ())
   if v3.1 ≠ 0 then
    some (.inr ((api_Cycle.mk 0 0 0 ([] : List Int) ([] : List api_Write)), v3.1))
   else
    if inI (v1 + 1) then
    some (.inl (v1 + 1))
    else none
   else none
  else
   if x1.Base ≠ x0.Number then
    some (.inr ((api_Cycle.mk 0 0 0 ([] : List Int) ([] : List api_Write)), 15))
   else
    if (x0.Positions.length : Int) ≠ (x1.Positions.length : Int) then
     some (.inr ((api_Cycle.mk 0 0 0 ([] : List Int) ([] : List api_Write)), 6))
    else
     if x1.Time < x0.Time then
      some (.inr ((api_Cycle.mk 0 0 0 ([] : List Int) ([] : List api_Write)), 24))
     else
      loopS (Z137 x0 x1) 100000 0
theorem cycle_Compose_L1_sound (x0 : api_Cycle) (x1 : api_Cycle) (s : Int) {Φ : api_Cycle × Int → Prop} {rec1 : (Int) → Prop} {o} (h : Z138 x0 x1 s = some o) (hK : (orK rec1 Φ) o) : Z69 x0 x1 Φ s rec1 := by
  unfold Z138 at h
  unfold Z69
  exact ifS h (fun h => adS h fun h => blS h fun _ hv h => ⟨_, cycle_largest_sound hv rfl, blS h fun _ hv h => ⟨_, cycle_Check_sound _ _ hv rfl, ifS h (fun h => have t := lfS h hK; t) fun h => adS h fun h => have t := lfS h hK; t⟩⟩) fun h => ifS h (fun h => have t := lfS h hK; t) fun h => ifS h (fun h => have t := lfS h hK; t) fun h => ifS h (fun h => have t := lfS h hK; t) fun h => LoopW.of_S (fun s q rec hs hq => cycle_Compose_L2_sound _ _ s hs hq) _ _ h hK
def Z139 (x0 : api_Cycle) (x1 : api_Cycle) : Option (api_Cycle × Int) :=
 loopS (Z138 x0 x1) 100000 0
theorem cycle_Compose_sound (x0 : api_Cycle) (x1 : api_Cycle) {Φ : api_Cycle × Int → Prop} {o} (h : Z139 x0 x1 = some o) (hK : Φ o) : Z70 x0 x1 Φ := by
  unfold Z139 at h
  unfold Z70
  exact LoopW.of_S (fun s q rec hs hq => cycle_Compose_L1_sound _ _ s hs hq) _ _ h hK
def Z140 (v8 : api_Capture × api_Cycle × Int) : (Unit) → Option (Bool)
 | _ =>
  Option.bind (cycle_Close_S v8.1 6 ([2, 1] : List Int)) fun v9 =>
  Option.bind (Z139 v8.2.1 v9.2.1) fun v10 =>
  Option.bind (law23_write_S 0 1 ([98#8, 99#8] : List (BitVec 8))) fun v11 =>
  if v9.2.2 = 0 then
   if v10.2 = 0 then
    Option.bind (ref22_Same_S v9.2.1.Writes ([v11] : List api_Write)) fun v12 =>
    if v12 = true then
     if v10.1.Base = 0 then
      if v10.1.Number = 2 then
       Option.bind (ref22_Same_S v10.1.Writes ([v11] : List api_Write)) fun v13 =>
       some (v13)
      else
       some (false)
     else
      some (false)
    else
     some (false)
   else
    some (false)
  else
   some (false)
theorem law23_awake_J1_sound (v8 : api_Capture × api_Cycle × Int) (s : Unit) {Φ : Bool → Prop} {o} (h : Z140 v8 s = some o) (hK : Φ o) : Z71 v8 Φ s := by
  unfold Z140 at h
  unfold Z71
  exact blS h fun _ hv h => cycle_Close_sound _ _ _ hv (blS h fun _ hv h => cycle_Compose_sound _ _ hv (blS h fun _ hv h => law23_write_sound _ _ _ hv (ifS h (fun h => ifS h (fun h => blS h fun _ hv h => ref22_Same_sound _ _ hv (ifS h (fun h => ifS h (fun h => ifS h (fun h => blS h fun _ hv h => ref22_Same_sound _ _ hv (have t := lfS h hK; t)) fun h => have t := lfS h hK; t) fun h => have t := lfS h hK; t) fun h => have t := lfS h hK; t)) fun h => have t := lfS h hK; t) fun h => have t := lfS h hK; t)))
def law23_awake_S : Option (Bool) :=
 Option.bind (cycle_Open_S ([4] : List Int) 2 0) fun v1 =>
 Option.bind (law23_write_S 0 1 ([97#8] : List (BitVec 8))) fun z =>
 let v2 : api_Write × Unit := (z, ())
 Option.bind (cycle_Add_S v1.1 0 v2.1) fun z =>
 let v3 : api_Capture × Int × Unit := (z.1, z.2, ())
 Option.bind (law23_write_S 0 1 ([98#8] : List (BitVec 8))) fun z =>
 let v4 : api_Write × Unit := (z, ())
 Option.bind (cycle_Add_S v3.1 1 v4.1) fun z =>
 let v5 : api_Capture × Int × Unit := (z.1, z.2, ())
 Option.bind (law23_write_S 0 2 ([99#8] : List (BitVec 8))) fun z =>
 let v6 : api_Write × Unit := (z, ())
 Option.bind (cycle_Add_S v5.1 0 v6.1) fun z =>
 let v7 : api_Capture × Int × Unit := (z.1, z.2, ())
 Option.bind (cycle_Close_S v7.1 5 ([0, 1] : List Int)) fun v8 =>
 if inI (v1.2 + v3.2.1) then
 if inI ((v1.2 + v3.2.1) + v5.2.1) then
 if inI (((v1.2 + v3.2.1) + v5.2.1) + v7.2.1) then
 if inI ((((v1.2 + v3.2.1) + v5.2.1) + v7.2.1) + v8.2.2) then
 if ((((v1.2 + v3.2.1) + v5.2.1) + v7.2.1) + v8.2.2) ≠ 0 then
  some (false)
 else
  if v8.2.1.Base ≠ 0 then
   some (false)
  else
   if v8.2.1.Number ≠ 1 then
    some (false)
   else
    Option.bind (law23_write_S 0 1 ([98#8] : List (BitVec 8))) fun z =>
    let v14 : api_Write × Unit := (z, ())
    Option.bind (ref22_Same_S v8.2.1.Writes ([v14.1] : List api_Write)) fun z =>
    let v15 : Bool × Unit := (z, ())
    if ¬ (v15.1 = true) then
     some (false)
    else
     Option.bind (law23_write_S 0 1 ([98#8] : List (BitVec 8))) fun z =>
     let v16 : api_Write × Unit := (z, ())
     Option.bind (law23_write_S 0 2 ([99#8] : List (BitVec 8))) fun z =>
     let v17 : api_Write × Unit := (z, ())
     Option.bind (ref22_Same_S v8.1.Writes ([v16.1, v17.1] : List api_Write)) fun z =>
     let v18 : Bool × Unit := (z, ())
     if ¬ (v18.1 = true) then
      some (false)
     else
      Z140 v8 ()
 else none
 else none
 else none
 else none
theorem law23_awake_sound {Φ : Bool → Prop} {o} (h : law23_awake_S = some o) (hK : Φ o) : law23_awake_W Φ := by
  unfold law23_awake_S at h
  unfold law23_awake_W
  exact blS h fun _ hv h => cycle_Open_sound _ _ _ hv (blS h fun _ hv h => ⟨_, law23_write_sound _ _ _ hv rfl, blS h fun _ hv h => ⟨_, cycle_Add_sound _ _ _ hv rfl, blS h fun _ hv h => ⟨_, law23_write_sound _ _ _ hv rfl, blS h fun _ hv h => ⟨_, cycle_Add_sound _ _ _ hv rfl, blS h fun _ hv h => ⟨_, law23_write_sound _ _ _ hv rfl, blS h fun _ hv h => ⟨_, cycle_Add_sound _ _ _ hv rfl, blS h fun _ hv h => cycle_Close_sound _ _ _ hv (adS h fun h => adS h fun h => adS h fun h => adS h fun h => ifS h (fun h => have t := lfS h hK; t) fun h => ifS h (fun h => have t := lfS h hK; t) fun h => ifS h (fun h => have t := lfS h hK; t) fun h => blS h fun _ hv h => ⟨_, law23_write_sound _ _ _ hv rfl, blS h fun _ hv h => ⟨_, ref22_Same_sound _ _ hv rfl, ifS h (fun h => have t := lfS h hK; t) fun h => blS h fun _ hv h => ⟨_, law23_write_sound _ _ _ hv rfl, blS h fun _ hv h => ⟨_, law23_write_sound _ _ _ hv rfl, blS h fun _ hv h => ⟨_, ref22_Same_sound _ _ hv rfl, ifS h (fun h => have t := lfS h hK; t) fun h => law23_awake_J1_sound _ _ h hK⟩⟩⟩⟩⟩)⟩⟩⟩⟩⟩⟩)
theorem law23_awake_ok {Φ : Bool → Prop} (h : Φ true) : law23_awake_W Φ := law23_awake_sound (o := true) (by kernel_rfl) h
theorem pairE {α β : Type} {a a' : α} {b b' : β} (h1 : a = a') (h2 : b = b') : (a, b) = (a', b') := by rw [h1, h2]
theorem range_snoc_map {β : Type} (f : Nat → β) (k : Nat) : (List.range (k + 1)).map f = (List.range k).map f ++ [f k] := by rw [List.range_succ, List.map_append]; rfl
def cyc0 : api_Cycle := ⟨0, 0, 0, [], []⟩
theorem FewC.small {c : api_Cycle} (h : FewC c) : ∀ w ∈ c.Writes, w.Data.length ≤ 1000000 := fun w hw => by have := h.data w hw; omega
def appR (im : List (List Sec)) (c : api_Cycle) : List (List Sec) × Int := if imgE im ≠ 0 then ([], imgE im) else if cycE c (szs im) ≠ 0 then ([], cycE c (szs im)) else (appL im c.Writes, 0)
theorem cycE_wrs {c : api_Cycle} {sizes : List Int} (h : cycE c sizes = 0) : wrsE sizes c.Writes = 0 := by
  unfold cycE at h
  split at h
  · next q => exact absurd h q
  split at h
  · omega
  split at h
  · omega
  split at h
  · next q => exact absurd h q
  exact h
theorem wrs_fit {sizes : List Int} {l : List api_Write} (h : wrsE sizes l = 0) : ∀ w ∈ l, fitW sizes w = 0 := fun w hw => by
  obtain ⟨k, hk, rfl⟩ := List.getElem_of_mem hw
  have := ordW_fit (firstN_zero.1 h k hk)
  rwa [ix_get hk] at this
theorem cycle_Apply_ok {im : List (List Sec)} {c : api_Cycle} {Φ : List (List Sec) × Int → Prop} (hi : im.length ≤ 100000) (hp : c.Positions.length ≤ 100000) (hl : c.Writes.length ≤ 100000) (hd : ∀ w ∈ c.Writes, w.Data.length ≤ 1000000) (hΦ : Φ (appR im c)) : cycle_Apply_W im c Φ := by
  unfold appR at hΦ
  refine image_Check_ok hi ⟨fun q => by rw [if_pos q] at hΦ; exact hΦ, fun q => ?_⟩
  rw [if_neg q] at hΦ
  refine LoopW.upT im.length (fun k => ((k : Int), (im.take k).map fun v => (v.length : Int))) rfl (fun k rec hk hr => ⟨fun _ => ⟨iX (by omega) (by omega), iL (by rw [len_snoc, List.length_map, lenT (by omega)]; omega) (by omega), iI (by omega) (by omega), hr _ (by rw [map_take_snoc _ hk]; rfl)⟩, fun _ => by omega⟩) fun rec => ⟨fun _ => by omega, fun _ => ?_⟩
  rw [take_all]
  show cycle_Check_W c (szs im) _
  refine cycle_Check_ok hp hl hd ⟨fun t => by rw [if_pos t] at hΦ; exact hΦ, fun t => ?_⟩
  rw [if_neg t] at hΦ
  exact image_Apply_ok (by omega) (Classical.not_not.1 q) (wrs_fit (cycE_wrs (Classical.not_not.1 t))) hΦ
theorem ref07_SameVolume_refl {l : List Sec} {Φ : Bool → Prop} (hl : l.length ≤ 1000000) (hΦ : Φ true) : Z79 l l Φ :=
  ⟨fun h => absurd rfl h, fun _ => LoopW.upT l.length (fun k => (k : Int)) rfl (fun k rec hk hr => ⟨fun hlt => ⟨iX (by omega) hlt, iX (by omega) hlt, fun q => absurd rfl q, fun _ => ⟨iI (by omega) (by omega), hr _ rfl⟩⟩, fun q => absurd (show (k : Int) < (l.length : Int) by omega) q⟩) fun rec => ⟨fun q => absurd q (by omega), fun _ => hΦ⟩⟩
theorem ref07_Same_refl {im : List (List Sec)} {Φ : Bool → Prop} (hi : im = [] ∨ imgE im = 0) (hΦ : Φ true) : ref07_Same_W im im Φ := by
  have hs : im.length ≤ 1000000 ∧ ∀ k : Nat, k < im.length → (ix im (k : Int)).length ≤ 1000000 := by
    rcases hi with rfl | hi
    · exact ⟨Nat.zero_le _, fun k hk => absurd hk (Nat.not_lt_zero k)⟩
    · have := sizesE_len hi
      rw [szs_len] at this
      exact ⟨by omega, fun k hk => by have := szs_small hi k hk; omega⟩
  have h1 := hs.1
  exact ⟨fun h => absurd rfl h, fun _ => LoopW.upT im.length (fun k => (k : Int)) rfl (fun k rec hk hr => ⟨fun hlt => ⟨iX (by omega) hlt, iX (by omega) hlt, (true, ()), ref07_SameVolume_refl (hs.2 k hk) rfl, fun q => absurd rfl q, fun _ => ⟨iI (by omega) (by omega), hr _ rfl⟩⟩, fun q => absurd (show (k : Int) < (im.length : Int) by omega) q⟩) fun rec => ⟨fun q => absurd q (by omega), fun _ => hΦ⟩⟩
theorem secN_bound {c : Nat} : ∀ l : List api_Write, (∀ w ∈ l, w.Data.length ≤ c) → secN l ≤ l.length * c
  | [], _ => Nat.zero_le _
  | w :: l, h => by
    have h1 := secN_bound l fun x hx => h x (List.mem_cons_of_mem _ hx)
    have h2 := h w (List.mem_cons_self ..)
    have : secN (w :: l) = w.Data.length + secN l := by simp [secN]
    rw [this, List.length_cons, Nat.succ_mul]; omega
theorem secN_each {l : List api_Write} : ∀ w ∈ l, w.Data.length ≤ secN l := fun w hw => by
  obtain ⟨a, b, rfl⟩ := List.append_of_mem hw
  rw [secN_append, show w :: b = [w] ++ b from rfl, secN_append, secN_one]; omega
theorem can_len {m : List (coalesce_place × Sec)} {ws : List api_Write} (c : Can m ws) : ws.length ≤ m.length := by
  rw [← c.sum]
  have : ∀ l : List api_Write, (∀ w ∈ l, 0 < w.Data.length) → l.length ≤ secN l := by
    intro l
    induction l with
    | nil => intro _; exact Nat.zero_le _
    | cons w l ih =>
      intro h
      have h1 := ih fun x hx => h x (List.mem_cons_of_mem _ hx)
      have h2 := h w (List.mem_cons_self ..)
      have : secN (w :: l) = w.Data.length + secN l := by simp [secN]
      rw [this, List.length_cons]; omega
  exact this ws c.ne
structure SmallC (c : api_Capture) : Prop where
  sizes : c.Sizes.length ≤ 20
  pos : c.Positions.length ≤ 20
  nodes : c.Nodes.length ≤ 60
  len : c.Writes.length ≤ 40
  data : ∀ w ∈ c.Writes, w.Data.length ≤ 24
def cap0 : api_Capture := ⟨0, [], [], [], []⟩
def openR (sizes : List Int) (nodes number : Int) : api_Capture × Int :=
  if sizesE sizes ≠ 0 then (cap0, sizesE sizes) else if nodes < 1 ∨ 8 < nodes then (cap0, 6) else if number < 0 ∨ 1073741823 < number then (cap0, 2) else (⟨number, sizes, List.replicate nodes.toNat 0, [], []⟩, 0)
theorem cycle_Open_ok {sizes : List Int} {nodes number : Int} {Φ : api_Capture × Int → Prop} (hΦ : Φ (openR sizes nodes number)) : cycle_Open_W sizes nodes number Φ := by
  unfold openR at hΦ
  refine image_New_ok (fun hs => ⟨fun q => absurd rfl q, fun _ => ?_⟩) fun hs => ⟨fun _ => by rw [if_pos hs] at hΦ; exact hΦ, fun q => absurd hs q⟩
  rw [if_neg (by omega)] at hΦ
  refine cycle_in_ok ⟨fun r => ?_, fun r => ?_⟩
  · have := of_decide_eq_false (Bool.eq_false_iff.2 r)
    rw [if_pos (by omega)] at hΦ; exact hΦ
  · have g := of_decide_eq_true (Classical.not_not.1 r)
    rw [if_neg (by omega)] at hΦ
    refine cycle_in_ok ⟨fun r => ?_, fun r => ?_⟩
    · have := of_decide_eq_false (Bool.eq_false_iff.2 r)
      rw [if_pos (by omega)] at hΦ; exact hΦ
    · have := of_decide_eq_true (Classical.not_not.1 r)
      rw [if_neg (by omega)] at hΦ
      have h8 := sizesE_len hs
      exact ⟨(sizes, ()), slices_Clone_int_ok (by omega) rfl, by omega, iL (by omega) (by omega), hΦ⟩
def nodW (c : api_Capture) (k : Nat) : Int := if ix c.Nodes (k : Int) < 0 ∨ (c.Positions.length : Int) ≤ ix c.Nodes (k : Int) then 7 else fitW c.Sizes (ix c.Writes (k : Int))
def cptE (c : api_Capture) : Int :=
  if sizesE c.Sizes ≠ 0 then sizesE c.Sizes else if c.Number < 0 ∨ 1073741823 < c.Number then 2 else if posR 1 c.Positions ≠ 0 then posR 1 c.Positions else if c.Nodes.length ≠ c.Writes.length ∨ 4096 < c.Writes.length then 6 else firstN (nodW c) c.Writes.length
def addE (c : api_Capture) (n : Int) (w : api_Write) : Int :=
  if cptE c ≠ 0 then cptE c else if n < 0 ∨ (c.Positions.length : Int) ≤ n then 7 else if fitW c.Sizes w ≠ 0 then fitW c.Sizes w else if 4096 ≤ c.Writes.length then 11 else 0
def addR (c : api_Capture) (n : Int) (w : api_Write) : api_Capture × Int :=
  if addE c n w ≠ 0 then (cap0, addE c n w) else (⟨c.Number, c.Sizes, c.Positions, c.Nodes ++ [n], c.Writes ++ [w]⟩, 0)
theorem cycle_copied_ok {w : api_Write} {Φ : api_Write → Prop} (hw : w.Data.length ≤ 1000000) (hΦ : Φ w) : Z11 w Φ := slices_Clone_Sec_ok hw hΦ
theorem cycle_cloned_ok {c : api_Capture} {Φ : api_Capture → Prop} (hs : c.Sizes.length ≤ 100000) (hp : c.Positions.length ≤ 100000) (hn : c.Nodes.length ≤ 100000) (hl : c.Writes.length ≤ 100000) (hd : ∀ w ∈ c.Writes, w.Data.length ≤ 1000000) (hΦ : Φ c) : Z13 c Φ := by
  refine ⟨(c.Sizes, ()), slices_Clone_int_ok (by omega) rfl, (c.Positions, ()), slices_Clone_int_ok (by omega) rfl, (c.Nodes, ()), slices_Clone_int_ok (by omega) rfl, ?_⟩
  refine LoopW.upT c.Writes.length (fun k => ((k : Int), c.Writes.take k)) rfl (fun k rec hk hr => ⟨fun _ => ⟨iX (by omega) (by omega), ?_⟩, fun _ => by omega⟩) fun rec => ⟨fun _ => by omega, fun _ => by rw [take_all]; exact hΦ⟩
  have hm := hd _ (ix_mem (iX (i := (k : Int)) (n := c.Writes.length) (by omega) (by omega)))
  exact cycle_copied_ok hm ⟨iL (by rw [len_snoc, lenT (by omega)]; omega) (by omega), iI (by omega) (by omega), hr _ (by rw [take_ix hk]; rfl)⟩
theorem cycle_Add_ok {c : api_Capture} {n : Int} {w : api_Write} {Φ : api_Capture × Int → Prop} (hp : c.Positions.length ≤ 100000) (hn : c.Nodes.length ≤ 100000) (hl : c.Writes.length ≤ 100000) (hd : ∀ w ∈ c.Writes, w.Data.length ≤ 1000000) (hw : w.Data.length ≤ 1000000) (hΦ : Φ (addR c n w)) : cycle_Add_W c n w Φ := by
  have er : ∀ e, addE c n w = e → e ≠ 0 → Φ (cap0, e) := fun e h1 h2 => by
    unfold addR at hΦ; rw [h1, if_pos h2] at hΦ; exact hΦ
  have cr : ∀ e, cptE c = e → e ≠ 0 → Φ (cap0, e) := fun e h1 h2 => er e (by unfold addE; rw [h1, if_pos h2]) h2
  refine image_New_ok (fun hs => ⟨fun q => absurd rfl q, fun _ => ?_⟩) fun hs => ⟨fun _ => cr _ (by unfold cptE; rw [if_pos hs]) hs, fun q => absurd (show sizesE c.Sizes = 0 from Classical.not_not.1 q) hs⟩
  have h8 := sizesE_len hs
  have e := szs_zeroI hs
  have hs' : imgE (zeroI c.Sizes) = 0 := by unfold imgE; rw [e]; exact hs
  refine cycle_in_ok ⟨fun r => ?_, fun r => ?_⟩
  · have := of_decide_eq_false (Bool.eq_false_iff.2 r)
    exact cr 2 (by unfold cptE; rw [if_neg (by omega), if_pos (by omega)]) (by omega)
  have a1 := of_decide_eq_true (Classical.not_not.1 r)
  refine cycle_positions_ok hp ⟨fun t => cr _ (by unfold cptE; rw [if_neg (by omega), if_neg (by omega), if_pos t]) t, fun t => ?_⟩
  have t := Classical.not_not.1 t
  refine ⟨fun u => ⟨fun x => cr 6 (by unfold cptE; rw [if_neg (by omega), if_neg (by omega), if_neg (by omega), if_pos (by omega)]) (by omega), fun x => ?_⟩, fun u => cr 6 (by unfold cptE; rw [if_neg (by omega), if_neg (by omega), if_neg (by omega), if_pos (by omega)]) (by omega)⟩
  have ce : cptE c = firstN (nodW c) c.Writes.length := by unfold cptE; rw [if_neg (by omega), if_neg (by omega), if_neg (by omega), if_neg (by omega)]
  refine LoopW.errI c.Writes.length (fun k => (k : Int)) (nodW c) (Ψ := fun o => o = cptE c) rfl ce.symm (fun k rec hk hj g1 g2 => ⟨fun _ => ⟨iX (by omega) (by omega), iX (by omega) (by omega), iI (by omega) (by omega), cycle_in_ok ⟨fun y => ?_, fun y => ?_⟩⟩, fun _ => by omega⟩) fun rec _ c0 => ⟨fun _ => by omega, fun _ => ⟨iI (by omega) (by omega), cycle_in_ok ⟨fun y => ?_, fun y => ?_⟩⟩⟩
  · have := of_decide_eq_false (Bool.eq_false_iff.2 y)
    unfold nodW at g1; rw [if_pos (by omega)] at g1
    exact cr 7 (g1 (by omega)).symm (by omega)
  · have := of_decide_eq_true (Classical.not_not.1 y)
    unfold nodW at g1 g2; rw [if_neg (by omega)] at g1 g2
    refine image_Fits_ok (hd _ (ix_mem (iX (i := (k : Int)) (n := c.Writes.length) (by omega) (by omega)))) hs' ?_
    rw [e]
    exact ⟨fun z => cr _ (g1 z).symm z, fun z => ⟨iI (by omega) (by omega), g2 (Classical.not_not.1 z) _ rfl⟩⟩
  · have := of_decide_eq_false (Bool.eq_false_iff.2 y)
    exact er 7 (by unfold addE; rw [if_neg (by omega), if_pos (by omega)]) (by omega)
  · have a2 := of_decide_eq_true (Classical.not_not.1 y)
    refine image_Fits_ok hw hs' ?_
    rw [e]
    refine ⟨fun z => er _ (by unfold addE; rw [if_neg (by omega), if_neg (by omega), if_pos z]) z, fun z => ⟨fun v => er 11 (by unfold addE; rw [if_neg (by omega), if_neg (by omega), if_neg z, if_pos (by omega)]) (by omega), fun v => ?_⟩⟩
    refine cycle_cloned_ok (by omega) hp hn hl hd ⟨iL (by rw [len_snoc]; omega) (by omega), (w, ()), cycle_copied_ok hw rfl, iL (by rw [len_snoc]; omega) (by omega), ?_⟩
    have e0 : addE c n w = 0 := by unfold addE; rw [if_neg (by omega), if_neg (by omega), if_neg z, if_neg (by omega)]
    unfold addR at hΦ
    rw [if_neg (fun t => t e0)] at hΦ
    exact hΦ
structure MidC (c : api_Capture) : Prop where
  sizes : c.Sizes.length ≤ 100000
  pos : c.Positions.length ≤ 100000
  nodes : c.Nodes.length ≤ 100000
  len : c.Writes.length ≤ 100000
  data : ∀ w ∈ c.Writes, w.Data.length ≤ 1000000
theorem SmallC.mid {c : api_Capture} (h : SmallC c) : MidC c := ⟨by have := h.sizes; omega, by have := h.pos; omega, by have := h.nodes; omega, by have := h.len; omega, fun w hw => by have := h.data w hw; omega⟩
theorem MidC.zero : MidC cap0 := ⟨Nat.zero_le _, Nat.zero_le _, Nat.zero_le _, Nat.zero_le _, fun _ hw => absurd hw List.not_mem_nil⟩
def tabL {α : Type} (n : Nat) (f : Nat → α) : List α := (List.range n).map f
theorem tab_len {α : Type} (n : Nat) (f : Nat → α) : (tabL n f).length = n := by unfold tabL; rw [List.length_map, List.length_range]
theorem ix_tab {α : Type} [Dt α] {n i : Nat} {f : Nat → α} (h : i < n) : ix (tabL n f) (i : Int) = f i := by
  rw [ix_get (by rw [tab_len]; exact h)]; unfold tabL; simp
theorem tab_congr {α : Type} {n : Nat} {f g : Nat → α} (h : ∀ i, i < n → f i = g i) : tabL n f = tabL n g := by
  unfold tabL; exact List.map_congr_left fun i hi => h i (List.mem_range.1 hi)
theorem tab_put {α : Type} [Dt α] {n a : Nat} {f g : Nat → α} {x : α} (ha : a < n) (h0 : g a = x) (h : ∀ i, i < n → i ≠ a → g i = f i) : put (tabL n f) (a : Int) x = tabL n g := by
  refine ext_ix (by rw [put_len, tab_len, tab_len]) fun i hi => ?_
  rw [put_len, tab_len] at hi
  rw [ix_put _ _ (by rw [tab_len]; exact ha), ix_tab hi, ix_tab hi]
  by_cases e : i = a
  · rw [if_pos e, e, h0]
  · rw [if_neg e, h i hi e]
theorem tab_snoc {α : Type} (k : Nat) (f : Nat → α) : tabL (k + 1) f = tabL k f ++ [f k] := range_snoc_map f k
theorem tab_self {α : Type} [Dt α] (l : List α) : tabL l.length (fun i => ix l (i : Int)) = l := ext_ix (tab_len _ _) fun i hi => by rw [tab_len] at hi; rw [ix_tab hi]
theorem LoopW.split {α S : Type} {step : List α × S → (List α × S → Prop) → Prop} (xs : List α) (f : List α → S) {s0 : S} (hs : s0 = f []) (h : ∀ pre x r rec, xs = pre ++ x :: r → (∀ s, s = (r, f (pre ++ [x])) → rec s) → step (x :: r, f pre) rec) (he : ∀ rec, step ([], f xs) rec) : LoopW step (xs, s0) := by
  have key : ∀ r pre, xs = pre ++ r → LoopN step (r.length + 1) (r, f pre) := by
    intro r
    induction r with
    | nil => intro pre e; rw [List.append_nil] at e; subst e; exact he _
    | cons x r ih => intro pre e; exact h pre x r _ e fun s hs => by rw [hs]; exact ih (pre ++ [x]) (by rw [e, List.append_assoc]; rfl)
  rw [hs]
  exact ⟨_, key xs [] rfl⟩
def cnt (N : List Int) (n : Int) : Nat → Nat
  | 0 => 0
  | k + 1 => cnt N n k + if ix N (k : Int) = n then 1 else 0
theorem cnt_le (N : List Int) (n : Int) : ∀ k, cnt N n k ≤ k
  | 0 => Nat.le_refl _
  | k + 1 => by
    have := cnt_le N n k
    unfold cnt; split <;> omega
theorem cnt_succ (N : List Int) (n : Int) (k : Nat) : cnt N n (k + 1) = cnt N n k + if ix N (k : Int) = n then 1 else 0 := rfl
def pos0 (x : Int) : Int := if x < 0 then 0 else x
theorem pos0_pred (x : Int) : pos0 (pos0 x - 1) = pos0 (x - 1) := by unfold pos0; split <;> split <;> (try split) <;> omega
def leftF (d : Nat → Int) (N : List Int) (m k : Nat) : List Int := tabL m fun i => pos0 (d i - (cnt N (i : Int) k : Int))
def partF (d : Nat → Int) (N : List Int) (k : Nat) : Bool := decide (0 < pos0 (d (ix N (k : Int)).toNat - (cnt N (ix N (k : Int)) k : Int)))
theorem left_step {d : Nat → Int} {N : List Int} {m k : Nat} {x : Int} (h0 : 0 ≤ ix N (k : Int)) (h1 : ix N (k : Int) < (m : Int)) (hx : x = pos0 (pos0 (d (ix N (k : Int)).toNat - (cnt N (ix N (k : Int)) k : Int)) - 1)) : put (leftF d N m k) (ix N (k : Int)) x = leftF d N m (k + 1) := by
  obtain ⟨a, ha⟩ := Int.eq_ofNat_of_zero_le h0
  rw [ha] at hx ⊢
  unfold leftF
  refine tab_put (by omega) ?_ fun i hi hne => ?_
  · rw [hx]
    show pos0 (d a - (cnt N (a : Int) (k + 1) : Int)) = _
    rw [cnt_succ, if_pos ha, Int.toNat_natCast, pos0_pred, show d a - ((cnt N (a : Int) k + 1 : Nat) : Int) = d a - (cnt N (a : Int) k : Int) - 1 by omega]
  · show pos0 (d i - (cnt N (i : Int) (k + 1) : Int)) = _
    rw [cnt_succ, if_neg (by rw [ha]; omega)]; rfl
theorem ix_left {d : Nat → Int} {N : List Int} {m k : Nat} {n : Int} (h0 : 0 ≤ n) (h1 : n < (m : Int)) : ix (leftF d N m k) n = pos0 (d n.toNat - (cnt N n k : Int)) := by
  obtain ⟨a, rfl⟩ := Int.eq_ofNat_of_zero_le h0
  unfold leftF
  rw [ix_tab (by omega), Int.toNat_natCast]
def dT (c : api_Capture) (to : List Int) (i : Nat) : Int := ix to (i : Int) - ix c.Positions (i : Int)
def dW (c : api_Capture) (to : List Int) (i : Nat) : Int := Go.IntKind.wrap Go.IntKind.i64 (ix to (i : Int) - ix c.Positions (i : Int))
def inB (c : api_Capture) (to : List Int) (k : Nat) : Bool := partF (dT c to) c.Nodes k
def badI (c : api_Capture) (to : List Int) (i : Nat) : Prop := ix to (i : Int) < ix c.Positions (i : Int) ∨ ix c.Positions (i : Int) + (cnt c.Nodes (i : Int) c.Nodes.length : Int) < ix to (i : Int)
instance (c : api_Capture) (to : List Int) (i : Nat) : Decidable (badI c to i) := by unfold badI; infer_instance
def badB (c : api_Capture) (to : List Int) : Bool := (List.range to.length).any fun i => decide (badI c to i)
theorem badB_true {c : api_Capture} {to : List Int} {i : Nat} (hi : i < to.length) (h : badI c to i) : badB c to = true := List.any_eq_true.2 ⟨i, List.mem_range.2 hi, decide_eq_true h⟩
theorem badB_false {c : api_Capture} {to : List Int} (h : ∀ i, i < to.length → ¬ badI c to i) : badB c to = false := by
  rw [Bool.eq_false_iff]
  intro q
  obtain ⟨i, hi, hb⟩ := List.any_eq_true.1 q
  exact h i (List.mem_range.1 hi) (of_decide_eq_true hb)
theorem wrap_case {a b : Int} (ha : inI a) (hb : 0 ≤ b ∧ b ≤ 1073741824) : Go.IntKind.wrap Go.IntKind.i64 (a - b) = a - b ∨ (4611686018427387904 ≤ Go.IntKind.wrap Go.IntKind.i64 (a - b) ∧ Go.IntKind.wrap Go.IntKind.i64 (a - b) ≤ 9223372036854775807 ∧ a < b) := by
  have h1 := ha.1
  have h2 := ha.2
  by_cases h : -9223372036854775808 ≤ a - b
  · exact .inl (wrap_i64 h (by omega))
  · refine .inr ?_
    have e : Go.IntKind.wrap Go.IntKind.i64 (a - b) = a - b + 18446744073709551616 := by
      have w : Go.IntKind.wrap Go.IntKind.i64 (a - b) = if 9223372036854775808 ≤ (a - b) % 18446744073709551616 then (a - b) % 18446744073709551616 - 18446744073709551616 else (a - b) % 18446744073709551616 := by
        simp [IntKind.wrap, IntKind.bits, IntKind.signed]
      rw [w]
      split <;> omega
    rw [e]; omega
def selW (c : api_Capture) (q : Nat → Bool) (n : Nat) : List api_Write := ((List.range n).filter q).map fun j : Nat => ix c.Writes (j : Int)
def latL (c : api_Capture) (p : Nat → Bool) (k : Nat) : List api_Write := selW c (fun j => decide (k < j) && p j) c.Writes.length
def hidW (w : api_Write) (l : List api_Write) : api_Write := ⟨w.Volume, w.Start, tabL w.Data.length fun j => mget (effM l) ⟨w.Volume, w.Start + (j : Int)⟩ (ix w.Data (j : Int))⟩
def outN (c : api_Capture) (p : Nat → Bool) (n : Nat) : List Int := ((List.range n).filter fun j => !p j).map fun j : Nat => ix c.Nodes (j : Int)
def outW (c : api_Capture) (p : Nat → Bool) (n : Nat) : List api_Write := ((List.range n).filter fun j => !p j).map fun j : Nat => hidW (ix c.Writes (j : Int)) (latL c p j)
def cloE (c : api_Capture) (time : Int) (to : List Int) : Int :=
  if cptE c ≠ 0 then cptE c else if time < 0 ∨ 1073741824 < time then 24 else if to.length ≠ c.Positions.length then 6 else if badB c to = true then 2 else 0
def cloR (c : api_Capture) (time : Int) (to : List Int) : api_Capture × api_Cycle × Int :=
  if cloE c time to ≠ 0 then (cap0, cyc0, cloE c time to) else (⟨c.Number + 1, c.Sizes, to, outN c (inB c to) c.Writes.length, outW c (inB c to) c.Writes.length⟩, ⟨c.Number, c.Number + 1, time, to, canL (effM (selW c (inB c to) c.Writes.length))⟩, 0)
theorem sel_len {c : api_Capture} {q : Nat → Bool} {n : Nat} : (selW c q n).length ≤ n := by
  unfold selW
  rw [List.length_map]
  have := List.length_filter_le q (List.range n)
  rw [List.length_range] at this; exact this
theorem sel_mem {c : api_Capture} {q : Nat → Bool} {n : Nat} (hn : n ≤ c.Writes.length) : ∀ w ∈ selW c q n, w ∈ c.Writes := fun w hw => by
  obtain ⟨j, hj, rfl⟩ := List.mem_map.1 hw
  have := List.mem_range.1 (List.mem_filter.1 hj).1
  exact ix_mem (iX (by omega) (by omega))
theorem filter_snoc (p : Nat → Bool) (k : Nat) : (List.range (k + 1)).filter p = (List.range k).filter p ++ (if p k = true then [k] else []) := by
  rw [List.range_succ, List.filter_append]; congr 1; by_cases hp : p k = true <;> simp [hp]
structure CapOk (c : api_Capture) : Prop where
  sz : sizesE c.Sizes = 0
  num : 0 ≤ c.Number ∧ c.Number ≤ 1073741823
  pos : ∀ k : Nat, k < c.Positions.length → 0 ≤ ix c.Positions (k : Int) ∧ ix c.Positions (k : Int) ≤ 1073741824
  len : c.Nodes.length = c.Writes.length
  node : ∀ k : Nat, k < c.Writes.length → 0 ≤ ix c.Nodes (k : Int) ∧ ix c.Nodes (k : Int) < (c.Positions.length : Int)
  fit : ∀ w ∈ c.Writes, fitW c.Sizes w = 0
theorem posR_ix {least : Int} {l : List Int} (h : posR least l = 0) : ∀ k : Nat, k < l.length → 0 ≤ ix l (k : Int) ∧ ix l (k : Int) ≤ 1073741824 := fun k hk => by
  unfold posR at h
  split at h
  · omega
  · have := firstN_zero.1 h k hk
    split at this <;> omega
theorem capOk_of {c : api_Capture} (h : cptE c = 0) : CapOk c := by
  unfold cptE at h
  split at h
  · next q => exact absurd h q
  split at h
  · omega
  split at h
  · next q => exact absurd h q
  split at h
  · omega
  next q1 q2 q3 q4 =>
    have nd : ∀ k : Nat, k < c.Writes.length → (0 ≤ ix c.Nodes (k : Int) ∧ ix c.Nodes (k : Int) < (c.Positions.length : Int)) ∧ fitW c.Sizes (ix c.Writes (k : Int)) = 0 := fun k hk => by
      have := firstN_zero.1 h k hk
      unfold nodW at this
      split at this
      · omega
      · exact ⟨by omega, this⟩
    refine ⟨Classical.not_not.1 q1, by omega, posR_ix (Classical.not_not.1 q3), by omega, fun k hk => (nd k hk).1, fun w hw => ?_⟩
    obtain ⟨k, hk, rfl⟩ := List.getElem_of_mem hw
    have := (nd k hk).2
    rwa [ix_get hk] at this
theorem fit_pl {sizes : List Int} (hs : sizesE sizes = 0) {w : api_Write} (h : fitW sizes w = 0) : placedR w = 0 := by
  obtain ⟨v, s, hf⟩ := fitW_of (by omega) h
  have h1 := hf.vol
  have h2 := hf.start
  have h3 := hf.hv
  have h4 := hf.len
  have h5 := hf.le
  have h6 := hf.top
  have h8 := sizesE_len hs
  unfold placedR
  rw [if_neg (by omega), if_neg (by omega), if_neg (by omega)]
theorem CapOk.pl {c : api_Capture} (h : CapOk c) : PlL c.Writes := fun w hw => fit_pl h.sz (h.fit w hw)
theorem CapOk.sel {c : api_Capture} (h : CapOk c) (q : Nat → Bool) {n : Nat} (hn : n ≤ c.Writes.length) : PlL (selW c q n) := fun w hw => h.pl w (sel_mem hn w hw)
def itL (c : api_Capture) (q : Nat → Bool) : List (Int × api_Write × Unit) := ((List.range c.Writes.length).filter q).map fun j : Nat => ((j : Int), ix c.Writes (j : Int), ())
theorem it_ok {c : api_Capture} {part : List Bool} {b : Bool} {q : Nat → Bool} (hn : c.Writes.length ≤ 1000000) (hl : part.length = c.Writes.length) (hq : ∀ j : Nat, j < c.Writes.length → (ix part (j : Int) = b ↔ q j = true)) : cycle_division_writes_1_I ⟨c, part⟩ b (itL c q) := by
  unfold itL
  rw [List.range_eq_range']
  refine LoopW.upT c.Writes.length (fun k => (((List.range' k (c.Writes.length - k)).filter q).map fun j : Nat => ((j : Int), ix c.Writes (j : Int), ()), (k : Int))) rfl (fun k rec hk hr => ⟨fun _ => ⟨iX (by omega) (by show (k : Int) < (c.Writes.length : Int); omega), iX (by omega) (by show (k : Int) < (part.length : Int); omega), fun e => ?_, fun e => ?_⟩, fun r => absurd (show (k : Int) < (c.Writes.length : Int) by omega) r⟩) fun rec => ⟨fun r => absurd r (by show ¬ (c.Writes.length : Int) < (c.Writes.length : Int); omega), fun _ => by rw [Nat.sub_self]; rfl⟩
  · have es : c.Writes.length - k = (c.Writes.length - (k + 1)) + 1 := by omega
    rw [es, List.range'_succ, List.filter_cons_of_pos ((hq k hk).1 e), List.map_cons]
    exact ⟨rfl, ⟨iI (by omega) (by omega), hr _ rfl⟩, trivial⟩
  · have es : c.Writes.length - k = (c.Writes.length - (k + 1)) + 1 := by omega
    rw [es, List.range'_succ, List.filter_cons_of_neg (fun t => e ((hq k hk).2 t))]
    exact ⟨iI (by omega) (by omega), hr _ rfl⟩
theorem it_mem {c : api_Capture} {q : Nat → Bool} {pre : List (Int × api_Write × Unit)} {x : Int × api_Write × Unit} {r : List (Int × api_Write × Unit)} (h : itL c q = pre ++ x :: r) : ∃ j : Nat, j < c.Writes.length ∧ q j = true ∧ x = ((j : Int), ix c.Writes (j : Int), ()) := by
  have : x ∈ itL c q := by rw [h]; simp
  unfold itL at this
  obtain ⟨j, hj, rfl⟩ := List.mem_map.1 this
  have := List.mem_filter.1 hj
  exact ⟨j, List.mem_range.1 this.1, this.2, rfl⟩
theorem it_len {c : api_Capture} {q : Nat → Bool} {pre : List (Int × api_Write × Unit)} {x : Int × api_Write × Unit} {r : List (Int × api_Write × Unit)} (h : itL c q = pre ++ x :: r) : pre.length + 1 ≤ c.Writes.length := by
  have h1 : (itL c q).length ≤ c.Writes.length := by
    unfold itL
    rw [List.length_map]
    have := List.length_filter_le q (List.range c.Writes.length)
    rw [List.length_range] at this; exact this
  rw [h, List.length_append, List.length_cons] at h1
  omega
def geL (k : Nat) (pre : List (Int × api_Write × Unit)) : List api_Write := (pre.filter fun x => decide ((k : Int) ≤ x.1)).map (·.2.1)
theorem geL_snoc (k : Nat) (pre : List (Int × api_Write × Unit)) (x : Int × api_Write × Unit) : geL k (pre ++ [x]) = if (k : Int) ≤ x.1 then geL k pre ++ [x.2.1] else geL k pre := by
  unfold geL
  rw [List.filter_append]
  by_cases h : (k : Int) ≤ x.1
  · rw [if_pos h]; simp [h]
  · rw [if_neg h]; simp [h]
theorem later_ok {c : api_Capture} {part : List Bool} {q : Nat → Bool} {k : Nat} {w : api_Write} {Φ : api_Write → Prop} (hc : CapOk c) (hn : c.Writes.length ≤ 1000000) (hl : part.length = c.Writes.length) (hq : ∀ j : Nat, j < c.Writes.length → (ix part (j : Int) = true ↔ q j = true)) (hw : placedR w = 0) (hΦ : Φ (hidW w (geL k (itL c q)))) : Z33 ⟨c, part⟩ (k : Int) w Φ := by
  have w0 := placed0 hw
  refine cycle_copied_ok (by omega) ⟨itL c q, it_ok hn hl hq, ?_⟩
  refine LoopW.split (itL c q) (fun pre => tabL w.Data.length fun j => mget (effM (geL k pre)) ⟨w.Volume, w.Start + (j : Int)⟩ (ix w.Data (j : Int))) ?_ (fun pre x r rec hx hr => ?_) fun rec => hΦ
  · show w.Data = _
    conv => lhs; rw [← tab_self w.Data]
    rfl
  · obtain ⟨j, hj, hqj, rfl⟩ := it_mem hx
    have x0 := placed0 (hc.pl _ (ix_mem (iX (i := (j : Int)) (n := c.Writes.length) (by omega) (by omega))))
    have J2 : ∀ b : Bool, (b = true ↔ (j : Int) < (k : Int) ∨ (ix c.Writes (j : Int)).Volume ≠ w.Volume) → Z31 w (tabL w.Data.length fun j => mget (effM (geL k pre)) ⟨w.Volume, w.Start + (j : Int)⟩ (ix w.Data (j : Int))) rec ((j : Int), ix c.Writes (j : Int), ()) r Φ b := fun b hb => by
      refine ⟨fun t => hr _ (pairE rfl ?_), fun t => ?_⟩
      · rw [geL_snoc]
        by_cases h : (k : Int) ≤ (j : Int)
        · rw [if_pos h]
          refine tab_congr fun i hi => ?_
          unfold mget
          rw [effM_snoc, wrM_find, if_neg]
          rintro ⟨h1, _⟩
          have h1 : w.Volume = (ix c.Writes (j : Int)).Volume := h1
          rcases hb.1 t with h2 | h2
          · omega
          · exact h2 h1.symm
        · rw [if_neg h]
      · have hjk : (k : Int) ≤ (j : Int) := by
          by_cases h : (j : Int) < (k : Int)
          · exact absurd (hb.2 (.inl h)) t
          · omega
        have hvv : (ix c.Writes (j : Int)).Volume = w.Volume := Classical.byContradiction fun h => t (hb.2 (.inr h))
        refine LoopW.upT w.Data.length (fun a => ((a : Int), tabL w.Data.length fun i => if i < a then mget (effM (geL k pre ++ [ix c.Writes (j : Int)])) ⟨w.Volume, w.Start + (i : Int)⟩ (ix w.Data (i : Int)) else mget (effM (geL k pre)) ⟨w.Volume, w.Start + (i : Int)⟩ (ix w.Data (i : Int)))) ?_ (fun a rec2 ha hr2 => ⟨fun _ => ⟨iI (by omega) (by omega), iI (by show _ ≤ w.Start + (a : Int) - (ix c.Writes (j : Int)).Start; omega) (by show w.Start + (a : Int) - (ix c.Writes (j : Int)).Start ≤ _; omega), iI (by show _ ≤ ((ix c.Writes (j : Int)).Data.length : Int) - 1; omega) (by show ((ix c.Writes (j : Int)).Data.length : Int) - 1 ≤ _; omega), cycle_in_ok ?_⟩, fun u => absurd (show (a : Int) < ((tabL w.Data.length _).length : Int) by rw [tab_len]; omega) u⟩) fun rec2 => ⟨fun u => absurd u (by rw [tab_len]; omega), fun _ => hr _ (pairE rfl ?_)⟩
        · refine pairE rfl (tab_congr fun i _ => by rw [if_neg (Nat.not_lt_zero i)])
        · have ef : mfind (effM (geL k pre ++ [ix c.Writes (j : Int)])) ⟨w.Volume, w.Start + (a : Int)⟩ = if 0 ≤ w.Start + (a : Int) - (ix c.Writes (j : Int)).Start ∧ w.Start + (a : Int) - (ix c.Writes (j : Int)).Start ≤ ((ix c.Writes (j : Int)).Data.length : Int) - 1 then some (ix (ix c.Writes (j : Int)).Data (w.Start + (a : Int) - (ix c.Writes (j : Int)).Start)) else mfind (effM (geL k pre)) ⟨w.Volume, w.Start + (a : Int)⟩ := by
            rw [effM_snoc, wrM_find]
            by_cases h : 0 ≤ w.Start + (a : Int) - (ix c.Writes (j : Int)).Start ∧ w.Start + (a : Int) - (ix c.Writes (j : Int)).Start ≤ ((ix c.Writes (j : Int)).Data.length : Int) - 1
            · rw [if_pos h, if_pos ⟨hvv.symm, by show _ ≤ w.Start + (a : Int); omega, by show w.Start + (a : Int) < _; omega⟩]
            · rw [if_neg h, if_neg (fun u => h ⟨by have : (ix c.Writes (j : Int)).Start ≤ w.Start + (a : Int) := u.2.1; omega, by have : w.Start + (a : Int) < (ix c.Writes (j : Int)).Start + ((ix c.Writes (j : Int)).Data.length : Int) := u.2.2; omega⟩)]
          refine ⟨fun u => ?_, fun u => ?_⟩
          · have u := of_decide_eq_true u
            have u : 0 ≤ w.Start + (a : Int) - (ix c.Writes (j : Int)).Start ∧ w.Start + (a : Int) - (ix c.Writes (j : Int)).Start ≤ ((ix c.Writes (j : Int)).Data.length : Int) - 1 := u
            refine ⟨iX u.1 (by show w.Start + (a : Int) - (ix c.Writes (j : Int)).Start < ((ix c.Writes (j : Int)).Data.length : Int); omega), iX (by omega) (by rw [tab_len]; omega), iI (by omega) (by omega), hr2 _ (pairE rfl ?_)⟩
            refine tab_put ha ?_ fun i hi hne => ?_
            · rw [if_pos (by omega)]
              unfold mget
              rw [ef, if_pos u]
            · by_cases h : i < a
              · rw [if_pos h, if_pos (by omega)]
              · rw [if_neg h, if_neg (by omega)]
          · have u : ¬ (0 ≤ w.Start + (a : Int) - (ix c.Writes (j : Int)).Start ∧ w.Start + (a : Int) - (ix c.Writes (j : Int)).Start ≤ ((ix c.Writes (j : Int)).Data.length : Int) - 1) := fun v => u (decide_eq_true v)
            refine ⟨iI (by omega) (by omega), hr2 _ (pairE rfl ?_)⟩
            refine tab_congr fun i hi => ?_
            by_cases h : i < a
            · rw [if_pos h, if_pos (by omega)]
            · rw [if_neg h]
              by_cases h2 : i = a
              · subst h2
                rw [if_pos (by omega)]
                unfold mget
                rw [ef, if_neg u]
              · rw [if_neg (by omega)]
        · rw [geL_snoc, if_pos hjk]
          exact tab_congr fun i hi => if_pos hi
    exact ⟨fun u => J2 true ⟨fun _ => .inl u, fun _ => rfl⟩, fun u => J2 _ (by
      rw [decide_eq_true_eq]
      exact ⟨.inr, fun h => h.resolve_left u⟩)⟩
theorem ge_lat {c : api_Capture} {p : Nat → Bool} {k : Nat} (hp : p k = false) : geL k (itL c p) = latL c p k := by
  unfold geL latL selW itL
  rw [List.filter_map, List.map_map]
  have e : (List.filter ((fun x : Int × api_Write × Unit => decide ((k : Int) ≤ x.1)) ∘ fun j : Nat => ((j : Int), ix c.Writes (j : Int), ())) ((List.range c.Writes.length).filter p)) = (List.range c.Writes.length).filter fun j => decide (k < j) && p j := by
    rw [List.filter_filter]
    refine List.filter_congr fun j _ => ?_
    show (decide ((k : Int) ≤ (j : Int)) && p j) = _
    by_cases hj : p j = true
    · rw [hj, Bool.and_true, Bool.and_true]
      refine decide_eq_decide.2 ?_
      have : j ≠ k := by rintro rfl; rw [hp] at hj; exact Bool.noConfusion hj
      omega
    · rw [Bool.of_not_eq_true hj, Bool.and_false, Bool.and_false]
  rw [e]; rfl
def covP (w : api_Write) (p : coalesce_place) : Prop := p.volume = w.Volume ∧ w.Start ≤ p.sector ∧ p.sector < w.Start + (w.Data.length : Int)
instance (w : api_Write) (p : coalesce_place) : Decidable (covP w p) := by unfold covP; infer_instance
def atP (w : api_Write) (p : coalesce_place) : Option Sec := if covP w p then some (ix w.Data (p.sector - w.Start)) else none
theorem eff_snocP (l : List api_Write) (w : api_Write) (p : coalesce_place) : mfind (effM (l ++ [w])) p = (atP w p).or (mfind (effM l) p) := by
  rw [effM_snoc, wrM_find]
  unfold atP
  by_cases h : covP w p
  · rw [if_pos (show p.volume = w.Volume ∧ w.Start ≤ p.sector ∧ p.sector < w.Start + (w.Data.length : Int) from h), if_pos h]; rfl
  · rw [if_neg (show ¬ (p.volume = w.Volume ∧ w.Start ≤ p.sector ∧ p.sector < w.Start + (w.Data.length : Int)) from h), if_neg h]; rfl
theorem eff_consP (w : api_Write) (l : List api_Write) (p : coalesce_place) : mfind (effM (w :: l)) p = (mfind (effM l) p).or (atP w p) := by
  refine snocInd (P := fun l => mfind (effM (w :: l)) p = (mfind (effM l) p).or (atP w p)) ?_ (fun l x ih => ?_) l
  · show mfind (effM ([] ++ [w])) p = _
    rw [eff_snocP]
    show (atP w p).or none = (none : Option Sec).or (atP w p)
    cases atP w p <;> rfl
  · show mfind (effM ((w :: l) ++ [x])) p = _
    rw [eff_snocP, eff_snocP, ih]
    cases atP x p <;> rfl
def sufL (W : Nat → api_Write) (q : Nat → Bool) (s m : Nat) : List api_Write := ((List.range' s m).filter q).map W
theorem suf_succ (W : Nat → api_Write) (q : Nat → Bool) (s m : Nat) : sufL W q s (m + 1) = if q s = true then W s :: sufL W q (s + 1) m else sufL W q (s + 1) m := by
  unfold sufL
  rw [List.range'_succ]
  by_cases h : q s = true
  · rw [if_pos h, List.filter_cons_of_pos h, List.map_cons]
  · rw [if_neg h, List.filter_cons_of_neg h]
theorem at_hid (w : api_Write) (l : List api_Write) (p : coalesce_place) : atP (hidW w l) p = if covP w p then some (((mfind (effM l) p).or (atP w p)).getD sec0) else none := by
  have ec : covP (hidW w l) p ↔ covP w p := by unfold covP hidW; simp only [tab_len]
  unfold atP
  by_cases h : covP w p
  · rw [if_pos (ec.2 h), if_pos h, if_pos h]
    obtain ⟨i, hi⟩ := Int.eq_ofNat_of_zero_le (show 0 ≤ p.sector - w.Start by have := h.2.1; omega)
    have hl : i < w.Data.length := by have := h.2.2; omega
    have ep : (⟨w.Volume, w.Start + (i : Int)⟩ : coalesce_place) = p := place_ext h.1.symm (by show w.Start + (i : Int) = p.sector; omega)
    show some (ix (tabL w.Data.length fun j => mget (effM l) ⟨w.Volume, w.Start + (j : Int)⟩ (ix w.Data (j : Int))) (p.sector - w.Start)) = _
    rw [hi, ix_tab hl, ep]
    unfold mget
    cases mfind (effM l) p <;> rfl
  · rw [if_neg (fun t => h (ec.1 t)), if_neg h]
theorem hid_suffix (W : Nat → api_Write) (q1 q2 : Nat → Bool) (hq : ∀ j, q1 j = true → q2 j = false) (p : coalesce_place) : ∀ (m s n : Nat), s + m = n → (mfind (effM (sufL (fun j => hidW (W j) (sufL W q1 (j + 1) (n - (j + 1)))) q2 s m)) p).or (mfind (effM (sufL W q1 s m)) p) = mfind (effM (sufL W (fun j => q1 j || q2 j) s m)) p
  | 0, _, _, _ => rfl
  | m + 1, s, n, h => by
    have ih := hid_suffix W q1 q2 hq p m (s + 1) n (by omega)
    have en : n - (s + 1) = m := by omega
    rw [suf_succ, suf_succ, suf_succ]
    by_cases h1 : q1 s = true
    · have h2 := hq s h1
      rw [if_neg (by rw [h2]; simp), if_pos h1, if_pos (by rw [h1]; rfl), eff_consP, eff_consP, ← ih]
      cases mfind (effM (sufL (fun j => hidW (W j) (sufL W q1 (j + 1) (n - (j + 1)))) q2 (s + 1) m)) p <;> rfl
    · have h1 := Bool.of_not_eq_true h1
      rw [if_neg (show ¬ q1 s = true by rw [h1]; simp)]
      by_cases h2 : q2 s = true
      · rw [if_pos h2, if_pos (by rw [h1, h2]; rfl), eff_consP, eff_consP, ← ih, at_hid, en]
        generalize mfind (effM (sufL (fun j => hidW (W j) (sufL W q1 (j + 1) (n - (j + 1)))) q2 (s + 1) m)) p = A
        generalize mfind (effM (sufL W q1 (s + 1) m)) p = B
        by_cases hc : covP (W s) p
        · rw [if_pos hc]
          unfold atP
          rw [if_pos hc]
          cases A <;> cases B <;> rfl
        · rw [if_neg hc]
          unfold atP
          rw [if_neg hc]
          cases A <;> cases B <;> rfl
      · have h2 := Bool.of_not_eq_true h2
        rw [if_neg (by rw [h2]; simp), if_neg (by rw [h1, h2]; simp)]
        exact ih
theorem hid_hid (w : api_Write) (L1 L2 L3 : List api_Write) (h : ∀ p, (mfind (effM L2) p).or (mfind (effM L1) p) = mfind (effM L3) p) : hidW (hidW w L1) L2 = hidW w L3 := by
  unfold hidW
  simp only [tab_len]
  congr 1
  refine tab_congr fun i hi => ?_
  rw [ix_tab hi]
  unfold mget
  rw [← h]
  generalize mfind (effM L2) (⟨w.Volume, w.Start + (i : Int)⟩ : coalesce_place) = A
  generalize mfind (effM L1) (⟨w.Volume, w.Start + (i : Int)⟩ : coalesce_place) = B
  cases A <;> cases B <;> rfl
theorem hid_twice (W : Nat → api_Write) (q1 q2 : Nat → Bool) (hq : ∀ j, q1 j = true → q2 j = false) (k n : Nat) (hk : k < n) : hidW (hidW (W k) (sufL W q1 (k + 1) (n - (k + 1)))) (sufL (fun j => hidW (W j) (sufL W q1 (j + 1) (n - (j + 1)))) q2 (k + 1) (n - (k + 1))) = hidW (W k) (sufL W (fun j => q1 j || q2 j) (k + 1) (n - (k + 1))) :=
  hid_hid _ _ _ _ fun p => hid_suffix W q1 q2 hq p (n - (k + 1)) (k + 1) n (by omega)
def remL (q : Nat → Bool) (n : Nat) : List Nat := (List.range n).filter fun j => !q j
theorem rem_snoc (q : Nat → Bool) (n : Nat) : remL q (n + 1) = if q n = true then remL q n else remL q n ++ [n] := by
  unfold remL
  rw [filter_snoc (fun j => !q j)]
  by_cases h : q n = true
  · rw [if_pos h, if_neg (by rw [h]; simp), List.append_nil]
  · rw [if_neg h, if_pos (by rw [Bool.of_not_eq_true h]; rfl)]
theorem rem_mem {q : Nat → Bool} {n j : Nat} : j ∈ remL q n ↔ j < n ∧ q j = false := by
  unfold remL
  rw [List.mem_filter, List.mem_range]
  simp
theorem list_places (R : List Nat) : R = (List.range R.length).map fun k => R.getD k 0 := by
  refine List.ext_getElem (by simp) fun k h1 h2 => ?_
  simp only [List.getElem_map, List.getElem_range]
  rw [List.getD_eq_getElem?_getD, List.getElem?_eq_getElem h1]; rfl
theorem places_filter {β : Type} (R : List Nat) (p : Nat → Bool) (p' : Nat → Bool) (g : Nat → β) (g' : Nat → β) (hp : ∀ k, k < R.length → p' k = p (R.getD k 0)) (hg : ∀ k, k < R.length → g' k = g (R.getD k 0)) : ((List.range R.length).filter p').map g' = (R.filter p).map g := by
  conv => rhs; rw [list_places R]
  rw [List.filter_map, List.map_map]
  have e : (List.range R.length).filter p' = (List.range R.length).filter (p ∘ fun k => R.getD k 0) := List.filter_congr fun k hk => hp k (List.mem_range.1 hk)
  rw [e]
  refine List.map_congr_left fun k hk => ?_
  exact hg k (List.mem_range.1 (List.mem_filter.1 hk).1)
theorem rem_range (q : Nat → Bool) (n : Nat) : remL q n = (List.range' 0 n).filter fun j => !q j := by unfold remL; rw [List.range_eq_range']
theorem rem_drop (q : Nat → Bool) (n k : Nat) (hk : k < (remL q n).length) : (remL q n).drop (k + 1) = (List.range' ((remL q n).getD k 0 + 1) (n - ((remL q n).getD k 0 + 1))).filter fun j => !q j := by
  have key : ∀ (m s k : Nat), k < ((List.range' s m).filter fun j => !q j).length → (((List.range' s m).filter fun j => !q j).getD k 0 < s + m ∧ ((List.range' s m).filter fun j => !q j).drop (k + 1) = (List.range' (((List.range' s m).filter fun j => !q j).getD k 0 + 1) (s + m - (((List.range' s m).filter fun j => !q j).getD k 0 + 1))).filter fun j => !q j) := by
    intro m
    induction m with
    | zero => intro s k h; exact absurd h (Nat.not_lt_zero k)
    | succ m ih =>
      intro s k h
      rw [List.range'_succ] at h ⊢
      by_cases hq : q s = true
      · rw [List.filter_cons_of_neg (by rw [hq]; simp)] at h ⊢
        have := ih (s + 1) k h
        rw [show s + 1 + m = s + (m + 1) by omega] at this
        exact this
      · have hq := Bool.of_not_eq_true hq
        rw [List.filter_cons_of_pos (by rw [hq]; rfl)] at h ⊢
        cases k with
        | zero =>
          refine ⟨by show s < _; omega, ?_⟩
          show (List.range' (s + 1) m).filter _ = (List.range' (s + 1) (s + (m + 1) - (s + 1))).filter _
          rw [show s + (m + 1) - (s + 1) = m by omega]
        | succ k =>
          have h' : k < ((List.range' (s + 1) m).filter fun j => !q j).length := by simpa using h
          have := ih (s + 1) k h'
          rw [show s + 1 + m = s + (m + 1) by omega] at this
          exact this
  rw [rem_range]
  rw [rem_range] at hk
  have := (key n 0 k hk).2
  rw [Nat.zero_add] at this
  exact this
theorem ix_append {α : Type} [Dt α] (A B : List α) {k : Nat} (h : k < A.length) : ix (A ++ B) (k : Int) = ix A (k : Int) := by
  rw [ix_get (by rw [List.length_append]; omega), ix_get h, List.getElem_append_left h]
theorem cnt_app (A B : List Int) (n : Int) : ∀ k, k ≤ A.length → cnt (A ++ B) n k = cnt A n k
  | 0, _ => rfl
  | k + 1, h => by rw [cnt_succ, cnt_succ, cnt_app A B n k (by omega), ix_append A B (by omega)]
def crL (q : Nat → Bool) (nd : Nat → Int) (n : Int) : Nat → Nat
  | 0 => 0
  | j + 1 => crL q nd n j + if q j = false ∧ nd j = n then 1 else 0
theorem cr_succ (q : Nat → Bool) (nd : Nat → Int) (n : Int) (j : Nat) : crL q nd n (j + 1) = crL q nd n j + if q j = false ∧ nd j = n then 1 else 0 := rfl
theorem rem_cnt (q : Nat → Bool) (nd : Nat → Int) (n : Int) : ∀ N : Nat, (∀ k, k < (remL q N).length → cnt ((remL q N).map nd) n k = crL q nd n ((remL q N).getD k 0)) ∧ cnt ((remL q N).map nd) n (remL q N).length = crL q nd n N
  | 0 => ⟨fun k h => absurd h (Nat.not_lt_zero k), rfl⟩
  | N + 1 => by
    obtain ⟨h1, h2⟩ := rem_cnt q nd n N
    rw [rem_snoc]
    by_cases hq : q N = true
    · rw [if_pos hq]
      exact ⟨h1, by rw [h2, cr_succ, if_neg (by rw [hq]; simp), Nat.add_zero]⟩
    · rw [if_neg hq]
      have hq := Bool.of_not_eq_true hq
      have lm : ((remL q N).map nd).length = (remL q N).length := List.length_map ..
      rw [List.map_append]
      refine ⟨fun k hk => ?_, ?_⟩
      · rw [len_snoc] at hk
        rw [cnt_app _ _ _ _ (by omega)]
        rcases Nat.lt_or_ge k (remL q N).length with hlt | hge
        · rw [h1 k hlt]
          congr 1
          rw [List.getD_eq_getElem?_getD, List.getD_eq_getElem?_getD, List.getElem?_append_left hlt]
        · obtain rfl : k = (remL q N).length := by omega
          rw [h2]
          congr 1
          rw [List.getD_eq_getElem?_getD, List.getElem?_append_right (Nat.le_refl _), Nat.sub_self]; rfl
      · rw [len_snoc, cnt_succ, cnt_app _ _ _ _ (by omega), h2, cr_succ]
        have e : ix ((remL q N).map nd ++ [N].map nd) ((remL q N).length : Int) = nd N := by
          rw [ix_get (by rw [List.length_append, lm]; show _ < _ + 1; omega), List.getElem_append_right (by omega)]
          simp [lm]
        rw [e]
        by_cases hn : nd N = n
        · rw [if_pos hn, if_pos ⟨hq, hn⟩]
        · rw [if_neg hn, if_neg (fun t => hn t.2)]
def takenB (nodes : List Int) (pos : Int → Int) (j : Nat) : Bool := decide ((cnt nodes (ix nodes (j : Int)) j : Int) < pos (ix nodes (j : Int)))
theorem cr_taken (nodes : List Int) (pos : Int → Int) (n : Int) (h0 : 0 ≤ pos n) : ∀ j : Nat, (crL (takenB nodes pos) (fun j => ix nodes (j : Int)) n j : Int) = pos0 ((cnt nodes n j : Int) - pos n)
  | 0 => by
    show (0 : Int) = pos0 (((0 : Nat) : Int) - pos n)
    unfold pos0; split <;> omega
  | j + 1 => by
    have ih := cr_taken nodes pos n h0 j
    rw [cr_succ, cnt_succ]
    by_cases hn : ix nodes (j : Int) = n
    · rw [if_pos hn]
      have ht : takenB nodes pos j = false ↔ pos n ≤ (cnt nodes n j : Int) := by
        unfold takenB
        rw [hn, decide_eq_false_iff_not]; omega
      have e1 : pos0 ((cnt nodes n j : Int) - pos n) = if (cnt nodes n j : Int) - pos n < 0 then 0 else (cnt nodes n j : Int) - pos n := rfl
      have e2 : pos0 (((cnt nodes n j + 1 : Nat) : Int) - pos n) = if ((cnt nodes n j + 1 : Nat) : Int) - pos n < 0 then 0 else ((cnt nodes n j + 1 : Nat) : Int) - pos n := rfl
      rw [e2]
      rw [e1] at ih
      by_cases hc : pos n ≤ (cnt nodes n j : Int)
      · rw [if_pos ⟨ht.2 hc, hn⟩]
        split at ih <;> split <;> omega
      · rw [if_neg (fun t => hc (ht.1 t.1))]
        split at ih <;> split <;> omega
    · rw [if_neg hn, if_neg (fun t => hn t.2), Nat.add_zero, ih]; rfl
theorem part_rem (nodes : List Int) (pos to : Int → Int) (h0 : ∀ n, 0 ≤ pos n) (N k : Nat) (hk : k < (remL (takenB nodes pos) N).length) :
    decide (0 < pos0 ((to (ix nodes (((remL (takenB nodes pos) N).getD k 0 : Nat) : Int)) - pos (ix nodes (((remL (takenB nodes pos) N).getD k 0 : Nat) : Int))) - (cnt ((remL (takenB nodes pos) N).map fun j : Nat => ix nodes (j : Int)) (ix nodes (((remL (takenB nodes pos) N).getD k 0 : Nat) : Int)) k : Int))) = takenB nodes to ((remL (takenB nodes pos) N).getD k 0) := by
  have hc := (rem_cnt (takenB nodes pos) (fun j => ix nodes (j : Int)) (ix nodes (((remL (takenB nodes pos) N).getD k 0 : Nat) : Int)) N).1 k hk
  rw [hc, cr_taken _ _ _ (h0 _)]
  have hm : (remL (takenB nodes pos) N).getD k 0 ∈ remL (takenB nodes pos) N := by
    rw [List.getD_eq_getElem?_getD, List.getElem?_eq_getElem hk]; exact List.getElem_mem hk
  have hf := (rem_mem.1 hm).2
  generalize (remL (takenB nodes pos) N).getD k 0 = j at hf ⊢
  unfold takenB at hf ⊢
  have hf := of_decide_eq_false hf
  refine decide_eq_decide.2 ?_
  have e1 : pos0 ((cnt nodes (ix nodes (j : Int)) j : Int) - pos (ix nodes (j : Int))) = (cnt nodes (ix nodes (j : Int)) j : Int) - pos (ix nodes (j : Int)) := by unfold pos0; rw [if_neg (by omega)]
  rw [e1]
  unfold pos0
  split <;> omega
theorem tab_repl {α : Type} {n : Nat} {x : α} {f : Nat → α} (h : ∀ i, i < n → f i = x) : List.replicate n x = tabL n f := by
  unfold tabL
  induction n with
  | zero => rfl
  | succ n ih => rw [List.replicate_succ', range_snoc_map, ih fun i hi => h i (by omega), h n (by omega)]
theorem it_sel (c : api_Capture) (q : Nat → Bool) : (itL c q).map (fun x => x.2.1) = selW c q c.Writes.length := by
  unfold itL selW
  rw [List.map_map]; rfl
theorem fold_sel {c : api_Capture} (hc : CapOk c) (q : Nat → Bool) : foldR (selW c q c.Writes.length) = (canL (effM (selW c q c.Writes.length)), 0) := by
  unfold foldR
  rw [if_neg fun t => t (firstN_zero.2 fun k hk => hc.sel q (Nat.le_refl _) _ (ix_mem (iX (by omega) (by omega))))]
theorem part_dec (d : Nat → Int) (N : List Int) {m k : Nat} (h0 : 0 ≤ ix N (k : Int)) (h1 : ix N (k : Int) < (m : Int)) : decide (0 < ix (leftF d N m k) (ix N (k : Int))) = partF d N k := by
  rw [ix_left h0 h1]; rfl
theorem cycle_Close_ok {c : api_Capture} {t : Int} {to : List Int} {Φ : api_Capture × api_Cycle × Int → Prop} (hs : SmallC c) (hto : to.length ≤ 20) (hr : ∀ i : Nat, i < to.length → inI (ix to (i : Int))) (hΦ : Φ (cloR c t to)) : cycle_Close_W c t to Φ := by
  have er : ∀ e, cloE c t to = e → e ≠ 0 → Φ (cap0, cyc0, e) := fun e h1 h2 => by
    unfold cloR at hΦ; rw [h1, if_pos h2] at hΦ; exact hΦ
  have cr : ∀ e, cptE c = e → e ≠ 0 → Φ (cap0, cyc0, e) := fun e h1 h2 => er e (by unfold cloE; rw [h1, if_pos h2]) h2
  have s1 := hs.pos
  have s2 := hs.nodes
  have s3 := hs.len
  have s5 := hs.sizes
  have s4 : ∀ w ∈ c.Writes, w.Data.length ≤ 1000000 := fun w hw => by have := hs.data w hw; omega
  refine image_New_ok (fun hz => ⟨fun q => absurd rfl q, fun _ => ?_⟩) fun hz => ⟨fun _ => cr _ (by unfold cptE; rw [if_pos hz]) hz, fun q => absurd (show sizesE c.Sizes = 0 from Classical.not_not.1 q) hz⟩
  have h8 := sizesE_len hz
  have e := szs_zeroI hz
  have hz' : imgE (zeroI c.Sizes) = 0 := by unfold imgE; rw [e]; exact hz
  refine cycle_in_ok ⟨fun r => ?_, fun r => ?_⟩
  · have := of_decide_eq_false (Bool.eq_false_iff.2 r)
    exact cr 2 (by unfold cptE; rw [if_neg (by omega), if_pos (by omega)]) (by omega)
  have a1 := of_decide_eq_true (Classical.not_not.1 r)
  refine cycle_positions_ok (by omega) ⟨fun u => cr _ (by unfold cptE; rw [if_neg (by omega), if_neg (by omega), if_pos u]) u, fun u => ?_⟩
  have u := Classical.not_not.1 u
  refine ⟨fun v => ⟨fun x => cr 6 (by unfold cptE; rw [if_neg (by omega), if_neg (by omega), if_neg (by omega), if_pos (by omega)]) (by omega), fun x => ?_⟩, fun v => cr 6 (by unfold cptE; rw [if_neg (by omega), if_neg (by omega), if_neg (by omega), if_pos (by omega)]) (by omega)⟩
  have ce : cptE c = firstN (nodW c) c.Writes.length := by unfold cptE; rw [if_neg (by omega), if_neg (by omega), if_neg (by omega), if_neg (by omega)]
  refine LoopW.errI c.Writes.length (fun k => (k : Int)) (nodW c) (Ψ := fun o => o = cptE c) rfl ce.symm (fun k rec hk hj g1 g2 => ⟨fun _ => ⟨iX (by omega) (by omega), iX (by omega) (by omega), iI (by omega) (by omega), cycle_in_ok ⟨fun y => ?_, fun y => ?_⟩⟩, fun _ => by omega⟩) fun rec _ c0 => ⟨fun _ => by omega, fun _ => cycle_in_ok ⟨fun y => ?_, fun y => ?_⟩⟩
  · have := of_decide_eq_false (Bool.eq_false_iff.2 y)
    unfold nodW at g1; rw [if_pos (by omega)] at g1
    exact cr 7 (g1 (by omega)).symm (by omega)
  · have := of_decide_eq_true (Classical.not_not.1 y)
    unfold nodW at g1 g2; rw [if_neg (by omega)] at g1 g2
    refine image_Fits_ok (s4 _ (ix_mem (iX (i := (k : Int)) (n := c.Writes.length) (by omega) (by omega)))) hz' ?_
    rw [e]
    exact ⟨fun z => cr _ (g1 z).symm z, fun z => ⟨iI (by omega) (by omega), g2 (Classical.not_not.1 z) _ rfl⟩⟩
  · have := of_decide_eq_false (Bool.eq_false_iff.2 y)
    exact er 24 (by unfold cloE; rw [if_neg (by omega), if_pos (by omega)]) (by omega)
  have a2 := of_decide_eq_true (Classical.not_not.1 y)
  have hk := capOk_of c0.symm
  refine ⟨fun z => er 6 (by unfold cloE; rw [if_neg (by omega), if_neg (by omega), if_pos (by omega)]) (by omega), fun z => ?_⟩
  have hm : to.length = c.Positions.length := by omega
  have bad2 : badB c to = true → Φ (cap0, cyc0, 2) := fun hb => er 2 (by unfold cloE; rw [if_neg (by omega), if_neg (by omega), if_neg (by omega), if_pos hb]) (by omega)
  have wc : ∀ i : Nat, i < to.length → dW c to i = dT c to i ∨ (4611686018427387904 ≤ dW c to i ∧ dW c to i ≤ 9223372036854775807 ∧ ix to (i : Int) < ix c.Positions (i : Int)) := fun i hi => wrap_case (hr i hi) (hk.pos i (by omega))
  have wT : ∀ i : Nat, i < to.length → dT c to i ≤ 9223372036854775807 := fun i hi => by
    have h1 := (hr i hi).2
    have h2 := hk.pos i (by omega)
    unfold dT; omega
  have wU : ∀ i : Nat, i < to.length → dW c to i ≤ 9223372036854775807 := fun i hi => by
    rcases wc i hi with h | h
    · rw [h]; exact wT i hi
    · exact h.2.1
  refine ⟨by omega, iL (by omega) (by omega), ?_⟩
  refine LoopW.upI to.length (fun k => ((k : Int), tabL to.length fun i => if i < k then dW c to i else 0)) (fun k => ∀ j, j < k → 0 ≤ dW c to j) (pairE rfl (tab_repl fun i _ => if_neg (Nat.not_lt_zero i))) (fun j hj => absurd hj (Nat.not_lt_zero j)) (fun k rec hk' hI hrec => ⟨fun _ => ⟨iX (by omega) (by omega), iX (by omega) (by omega), iX (by omega) (by rw [tab_len]; omega), iX (by omega) (by rw [put_len, tab_len]; omega), ?_⟩, fun q => by omega⟩) fun rec hI => ⟨fun q => by omega, fun _ => ?_⟩
  · rw [ix_put_self _ (iX (by omega) (by rw [tab_len]; omega))]
    show (¬ (0 ≤ dW c to k) → _) ∧ (¬ ¬ (0 ≤ dW c to k) → _)
    refine ⟨fun q => bad2 (badB_true hk' ?_), fun q => ⟨iI (by omega) (by omega), hrec (fun j hj => ?_) _ (pairE rfl ?_)⟩⟩
    · rcases wc k hk' with h | h
      · rw [h] at q; unfold dT at q; exact .inl (by omega)
      · exact .inl h.2.2
    · rcases Nat.lt_or_ge j k with h2 | h2
      · exact hI j h2
      · obtain rfl : j = k := by omega
        exact Classical.not_not.1 q
    · refine tab_put hk' ?_ fun i hi hne => ?_
      · rw [if_pos (by omega)]; rfl
      · by_cases h : i < k
        · rw [if_pos h, if_pos (by omega)]
        · rw [if_neg h, if_neg (by omega)]
  have e0 : (tabL to.length fun i => if i < to.length then dW c to i else 0) = leftF (dW c to) c.Nodes to.length 0 := tab_congr fun i hi => by
    have := hI i hi
    rw [if_pos hi]
    show _ = pos0 (dW c to i - ((0 : Nat) : Int))
    unfold pos0
    split <;> omega
  rw [e0]
  refine LoopW.upT c.Nodes.length (fun k => ((k : Int), leftF (dW c to) c.Nodes to.length k, tabL k (partF (dW c to) c.Nodes))) rfl (fun k rec hk' hrec => ⟨fun _ => ?_, fun q => by omega⟩) fun rec => ⟨fun q => by omega, fun _ => ?_⟩
  · have hn := hk.node k (by omega)
    have ll : (leftF (dW c to) c.Nodes to.length k).length = to.length := tab_len _ _
    have hx := ix_left (d := dW c to) (N := c.Nodes) (m := to.length) (k := k) hn.1 (by omega)
    obtain ⟨a, ha⟩ := Int.eq_ofNat_of_zero_le hn.1
    have hu := wU a (by omega)
    have hb : 0 ≤ pos0 (dW c to (ix c.Nodes (k : Int)).toNat - (cnt c.Nodes (ix c.Nodes (k : Int)) k : Int)) ∧ pos0 (dW c to (ix c.Nodes (k : Int)).toNat - (cnt c.Nodes (ix c.Nodes (k : Int)) k : Int)) ≤ 9223372036854775807 := by
      rw [ha, Int.toNat_natCast]
      unfold pos0
      split <;> omega
    refine ⟨iX (by omega) (by omega), iX (by omega) (by rw [ll]; omega), iL (by rw [len_snoc, tab_len]; omega) (by omega), iX (by omega) (by rw [ll]; omega), by rw [hx]; exact iI (by omega) (by omega), iX (by omega) (by rw [ll]; omega), iI (by omega) (by omega), hrec _ (pairE rfl (pairE ?_ ?_))⟩
    · exact left_step hn.1 (by omega) (by rw [hx]; rfl)
    · rw [tab_snoc, part_dec (m := to.length) _ _ hn.1 (by omega)]
  have ll : (leftF (dW c to) c.Nodes to.length c.Nodes.length).length = to.length := tab_len _ _
  have ne1 : ¬ ((0 : Int) ≤ -1) := by omega
  refine LoopW.upI to.length (fun k => (k : Int)) (fun k => ∀ j : Nat, j < k → ¬ 0 < ix (leftF (dW c to) c.Nodes to.length c.Nodes.length) (j : Int)) rfl (fun j hj => absurd hj (Nat.not_lt_zero j)) (fun k rec hk' hI2 hrec => ⟨fun _ => ⟨iX (by omega) (by rw [ll]; omega), fun q => ⟨fun _ => ?_, fun q2 => absurd (fun q3 => q3 (show (0 : Int) ≤ (k : Int) by omega)) q2⟩, fun q => ⟨iI (by omega) (by omega), hrec (fun j hj => ?_) _ rfl⟩⟩, fun q => absurd (show (k : Int) < ((leftF (dW c to) c.Nodes to.length c.Nodes.length).length : Int) by rw [ll]; omega) q⟩) fun rec hI2 => ⟨fun q => absurd q (by rw [ll]; omega), fun _ => ⟨fun q => absurd (Classical.not_not.1 q) ne1, fun _ => ?_⟩⟩
  · have q := of_decide_eq_true q
    have q : 0 < ix (leftF (dW c to) c.Nodes to.length c.Nodes.length) (k : Int) := q
    rw [ix_left (by omega) (by omega), Int.toNat_natCast] at q
    have q : 0 < dW c to k - (cnt c.Nodes (k : Int) c.Nodes.length : Int) := by
      unfold pos0 at q; split at q <;> omega
    refine bad2 (badB_true hk' ?_)
    rcases wc k hk' with h | h
    · rw [h] at q; unfold dT at q; exact .inr (by omega)
    · exact .inl h.2.2
  · rcases Nat.lt_or_ge j k with h2 | h2
    · exact hI2 j h2
    · obtain rfl : j = k := by omega
      exact fun r => q (decide_eq_true r)
  have dd : ∀ i, i < to.length → dW c to i = dT c to i ∧ dW c to i ≤ (cnt c.Nodes (i : Int) c.Nodes.length : Int) := fun i hi => by
    have q := hI2 i hi
    rw [ix_left (by omega) (by omega), Int.toNat_natCast] at q
    have q : dW c to i - (cnt c.Nodes (i : Int) c.Nodes.length : Int) ≤ 0 := by
      unfold pos0 at q; split at q <;> omega
    have := cnt_le c.Nodes (i : Int) c.Nodes.length
    rcases wc i hi with h | h
    · exact ⟨h, by omega⟩
    · omega
  have nb : badB c to = false := badB_false fun i hi hb => by
    obtain ⟨d1, d2⟩ := dd i hi
    have d3 := hI i hi
    rw [d1] at d2 d3
    unfold dT at d2 d3
    unfold badI at hb
    omega
  have c00 : cloE c t to = 0 := by unfold cloE; rw [if_neg (by omega), if_neg (by omega), if_neg (by omega), if_neg (by rw [nb]; simp)]
  unfold cloR at hΦ
  rw [if_neg (fun q => q c00)] at hΦ
  have pl : (tabL c.Nodes.length (partF (dW c to) c.Nodes)).length = c.Writes.length := by rw [tab_len]; omega
  have pq : ∀ j : Nat, j < c.Writes.length → ix (tabL c.Nodes.length (partF (dW c to) c.Nodes)) (j : Int) = inB c to j := fun j hj => by
    rw [ix_tab (by omega)]
    have hn := hk.node j hj
    obtain ⟨a, ha⟩ := Int.eq_ofNat_of_zero_le hn.1
    unfold inB partF
    rw [ha, Int.toNat_natCast, (dd a (by omega)).1]
  generalize tabL c.Nodes.length (partF (dW c to) c.Nodes) = part at pl pq
  have q1 : ∀ j : Nat, j < c.Writes.length → (ix part (j : Int) = true ↔ inB c to j = true) := fun j hj => by rw [pq j hj]
  have q2 : ∀ j : Nat, j < c.Writes.length → (ix part (j : Int) = false ↔ (!inB c to j) = true) := fun j hj => by rw [pq j hj]; simp
  generalize inB c to = p at hΦ q1 q2
  refine ⟨itL c p, it_ok (by omega) pl q1, ?_⟩
  refine LoopW.split (itL c p) (fun pre => pre.map fun x => x.2.1) rfl (fun pre x r rec hx hrec => ⟨iL (by have := it_len hx; rw [len_snoc, List.length_map]; omega) (by omega), hrec _ (pairE rfl (by rw [List.map_append]; rfl))⟩) fun rec => ?_
  show Z29 ((itL c p).map fun x => x.2.1) _
  rw [it_sel]
  refine coalesce_Fold_ok (by have := sel_len (c := c) (q := p) (n := c.Writes.length); omega) (fun w hw => s4 w (sel_mem (Nat.le_refl _) w hw)) ?_
  rw [fold_sel hk]
  refine ⟨fun q => absurd rfl q, fun _ => ⟨iI (by omega) (by omega), (to, ()), slices_Clone_int_ok (by omega) rfl, iI (by omega) (by omega), (c.Sizes, ()), slices_Clone_int_ok (by omega) rfl, (to, ()), slices_Clone_int_ok (by omega) rfl, itL c (fun j => !p j), it_ok (by omega) pl q2, ?_⟩⟩
  refine LoopW.split (itL c fun j => !p j) (fun pre => (pre.map fun x => ix c.Nodes x.1, pre.map fun x => hidW x.2.1 (latL c p x.1.toNat))) rfl (fun pre x r rec hx hrec => ?_) fun rec => ?_
  · have hlen := it_len hx
    obtain ⟨j, hj, hq, rfl⟩ := it_mem hx
    have hq : p j = false := by cases h : p j with
      | false => rfl
      | true => rw [h] at hq; exact Bool.noConfusion hq
    have lt : geL j (itL c p) = latL c p j := ge_lat hq
    refine ⟨iX (by show (0 : Int) ≤ (j : Int); omega) (by show (j : Int) < _; omega), iL (by rw [len_snoc, List.length_map]; omega) (by omega), (hidW (ix c.Writes (j : Int)) (latL c p j), ()), later_ok hk (by omega) pl q1 (hk.pl _ (ix_mem (iX (by omega) (by omega)))) (by rw [lt]), iL (by rw [len_snoc, List.length_map]; omega) (by omega), hrec _ (pairE rfl (pairE ?_ ?_))⟩
    · rw [List.map_append]; rfl
    · rw [List.map_append]; rfl
  · have e1 : ((itL c fun j => !p j).map fun x => ix c.Nodes x.1) = outN c p c.Writes.length := by unfold itL outN; rw [List.map_map]; rfl
    have e2 : ((itL c fun j => !p j).map fun x => hidW x.2.1 (latL c p x.1.toNat)) = outW c p c.Writes.length := by unfold itL outW; rw [List.map_map]; rfl
    show Φ (⟨c.Number + 1, c.Sizes, to, (itL c fun j => !p j).map fun x => ix c.Nodes x.1, (itL c fun j => !p j).map fun x => hidW x.2.1 (latL c p x.1.toNat)⟩, ⟨c.Number, c.Number + 1, t, to, canL (effM (selW c p c.Writes.length))⟩, 0)
    rw [e1, e2]; exact hΦ
def wrA (all : List api_Write) (j : Nat) : api_Write := ix all (j : Int)
def ndA (nodes : List Int) (j : Nat) : Int := ix nodes (j : Int)
def hidA (all : List api_Write) (q : Nat → Bool) (N j : Nat) : api_Write := hidW (wrA all j) (sufL (wrA all) q (j + 1) (N - (j + 1)))
structure HistC (all : List api_Write) (nodes : List Int) (q : Nat → Bool) (N : Nat) (c : api_Capture) : Prop where
  nodes : c.Nodes = (remL q N).map (ndA nodes)
  writes : c.Writes = (remL q N).map (hidA all q N)
theorem ix_map_places {α : Type} [Dt α] (R : List Nat) (f : Nat → α) {k : Nat} (h : k < R.length) : ix (R.map f) (k : Int) = f (R.getD k 0) := by
  rw [ix_get (by rw [List.length_map]; exact h), List.getElem_map, List.getD_eq_getElem?_getD, List.getElem?_eq_getElem h]; rfl
theorem rem_filter {β : Type} (q p : Nat → Bool) (N : Nat) (f : Nat → β) : ((remL q N).filter p).map f = ((List.range' 0 N).filter fun j => !q j && p j).map f := by
  rw [rem_range, List.filter_filter]
  congr 1
  exact List.filter_congr fun j _ => Bool.and_comm _ _
theorem HistC.sel {all : List api_Write} {nodes : List Int} {q : Nat → Bool} {N : Nat} {c : api_Capture} (h : HistC all nodes q N c) (p p' : Nat → Bool) (hp : ∀ k, k < (remL q N).length → p' k = p ((remL q N).getD k 0)) : selW c p' c.Writes.length = sufL (hidA all q N) (fun j => !q j && p j) 0 N := by
  have hl : c.Writes.length = (remL q N).length := by rw [h.writes, List.length_map]
  unfold selW sufL
  rw [hl, places_filter (remL q N) p p' (hidA all q N) _ hp fun k hk => by rw [h.writes, ix_map_places _ _ hk], rem_filter]
theorem HistC.lat {all : List api_Write} {nodes : List Int} {q : Nat → Bool} {N : Nat} {c : api_Capture} (h : HistC all nodes q N c) (p p' : Nat → Bool) (hp : ∀ k, k < (remL q N).length → p' k = p ((remL q N).getD k 0)) {k : Nat} (hk : k < (remL q N).length) : latL c p' k = sufL (hidA all q N) (fun j => !q j && p j) ((remL q N).getD k 0 + 1) (N - ((remL q N).getD k 0 + 1)) := by
  have hl : c.Writes.length = (remL q N).length := by rw [h.writes, List.length_map]
  have hd := rem_drop q N k hk
  unfold latL selW sufL
  rw [hl]
  have e1 : (List.range (remL q N).length).filter (fun j => decide (k < j) && p' j) = (List.range' (k + 1) ((remL q N).length - (k + 1))).filter p' := by
    rw [List.range_eq_range']
    have es : (remL q N).length = (k + 1) + ((remL q N).length - (k + 1)) := by omega
    conv => lhs; rw [es, ← List.range'_append_1]
    rw [List.filter_append, Nat.zero_add]
    have z : (List.range' 0 (k + 1)).filter (fun j => decide (k < j) && p' j) = [] := List.filter_eq_nil_iff.2 fun j hj => by
      have := List.mem_range'_1.1 hj
      rw [decide_eq_false (by omega), Bool.false_and]; simp
    rw [z, List.nil_append]
    exact List.filter_congr fun j hj => by
      have := List.mem_range'_1.1 hj
      rw [decide_eq_true (by omega), Bool.true_and]
  rw [e1]
  have e2 : (remL q N).drop (k + 1) = (List.range' (k + 1) ((remL q N).length - (k + 1))).map fun i => (remL q N).getD i 0 := by
    refine List.ext_getElem (by simp) fun i h1 h2 => ?_
    rw [List.getElem_drop, List.getElem_map, List.getElem_range']
    rw [List.length_drop] at h1
    rw [List.getD_eq_getElem?_getD, List.getElem?_eq_getElem (by omega)]
    simp
  have e3 : ((List.range' (k + 1) ((remL q N).length - (k + 1))).filter p').map (fun j : Nat => ix c.Writes (j : Int)) = (((remL q N).drop (k + 1)).filter p).map (hidA all q N) := by
    rw [e2, List.filter_map, List.map_map]
    have e4 : (List.range' (k + 1) ((remL q N).length - (k + 1))).filter p' = (List.range' (k + 1) ((remL q N).length - (k + 1))).filter (p ∘ fun i => (remL q N).getD i 0) := List.filter_congr fun i hi => by
      have := List.mem_range'_1.1 hi
      exact hp i (by omega)
    rw [e4]
    refine List.map_congr_left fun i hi => ?_
    have := List.mem_range'_1.1 (List.mem_filter.1 hi).1
    rw [h.writes, ix_map_places _ _ (by omega)]; rfl
  rw [e3, hd, List.filter_filter]
  congr 1
  exact List.filter_congr fun j _ => Bool.and_comm _ _
section
section
variable {all : List api_Write} {nodes : List Int} {pos to : Int → Int} {N : Nat} {c : api_Capture} {tl : List Int}
theorem taken_mono (hm : ∀ n, pos n ≤ to n) {j : Nat} (h : takenB nodes pos j = true) : takenB nodes to j = true := by
  unfold takenB at *
  have := of_decide_eq_true h
  have h2 := hm (ix nodes (j : Int))
  exact decide_eq_true (by omega)
theorem in_rem (h : HistC all nodes (takenB nodes pos) N c) (h0 : ∀ n, 0 ≤ pos n) (hd : ∀ j : Nat, j < N → dT c tl (ix nodes (j : Int)).toNat = to (ix nodes (j : Int)) - pos (ix nodes (j : Int))) : ∀ k, k < (remL (takenB nodes pos) N).length → inB c tl k = takenB nodes to ((remL (takenB nodes pos) N).getD k 0) := fun k hk => by
  rw [← part_rem nodes pos to h0 N k hk]
  have hm : (remL (takenB nodes pos) N).getD k 0 ∈ remL (takenB nodes pos) N := by
    rw [List.getD_eq_getElem?_getD, List.getElem?_eq_getElem hk]; exact List.getElem_mem hk
  have hN := (rem_mem.1 hm).1
  have e : ix c.Nodes (k : Int) = ix nodes (((remL (takenB nodes pos) N).getD k 0 : Nat) : Int) := by rw [h.nodes, ix_map_places _ _ hk]; rfl
  unfold inB partF
  rw [e, hd _ hN, h.nodes]; rfl
theorem close_nodes (h : HistC all nodes (takenB nodes pos) N c) (hm : ∀ n, pos n ≤ to n) (hin : ∀ k, k < (remL (takenB nodes pos) N).length → inB c tl k = takenB nodes to ((remL (takenB nodes pos) N).getD k 0)) : outN c (inB c tl) c.Writes.length = (remL (takenB nodes to) N).map (ndA nodes) := by
  have hl : c.Writes.length = (remL (takenB nodes pos) N).length := by rw [h.writes, List.length_map]
  unfold outN
  rw [hl, places_filter (remL (takenB nodes pos) N) (fun j => !takenB nodes to j) _ (ndA nodes) _ (fun k hk => by rw [hin k hk]) fun k hk => by rw [h.nodes, ix_map_places _ _ hk]]
  unfold remL
  rw [List.filter_filter]
  congr 1
  refine List.filter_congr fun j _ => ?_
  cases h1 : takenB nodes pos j with
  | true => rw [taken_mono hm h1]; rfl
  | false => simp
theorem or_taken (hm : ∀ n, pos n ≤ to n) : (fun j => takenB nodes pos j || (!takenB nodes pos j && takenB nodes to j)) = takenB nodes to := by
  funext j
  cases h1 : takenB nodes pos j with
  | true => rw [taken_mono hm h1]; rfl
  | false => simp
theorem close_writes (h : HistC all nodes (takenB nodes pos) N c) (hm : ∀ n, pos n ≤ to n) (hin : ∀ k, k < (remL (takenB nodes pos) N).length → inB c tl k = takenB nodes to ((remL (takenB nodes pos) N).getD k 0)) : outW c (inB c tl) c.Writes.length = (remL (takenB nodes to) N).map (hidA all (takenB nodes to) N) := by
  have hl : c.Writes.length = (remL (takenB nodes pos) N).length := by rw [h.writes, List.length_map]
  unfold outW
  rw [hl, places_filter (remL (takenB nodes pos) N) (fun j => !takenB nodes to j) _ (hidA all (takenB nodes to) N) _ (fun k hk => by rw [hin k hk]) fun k hk => ?_]
  · unfold remL
    rw [List.filter_filter]
    congr 1
    refine List.filter_congr fun j _ => ?_
    cases h1 : takenB nodes pos j with
    | true => rw [taken_mono hm h1]; rfl
    | false => simp
  · have hmem : (remL (takenB nodes pos) N).getD k 0 ∈ remL (takenB nodes pos) N := by
      rw [List.getD_eq_getElem?_getD, List.getElem?_eq_getElem hk]; exact List.getElem_mem hk
    have hN := (rem_mem.1 hmem).1
    rw [h.lat (takenB nodes to) (inB c tl) hin hk, h.writes, ix_map_places _ _ hk]
    generalize (remL (takenB nodes pos) N).getD k 0 = j at hN
    have := hid_twice (wrA all) (takenB nodes pos) (fun j => !takenB nodes pos j && takenB nodes to j) (fun j hj => by rw [hj]; rfl) j N hN
    rw [or_taken hm] at this
    exact this
theorem close_image (h : HistC all nodes (takenB nodes pos) N c) (hm : ∀ n, pos n ≤ to n) (hin : ∀ k, k < (remL (takenB nodes pos) N).length → inB c tl k = takenB nodes to ((remL (takenB nodes pos) N).getD k 0)) {z : List (List Sec)} (hz : ¬ sizesE (szs z) ≠ 0) (hf : ∀ j, j < N → fitW (szs z) (wrA all j) = 0) (hs : ∀ w ∈ selW c (inB c tl) c.Writes.length, fitW (szs z) w = 0) : appL (appL z (sufL (wrA all) (takenB nodes pos) 0 N)) (canL (effM (selW c (inB c tl) c.Writes.length))) = appL z (sufL (wrA all) (takenB nodes to) 0 N) := by
  have fit : ∀ q : Nat → Bool, ∀ w ∈ sufL (wrA all) q 0 N, fitW (szs z) w = 0 := fun q w hw => by
    unfold sufL at hw
    obtain ⟨j, hj, rfl⟩ := List.mem_map.1 hw
    have := List.mem_range'_1.1 (List.mem_filter.1 hj).1
    exact hf j (by omega)
  have e1 := szs_appL hz (fit (takenB nodes pos))
  have hz1 : ¬ sizesE (szs (appL z (sufL (wrA all) (takenB nodes pos) 0 N))) ≠ 0 := by rw [e1]; exact hz
  have hs1 : ∀ w ∈ selW c (inB c tl) c.Writes.length, fitW (szs (appL z (sufL (wrA all) (takenB nodes pos) 0 N))) w = 0 := by rw [e1]; exact hs
  rw [appL_can hz1 hs1]
  refine im_ext (by rw [szs_appL hz1 hs1, e1, szs_appL hz (fit _)]) fun v i _ _ => ?_
  rw [sec_eff hz1 _ hs1, sec_eff hz _ (fit _), sec_eff hz _ (fit _), h.sel (takenB nodes to) (inB c tl) hin]
  have key : (mfind (effM (sufL (hidA all (takenB nodes pos) N) (fun j => !takenB nodes pos j && takenB nodes to j) 0 N)) ⟨(v : Int), (i : Int)⟩).or (mfind (effM (sufL (wrA all) (takenB nodes pos) 0 N)) ⟨(v : Int), (i : Int)⟩) = mfind (effM (sufL (wrA all) (fun j => takenB nodes pos j || (!takenB nodes pos j && takenB nodes to j)) 0 N)) ⟨(v : Int), (i : Int)⟩ := hid_suffix (wrA all) (takenB nodes pos) (fun j => !takenB nodes pos j && takenB nodes to j) (fun j hj => by rw [hj]; rfl) ⟨(v : Int), (i : Int)⟩ N 0 N (by omega)
  rw [or_taken hm] at key
  unfold mget
  rw [← key]
  generalize mfind (effM (sufL (hidA all (takenB nodes pos) N) (fun j => !takenB nodes pos j && takenB nodes to j) 0 N)) (⟨(v : Int), (i : Int)⟩ : coalesce_place) = A
  generalize mfind (effM (sufL (wrA all) (takenB nodes pos) 0 N)) (⟨(v : Int), (i : Int)⟩ : coalesce_place) = B
  cases A <;> cases B <;> rfl
end
end
theorem hid_nil (w : api_Write) : hidW w [] = w := by
  unfold hidW
  show (⟨w.Volume, w.Start, tabL w.Data.length fun j => ix w.Data (j : Int)⟩ : api_Write) = w
  rw [tab_self]
theorem ix_snoc_last {α : Type} [Dt α] (l : List α) (x : α) : ix (l ++ [x]) (l.length : Int) = x := by
  rw [ix_snoc _ _ _ (by rw [len_snoc]; omega), if_pos rfl]
theorem taken_old (nodes : List Int) (n : Int) (pos : Int → Int) {j : Nat} (hj : j < nodes.length) : takenB (nodes ++ [n]) pos j = takenB nodes pos j := by
  unfold takenB
  rw [ix_append _ _ hj, cnt_app _ _ _ _ (by omega)]
theorem suf_congr {W W' : Nat → api_Write} {q q' : Nat → Bool} {s m : Nat} (h : ∀ j, s ≤ j → j < s + m → q j = q' j ∧ W j = W' j) : sufL W q s m = sufL W' q' s m := by
  unfold sufL
  have e : (List.range' s m).filter q = (List.range' s m).filter q' := List.filter_congr fun j hj => by
    have := List.mem_range'_1.1 hj
    exact (h j this.1 this.2).1
  rw [e]
  refine List.map_congr_left fun j hj => ?_
  have := List.mem_range'_1.1 (List.mem_filter.1 hj).1
  exact (h j this.1 this.2).2
theorem suf_last (W : Nat → api_Write) (q : Nat → Bool) (s m : Nat) (h : q (s + m) = false) : sufL W q s (m + 1) = sufL W q s m := by
  unfold sufL
  have e : List.range' s (m + 1) = List.range' s m ++ [s + m] := by
    have := List.range'_append_1 (s := s) (m := m) (n := 1)
    rw [← this]; rfl
  rw [e, List.filter_append, List.filter_cons_of_neg (by rw [h]; simp), List.filter_nil, List.append_nil]
theorem HistC.add {all : List api_Write} {nodes : List Int} {pos : Int → Int} {c c' : api_Capture} {n : Int} {w : api_Write} (h : HistC all nodes (takenB nodes pos) all.length c) (hl : nodes.length = all.length) (hp : pos n ≤ (cnt nodes n nodes.length : Int)) (h1 : c'.Nodes = c.Nodes ++ [n]) (h2 : c'.Writes = c.Writes ++ [w]) : HistC (all ++ [w]) (nodes ++ [n]) (takenB (nodes ++ [n]) pos) (all ++ [w]).length c' := by
  have hq : takenB (nodes ++ [n]) pos all.length = false := by
    unfold takenB
    rw [← hl, ix_snoc_last, cnt_app _ _ _ _ (Nat.le_refl _)]
    exact decide_eq_false (by omega)
  have er : remL (takenB (nodes ++ [n]) pos) (all ++ [w]).length = remL (takenB nodes pos) all.length ++ [all.length] := by
    rw [len_snoc, rem_snoc, if_neg (by rw [hq]; simp)]
    congr 1
    unfold remL
    exact List.filter_congr fun j hj => by rw [taken_old _ _ _ (by have := List.mem_range.1 hj; omega)]
  refine ⟨?_, ?_⟩
  · rw [h1, h.nodes, er, List.map_append]
    congr 1
    · refine List.map_congr_left fun j hj => ?_
      have := (rem_mem.1 hj).1
      exact (ix_append _ _ (by omega)).symm
    · show [n] = [ix (nodes ++ [n]) (all.length : Int)]
      rw [← hl, ix_snoc_last]
  · rw [h2, h.writes, er, List.map_append]
    congr 1
    · refine List.map_congr_left fun j hj => ?_
      have hj := (rem_mem.1 hj).1
      unfold hidA
      have e1 : wrA (all ++ [w]) j = wrA all j := ix_append _ _ hj
      rw [e1]
      congr 1
      rw [len_snoc, show all.length + 1 - (j + 1) = (all.length - (j + 1)) + 1 by omega, suf_last _ _ _ _ (by rw [show j + 1 + (all.length - (j + 1)) = all.length by omega]; exact hq)]
      exact suf_congr fun i h3 h4 => ⟨(taken_old _ _ _ (by omega)).symm, (ix_append _ _ (by omega)).symm⟩
    · show [w] = [hidW (ix (all ++ [w]) (all.length : Int)) (sufL _ _ (all.length + 1) ((all ++ [w]).length - (all.length + 1)))]
      rw [ix_snoc_last, len_snoc, Nat.sub_self]
      show [w] = [hidW w []]
      rw [hid_nil]
def szL : List Int := [6, 3]
def volD (s : standbylaw23_Step) : Int := ((s.Volume % (2#8)).toNat : Int)
def sizD (s : standbylaw23_Step) : Int := ix szL (volD s)
def startD (s : standbylaw23_Step) : Int := (s.Start.toNat : Int) % sizD s
def moreD (s : standbylaw23_Step) : Int := (s.Count.toNat : Int) % (sizD s - startD s)
def dataR (s : standbylaw23_Step) : api_Write := ⟨volD s, startD s, tabL ((moreD s).toNat + 1) fun i => Sec.mk s.First (BitVec.ofInt 8 (i : Int)) (0#8) (0#8) (0#8) (0#8) (0#8) (0#8)⟩
theorem volD_two (s : standbylaw23_Step) : volD s = 0 ∨ volD s = 1 := by
  have : (s.Volume % (2#8)).toNat = s.Volume.toNat % 2 := by simp [BitVec.toNat_umod]
  unfold volD
  rw [this]; omega
theorem sizD_two (s : standbylaw23_Step) : 0 ≤ volD s ∧ volD s < 2 ∧ (sizD s = 6 ∨ sizD s = 3) := by
  rcases volD_two s with h | h
  · exact ⟨by omega, by omega, .inl (by unfold sizD; rw [h]; rfl)⟩
  · exact ⟨by omega, by omega, .inr (by unfold sizD; rw [h]; rfl)⟩
theorem startD_in (s : standbylaw23_Step) : 0 ≤ startD s ∧ startD s < sizD s := by
  have := (sizD_two s).2.2
  unfold startD
  exact ⟨Int.emod_nonneg _ (by omega), Int.emod_lt_of_pos _ (by omega)⟩
theorem moreD_in (s : standbylaw23_Step) : 0 ≤ moreD s ∧ moreD s < sizD s - startD s := by
  have h1 := startD_in s
  unfold moreD
  exact ⟨Int.emod_nonneg _ (by omega), Int.emod_lt_of_pos _ (by omega)⟩
theorem data_fit (s : standbylaw23_Step) : fitW szL (dataR s) = 0 := by
  obtain ⟨v0, v1, v2⟩ := sizD_two s
  have h1 := startD_in s
  have h2 := moreD_in s
  have hl : ((dataR s).Data.length : Int) = moreD s + 1 := by
    show ((tabL ((moreD s).toNat + 1) _).length : Int) = _
    rw [tab_len]; omega
  have hs : ix szL (dataR s).Volume = sizD s := rfl
  have hv : (dataR s).Volume = volD s := rfl
  have hst : (dataR s).Start = startD s := rfl
  unfold fitW
  rw [hs, hl, hv, hst, if_neg (by show ¬ (volD s < 0 ∨ (2 : Int) ≤ volD s); omega), if_neg (by omega), if_neg (by omega)]
theorem law23_data_ok {s : standbylaw23_Step} {Φ : api_Write → Prop} (hΦ : Φ (dataR s)) : law23_data_W s Φ := by
  obtain ⟨v0, v1, v2⟩ := sizD_two s
  have h1 := startD_in s
  have h2 := moreD_in s
  have e1 : ix szL ((s.Volume % (2#8)).toNat : Int) = sizD s := rfl
  have e2 : (s.Start.toNat : Int) % sizD s = startD s := rfl
  have e3 : (s.Count.toNat : Int) % (sizD s - startD s) = moreD s := rfl
  refine ⟨(szL, ()), rfl, by decide, iX v0 (by show volD s < 2; omega), ⟨by omega, by show sizD s ≠ 0; omega⟩, by decide, ?_⟩
  refine LoopW.upT ((moreD s).toNat + 1) (fun k => ((k : Int), tabL k fun i => Sec.mk s.First (BitVec.ofInt 8 (i : Int)) (0#8) (0#8) (0#8) (0#8) (0#8) (0#8))) rfl (fun k rec hk hr => ?_) fun rec => ?_
  · refine ⟨?_, ?_, fun _ => ⟨iL (by rw [len_snoc, tab_len]; omega) (by omega), iI (by omega) (by omega), hr _ (pairE rfl (tab_snoc _ _).symm)⟩, fun q => absurd (show (k : Int) ≤ moreD s by omega) q⟩
    · show inI (sizD s - startD s); exact iI (by omega) (by omega)
    · exact ⟨by omega, by show sizD s - startD s ≠ 0; omega⟩
  · refine ⟨?_, ?_, fun q => absurd (show (((moreD s).toNat + 1 : Nat) : Int) ≤ moreD s from q) (by omega), fun _ => hΦ⟩
    · show inI (sizD s - startD s); exact iI (by omega) (by omega)
    · exact ⟨by omega, by show sizD s - startD s ≠ 0; omega⟩
theorem ref07_SizesOf_ok {im : List (List Sec)} {Φ : List Int → Prop} (hl : im.length ≤ 100000) (hΦ : Φ (szs im)) : Z81 im Φ := by
  refine LoopW.upT im.length (fun k => ((k : Int), (im.take k).map fun v => (v.length : Int))) rfl (fun k rec hk hr => ?_) fun rec => ⟨fun _ => by omega, fun _ => by rw [take_all]; exact hΦ⟩
  refine ⟨fun _ => ⟨iX (by omega) (by omega), iL (by rw [len_snoc, List.length_map, lenT (by omega)]; omega) (by omega), iI (by omega) (by omega), hr _ (by rw [map_take_snoc _ hk]; rfl)⟩, fun _ => by omega⟩
theorem ref07_Check_ok {im : List (List Sec)} {Φ : Int → Prop} (hl : im.length ≤ 100000) (hΦ : Φ (imgE im)) : ref07_Check_W im Φ := ref07_SizesOf_ok hl (ref07_Sizes_ok hΦ)
theorem ref07_CopyE_ok {im : List (List Sec)} {Φ : List (List Sec) → Prop} (h : imgE im = 0) (hΦ : Φ im) : ref07_CopyE_W im Φ := by
  have hl := sizesE_len h
  rw [szs_len] at hl
  refine LoopW.upT im.length (fun k => (im.take k, (k : Int))) rfl (fun k rec hk hr => ?_) fun rec => ⟨fun r => absurd r (by omega), fun _ => by rw [take_all]; exact hΦ⟩
  have := szs_small h k hk
  exact ⟨fun _ => ⟨iX (by omega) (by omega), iL (by rw [List.nil_append]; omega) (by omega), iL (by rw [len_snoc, lenT (by omega)]; omega) (by omega), iI (by omega) (by omega), hr _ (by rw [take_ix hk]; rfl)⟩, fun r => absurd (show (k : Int) < (im.length : Int) by omega) r⟩
theorem ref07_Fits_ok {im : List (List Sec)} {w : api_Write} {Φ : Int → Prop} (hs : imgE im = 0) (hd : w.Data.length ≤ 1000000) (hΦ : Φ (fitW (szs im) w)) : ref07_Fits_W im w Φ := by
  have hl := sizesE_len hs
  rw [szs_len] at hl
  exact ref07_Check_ok (by omega) ⟨fun q => absurd hs q, fun _ => ⟨_, ref07_SizesOf_ok (by omega) rfl, _, ref07_FitsSizes_ok hd (fun k hk => by
    have := sizesE_ix (l := szs im) hs hk
    show ix (szs im) (k : Int) ≤ 1000000; omega) rfl, hΦ⟩⟩
theorem ref07_Apply_ok {im : List (List Sec)} {l : List api_Write} {Φ : List (List Sec) × Int × Int → Prop} (hl : l.length ≤ 1000000) (hs : imgE im = 0) (hf : ∀ w ∈ l, fitW (szs im) w = 0) (hΦ : Φ (appL im l, 0, 0)) : ref07_Apply_W im l Φ := by
  have h8 := sizesE_len hs
  rw [szs_len] at h8
  refine ref07_Check_ok (by omega) ⟨fun q => absurd hs q, fun _ => ref07_CopyE_ok hs ?_⟩
  refine LoopW.upT l.length (fun k => (appL im (l.take k), (k : Int))) rfl (fun k rec hk hr => ?_) fun rec => ⟨fun r => absurd r (by omega), fun _ => by rw [take_all]; exact hΦ⟩
  have hw := hf _ (ix_mem (iX (i := (k : Int)) (n := l.length) (by omega) (by omega)))
  have e := szs_takeL hs hf k
  have hs' : imgE (appL im (l.take k)) = 0 := by unfold imgE; rw [e]; exact hs
  obtain ⟨v, s, hfw⟩ := fitW_of (by rw [show sizesE (szs im) = 0 from hs]; simp) hw
  have hv := hfw.hv
  have hle := hfw.le
  rw [← e, szs_len] at hv
  rw [← e, ix_szs hv] at hle
  have ev := hfw.vol
  have es := hfw.start
  have hsm := szs_small hs' v hv
  refine ⟨fun _ => ⟨iX (by omega) (by omega), ref07_Fits_ok hs (by have := fit_data (show sizesE (szs im) = 0 from hs) hw; omega) ?_⟩, fun r => absurd (show (k : Int) < (l.length : Int) by omega) r⟩
  rw [hw]
  refine ⟨fun q => absurd rfl q, fun _ => ?_⟩
  have happ : appL im (l.take (k + 1)) = put (appL im (l.take k)) (v : Int) (paste (ix (appL im (l.take k)) (v : Int)) (s : Int) (ix l (k : Int)).Data) := by rw [appL_take hk]; unfold apply1; rw [ev, es]
  have hrr : ∀ x, x = appL im (l.take (k + 1)) → rec (x, (k : Int) + 1) := fun x hx => hr _ (by rw [hx]; rfl)
  generalize appL im (l.take k) = X at hv hle happ hsm ⊢
  refine LoopW.upT (ix l (k : Int)).Data.length (fun m => (put X (v : Int) (paste (ix X (v : Int)) (s : Int) ((ix l (k : Int)).Data.take m)), (m : Int))) ?_ (fun m rec2 hm hr2 => ?_) fun rec2 => ⟨fun r => absurd r (by omega), fun _ => ⟨iI (by omega) (by omega), hrr _ ?_⟩⟩
  · rw [show (ix l (k : Int)).Data.take 0 = [] from rfl, paste_nil (by omega), put_ix (iX (by omega) (by omega))]; rfl
  · have hpl : (put X (v : Int) (paste (ix X (v : Int)) (s : Int) ((ix l (k : Int)).Data.take m))).length = X.length := put_len _ _ _
    have hix : ix (put X (v : Int) (paste (ix X (v : Int)) (s : Int) ((ix l (k : Int)).Data.take m))) (v : Int) = paste (ix X (v : Int)) (s : Int) ((ix l (k : Int)).Data.take m) := ix_put_self _ (iX (by omega) (by omega))
    have hpr : (paste (ix X (v : Int)) (s : Int) ((ix l (k : Int)).Data.take m)).length = (ix X (v : Int)).length := paste_len' (by omega)
    unfold Z84
    rw [ev, es]
    refine ⟨fun hmlt => ⟨iX (by omega) (by omega), iI (by omega) (by omega), iX (by omega) hmlt, iX (by omega) (by rw [hix, hpr]; omega), iI (by omega) (by omega), hr2 _ ?_⟩, fun r => absurd (show (m : Int) < ((ix l (k : Int)).Data.length : Int) by omega) r⟩
    rw [hix, put_put, paste_step (by omega) (by omega)]; rfl
  · rw [List.take_length, happ]
end Go.Proofs.Ytcobdlnefjdhgaa
