/- What the statements on bitmaps say of themselves: counts of unions, visits, extents that return, orders. No program in sight. -/
import Derived.Test.YtackllehpecfgaaDoorElem
namespace Go.Proofs.YtackllehpecfgaaDoor
open Go.RowKit

/-! ### Counts -/
theorem bit_zip (op : BitVec 64 → BitVec 64 → BitVec 64) (f : Bool → Bool → Bool) (hf : ∀ a b j, j < 64 → (op a b).getLsbD j = f (a.getLsbD j) (b.getLsbD j)) {ws vs : List (BitVec 64)} (hl : ws.length = vs.length) {i : Nat} (hi : i < 64 * ws.length) : bitN (List.zipWith op ws vs) i = f (bitN ws i) (bitN vs i) := by
  have h1 : i / 64 < ws.length := by omega
  have h2 : i / 64 < vs.length := by omega
  unfold bitN
  rw [List.getD_eq_getElem?_getD, zip_get h1 h2, Option.getD_some, hf _ _ _ (Nat.mod_lt _ (by decide))]
theorem bit_or {ws vs : List (BitVec 64)} (hl : ws.length = vs.length) {i : Nat} (hi : i < 64 * ws.length) : bitN (List.zipWith (fun a b => a ||| b) ws vs) i = (bitN ws i || bitN vs i) := bit_zip _ (· || ·) (fun _ _ _ _ => BitVec.getLsbD_or) hl hi
theorem bit_and {ws vs : List (BitVec 64)} (hl : ws.length = vs.length) {i : Nat} (hi : i < 64 * ws.length) : bitN (List.zipWith (fun a b => a &&& b) ws vs) i = (bitN ws i && bitN vs i) := bit_zip _ (· && ·) (fun _ _ _ _ => BitVec.getLsbD_and) hl hi
theorem bit_andNot {ws vs : List (BitVec 64)} (hl : ws.length = vs.length) {i : Nat} (hi : i < 64 * ws.length) : bitN (List.zipWith (fun a b => a &&& ~~~b) ws vs) i = (bitN ws i && !bitN vs i) :=
  bit_zip _ (fun x y => x && !y) (fun a b j hj => by simp [hj]) hl hi

theorem chk_iff {n : Int} {ws : List (BitVec 64)} : chk n ws = 0 ↔ 0 ≤ n ∧ n ≤ 4096 ∧ (ws.length : Int) = (n + 63) / 64 ∧ ∀ i : Nat, i < 64 * ws.length → n ≤ (i : Int) → bitN ws i = false :=
  ⟨fun h => wfB_iff.1 (chk_zero h), fun ⟨h1, h2, h3, h4⟩ => chk_ok h1 h2 h3 h4⟩
theorem chk_zip {op : BitVec 64 → BitVec 64 → BitVec 64} (f : Bool → Bool → Bool) (h0 : f false false = false) (hf : ∀ a b j, j < 64 → (op a b).getLsbD j = f (a.getLsbD j) (b.getLsbD j)) {n : Int} {ws vs : List (BitVec 64)} (h1 : chk n ws = 0) (h2 : chk n vs = 0) : chk n (List.zipWith op ws vs) = 0 := by
  obtain ⟨a1, a2, a3, a4⟩ := chk_iff.1 h1
  obtain ⟨_, _, b3, b4⟩ := chk_iff.1 h2
  have hl : ws.length = vs.length := by omega
  have hz : (List.zipWith op ws vs).length = ws.length := by rw [List.length_zipWith]; omega
  refine chk_iff.2 ⟨a1, a2, by rw [hz]; exact a3, fun i hi hn => ?_⟩
  rw [hz] at hi
  rw [bit_zip op f hf hl hi, a4 i hi hn, b4 i (by omega) hn, h0]
theorem cnt_or_and (ws vs xs ys : List (BitVec 64)) : ∀ k : Nat, (∀ i, i < k → bitN xs i = (bitN ws i || bitN vs i) ∧ bitN ys i = (bitN ws i && bitN vs i)) → cntK xs k + cntK ys k = cntK ws k + cntK vs k
  | 0, _ => rfl
  | k + 1, h => by
    have ih := cnt_or_and ws vs xs ys k fun i hi => h i (by omega)
    obtain ⟨h1, h2⟩ := h k (by omega)
    have e : ∀ zs : List (BitVec 64), cntK zs (k + 1) = cntK zs k + (if bitN zs k = true then 1 else 0) := by
      intro zs
      by_cases hb : bitN zs k = true
      · rw [cntK_yes hb, if_pos hb]
      · rw [cntK_no hb, if_neg hb]; rfl
    rw [e xs, e ys, e ws, e vs, h1, h2]
    cases bitN ws k <;> cases bitN vs k <;> simp <;> omega
theorem cnt_andNot (ws vs xs ys : List (BitVec 64)) : ∀ k : Nat, (∀ i, i < k → bitN xs i = (bitN ws i && !bitN vs i) ∧ bitN ys i = (bitN ws i && bitN vs i)) → cntK xs k + cntK ys k = cntK ws k
  | 0, _ => rfl
  | k + 1, h => by
    have ih := cnt_andNot ws vs xs ys k fun i hi => h i (by omega)
    obtain ⟨h1, h2⟩ := h k (by omega)
    have e : ∀ zs : List (BitVec 64), cntK zs (k + 1) = cntK zs k + (if bitN zs k = true then 1 else 0) := by
      intro zs
      by_cases hb : bitN zs k = true
      · rw [cntK_yes hb, if_pos hb]
      · rw [cntK_no hb, if_neg hb]; rfl
    rw [e xs, e ys, e ws, h1, h2]
    cases bitN ws k <;> cases bitN vs k <;> simp <;> omega
theorem cntR_le (n : Int) (ws : List (BitVec 64)) : 0 ≤ cntR n ws ∧ cntR n ws ≤ 4096 := by
  by_cases h : chk n ws = 0
  · obtain ⟨h1, h2, _⟩ := chk_iff.1 h
    rw [cntR_ok (by omega) rfl]
    have := cntK_le ws n.toNat
    omega
  · rw [cntR_form h]; omega

structure CountsOk (n : Int) (ws : List (BitVec 64)) (m : Int) (vs : List (BitVec 64)) : Prop where
  orE : (bothR (fun a b => a ||| b) n ws m vs).e = 0
  andE : (bothR (fun a b => a &&& b) n ws m vs).e = 0
  notE : (bothR (fun a b => a &&& ~~~b) n ws m vs).e = 0
  backE : (bothR (fun a b => a ||| b) (bothR (fun a b => a &&& ~~~b) n ws m vs).n (bothR (fun a b => a &&& ~~~b) n ws m vs).ws (bothR (fun a b => a &&& b) n ws m vs).n (bothR (fun a b => a &&& b) n ws m vs).ws).e = 0
  backN : (bothR (fun a b => a ||| b) (bothR (fun a b => a &&& ~~~b) n ws m vs).n (bothR (fun a b => a &&& ~~~b) n ws m vs).ws (bothR (fun a b => a &&& b) n ws m vs).n (bothR (fun a b => a &&& b) n ws m vs).ws).n = n
  backW : (bothR (fun a b => a ||| b) (bothR (fun a b => a &&& ~~~b) n ws m vs).n (bothR (fun a b => a &&& ~~~b) n ws m vs).ws (bothR (fun a b => a &&& b) n ws m vs).n (bothR (fun a b => a &&& b) n ws m vs).ws).ws = ws
  sum : cntR (bothR (fun a b => a ||| b) n ws m vs).n (bothR (fun a b => a ||| b) n ws m vs).ws + cntR (bothR (fun a b => a &&& b) n ws m vs).n (bothR (fun a b => a &&& b) n ws m vs).ws = cntR n ws + cntR m vs
  diff : cntR (bothR (fun a b => a &&& ~~~b) n ws m vs).n (bothR (fun a b => a &&& ~~~b) n ws m vs).ws = cntR n ws - cntR (bothR (fun a b => a &&& b) n ws m vs).n (bothR (fun a b => a &&& b) n ws m vs).ws

theorem counts_ok {n m : Int} {ws vs : List (BitVec 64)} (h1 : chk n ws = 0) (h2 : chk m vs = 0) (h3 : n = m) : CountsOk n ws m vs := by
  subst h3
  have hb : ∀ (op : BitVec 64 → BitVec 64 → BitVec 64) (xs ys : List (BitVec 64)), chk n xs = 0 → chk n ys = 0 → bothR op n xs n ys = ⟨n, List.zipWith op xs ys, 0⟩ := fun op xs ys hx hy =>
    bothR_ok (bothE_4 (fun h => h hx) (fun h => h hy) (fun h => h rfl))
  have cOr := chk_zip (op := fun a b => a ||| b) (· || ·) rfl (fun a b j _ => BitVec.getLsbD_or) h1 h2
  have cAnd := chk_zip (op := fun a b => a &&& b) (· && ·) rfl (fun a b j _ => BitVec.getLsbD_and) h1 h2
  have cNot := chk_zip (op := fun a b => a &&& ~~~b) (fun x y => x && !y) rfl (fun a b j hj => by simp [hj]) h1 h2
  obtain ⟨a1, a2, a3, a4⟩ := chk_iff.1 h1
  obtain ⟨_, _, b3, b4⟩ := chk_iff.1 h2
  have hl : ws.length = vs.length := by omega
  have hlz : ∀ op : BitVec 64 → BitVec 64 → BitVec 64, (List.zipWith op ws vs).length = ws.length := fun op => by rw [List.length_zipWith]; omega
  have e1 := hb (fun a b => a ||| b) ws vs h1 h2
  have e2 := hb (fun a b => a &&& b) ws vs h1 h2
  have e3 := hb (fun a b => a &&& ~~~b) ws vs h1 h2
  have e4 := hb (fun a b => a ||| b) _ _ cNot cAnd
  have hw : List.zipWith (fun a b => a ||| b) (List.zipWith (fun a b => a &&& ~~~b) ws vs) (List.zipWith (fun a b => a &&& b) ws vs) = ws := by
    refine words_ext (by rw [List.length_zipWith, hlz, hlz]; omega) fun i hi => ?_
    rw [List.length_zipWith, hlz, hlz, Nat.min_self] at hi
    rw [bit_or (by rw [hlz, hlz]) (by rw [hlz]; exact hi), bit_andNot hl hi, bit_and hl hi]
    cases bitN ws i <;> cases bitN vs i <;> rfl
  refine ⟨by rw [e1], by rw [e2], by rw [e3], ?_, ?_, ?_, ?_, ?_⟩
  · rw [e3, e2]; show (bothR _ n _ n _).e = 0; rw [e4]
  · rw [e3, e2]; show (bothR _ n _ n _).n = n; rw [e4]
  · rw [e3, e2]; show (bothR _ n _ n _).ws = ws; rw [e4]; exact hw
  · rw [e1, e2]
    show cntR n _ + cntR n _ = _
    rw [cntR_ok (fun h => h cOr) rfl, cntR_ok (fun h => h cAnd) rfl, cntR_ok (fun h => h h1) rfl, cntR_ok (fun h => h h2) rfl]
    have := cnt_or_and ws vs _ _ n.toNat fun i hi => ⟨bit_or hl (show i < 64 * ws.length by omega), bit_and hl (show i < 64 * ws.length by omega)⟩
    omega
  · rw [e3, e2]
    show cntR n _ = _ - cntR n _
    rw [cntR_ok (fun h => h cNot) rfl, cntR_ok (fun h => h cAnd) rfl, cntR_ok (fun h => h h1) rfl]
    have := cnt_andNot ws vs _ _ n.toNat fun i hi => ⟨bit_andNot hl (show i < 64 * ws.length by omega), bit_and hl (show i < 64 * ws.length by omega)⟩
    omega

/-! ### Visits -/
theorem next_range {n : Int} {ws : List (BitVec 64)} {a : Int} : -1 ≤ nextR n ws a ∧ nextR n ws a ≤ 4096 := by
  rw [elL_next]
  cases h : (elL n ws a).head? with
  | none => exact ⟨by decide, by decide⟩
  | some e =>
    have hm : e ∈ elL n ws a := List.mem_of_mem_head? (by rw [h]; rfl)
    have hc : ¬ chk n ws ≠ 0 := fun hc => by rw [elL_form hc] at hm; simp at hm
    obtain ⟨h1, h2, _⟩ := chk_iff.1 (Classical.not_not.1 hc)
    rw [elL_ok hc] at hm
    have := List.mem_range.1 (List.mem_filter.1 hm).1
    show -1 ≤ (e : Int) ∧ (e : Int) ≤ 4096
    omega
theorem next_neg {n : Int} {ws : List (BitVec 64)} {a : Int} (h : a < 0) : nextR n ws a = nextR n ws 0 := by
  rw [elL_next, elL_next, elL_neg h]
theorem next_bit {n : Int} {ws : List (BitVec 64)} {k : Nat} (h : chk n ws = 0) (hk : (k : Int) < n) : (getB n ws (k : Int) = true ↔ (k : Int) = nextR n ws (k : Int)) := by
  constructor
  · intro hg
    have hb := (getB_iff.1 hg).2.2.2
    exact (nextR_hit (fun hc => hc h) (Int.le_refl _) hk (by simpa using hb) fun i h1 h2 => by omega).symm
  · intro he
    cases hb : bitN ws k with
    | true => exact getB_iff.2 ⟨h, by omega, hk, by simpa using hb⟩
    | false =>
      exfalso
      have : nextR n ws (k : Int) ≠ (k : Int) := by
        unfold nextR
        rw [if_neg (fun hc => hc h)]
        cases hf : (List.range n.toNat).find? (fun i : Nat => decide ((k : Int) ≤ (i : Int)) && bitN ws i) with
        | none => simp only []; omega
        | some i =>
          simp only []
          have h1 := List.find?_some hf
          simp only [Bool.and_eq_true] at h1
          intro e
          have : i = k := by omega
          subst this
          rw [hb] at h1
          exact absurd h1.2 (by decide)
      exact this he.symm
theorem next_skip {n : Int} {ws : List (BitVec 64)} {k : Nat} (h : bitN ws k = false) : nextR n ws (k : Int) = nextR n ws ((k : Int) + 1) := by
  by_cases hc : chk n ws ≠ 0
  · rw [nextR_form hc, nextR_form hc]
  · unfold nextR
    rw [if_neg hc, if_neg hc]
    have : (fun i : Nat => decide ((k : Int) ≤ (i : Int)) && bitN ws i) = fun i : Nat => decide ((k : Int) + 1 ≤ (i : Int)) && bitN ws i := by
      funext i
      by_cases e : i = k
      · subst e; rw [h]; simp
      · congr 1
        exact decide_eq_decide.2 ⟨fun _ => by omega, fun _ => by omega⟩
    rw [this]
theorem next_end {n : Int} {ws : List (BitVec 64)} {k : Nat} (hk : n ≤ (k : Int)) : nextR n ws (k : Int) = -1 := by
  by_cases hc : chk n ws ≠ 0
  · exact nextR_form hc
  · exact nextR_none hc fun i h1 h2 => by omega

theorem next_bitN {n : Int} {ws : List (BitVec 64)} {k : Nat} (h : chk n ws = 0) (hk : (k : Int) < n) : bitN ws k = true ↔ (k : Int) = nextR n ws (k : Int) := by
  rw [← next_bit h hk, getB_iff]
  simp only [Int.toNat_natCast]
  exact ⟨fun hb => ⟨h, by omega, hk, hb⟩, fun hb => hb.2.2.2⟩
theorem next_take {n : Int} {ws : List (BitVec 64)} {k : Nat} (h : chk n ws = 0) (hk : (k : Int) < n) (he : (k : Int) = nextR n ws (k : Int)) : (cntK ws k : Int) + 1 = (cntK ws (k + 1) : Int) := by
  rw [cntK_yes ((next_bitN h hk).2 he)]; rfl
theorem next_keep {n : Int} {ws : List (BitVec 64)} {k : Nat} (h : chk n ws = 0) (hk : (k : Int) < n) (he : ¬ (k : Int) = nextR n ws (k : Int)) : nextR n ws (k : Int) = nextR n ws ((k + 1 : Nat) : Int) ∧ (cntK ws k : Int) = (cntK ws (k + 1) : Int) := by
  have hb : ¬ bitN ws k = true := fun hb => he ((next_bitN h hk).1 hb)
  exact ⟨next_skip (by simpa using hb), by rw [cntK_no hb]⟩

/-! ### Extents: what they cover -/
def cov (es : List (Int × Int)) (i : Int) : Prop := ∃ e ∈ es, e.1 ≤ i ∧ i < e.1 + e.2
structure ExOk (es : List (Int × Int)) (k : Int) : Prop where
  each : ∀ e ∈ es, 0 ≤ e.1 ∧ 1 ≤ e.2 ∧ e.1 + e.2 ≤ k
  apart : es.Pairwise fun a b => a.1 + a.2 < b.1

theorem snoc_cases {α : Type} (l : List α) : l = [] ∨ ∃ p x, l = p ++ [x] := by
  rcases List.eq_nil_or_concat l with h | ⟨p, x, h⟩
  · exact .inl h
  · exact .inr ⟨p, x, by simpa using h⟩
theorem addX_snoc (p : List (Int × Int)) (l : Int × Int) (i : Int) : addX (p ++ [l]) i = if l.1 + l.2 = i then p ++ [(l.1, l.2 + 1)] else p ++ [l] ++ [(i, 1)] := by
  have hg : (p ++ [l]).getD ((p ++ [l]).length - 1) (0, 0) = l := by simp
  by_cases h : l.1 + l.2 = i
  · rw [if_pos h, addX_join ⟨by simp, by rw [hg]; exact h⟩]
    unfold bumpE
    rw [hg]
    simp
  · rw [if_neg h, addX_new (fun hj => h (by have := hj.2; rw [hg] at this; exact this))]
theorem addX_nil (i : Int) : addX [] i = [(i, 1)] := (addX_new (fun hj => by have := hj.1; simp at this)).trans rfl
theorem exOk_add {es : List (Int × Int)} {i : Int} (h : ExOk es i) (h0 : 0 ≤ i) : ExOk (addX es i) (i + 1) ∧ ∀ j, cov (addX es i) j ↔ cov es j ∨ j = i := by
  rcases snoc_cases es with rfl | ⟨p, l, rfl⟩
  · rw [addX_nil]
    refine ⟨⟨fun e he => ?_, List.pairwise_singleton _ _⟩, fun j => ?_⟩
    · obtain rfl := List.mem_singleton.1 he
      exact ⟨h0, Int.le_refl _, Int.le_refl _⟩
    · unfold cov; simp; omega
  · rw [addX_snoc]
    obtain ⟨h1, h2⟩ := h
    have hl := h1 l (by simp)
    rw [List.pairwise_append] at h2
    obtain ⟨h3, _, h4⟩ := h2
    by_cases hj : l.1 + l.2 = i
    · rw [if_pos hj]
      refine ⟨⟨fun e he => ?_, ?_⟩, fun j => ?_⟩
      · rcases List.mem_append.1 he with he | he
        · have := h1 e (by simp [he]); omega
        · obtain rfl := List.mem_singleton.1 he
          exact ⟨hl.1, by show 1 ≤ l.2 + 1; omega, by show l.1 + (l.2 + 1) ≤ i + 1; omega⟩
      · exact List.pairwise_append.2 ⟨h3, List.pairwise_singleton _ _, fun a ha b hb => by
          obtain rfl := List.mem_singleton.1 hb
          exact h4 a ha l (by simp)⟩
      · constructor
        · rintro ⟨e, he, h5, h6⟩
          rcases List.mem_append.1 he with he | he
          · exact .inl ⟨e, by simp [he], h5, h6⟩
          · obtain rfl := List.mem_singleton.1 he
            have h6' : j < l.1 + (l.2 + 1) := h6
            by_cases hji : j = i
            · exact .inr hji
            · exact .inl ⟨l, by simp, h5, by omega⟩
        · rintro (⟨e, he, h5, h6⟩ | rfl)
          · rcases List.mem_append.1 he with he | he
            · exact ⟨e, by simp [he], h5, h6⟩
            · obtain rfl := List.mem_singleton.1 he
              exact ⟨(e.1, e.2 + 1), by simp, h5, by show j < e.1 + (e.2 + 1); omega⟩
          · exact ⟨(l.1, l.2 + 1), by simp, by show l.1 ≤ j; omega, by show j < l.1 + (l.2 + 1); omega⟩
    · rw [if_neg hj]
      refine ⟨⟨fun e he => ?_, ?_⟩, fun j => ?_⟩
      · rcases List.mem_append.1 he with he | he
        · have := h1 e he; omega
        · obtain rfl := List.mem_singleton.1 he
          exact ⟨h0, Int.le_refl _, Int.le_refl _⟩
      · refine List.pairwise_append.2 ⟨List.pairwise_append.2 ⟨h3, List.pairwise_singleton _ _, h4⟩, List.pairwise_singleton _ _, fun a ha b hb => ?_⟩
        obtain rfl := List.mem_singleton.1 hb
        show a.1 + a.2 < i
        rcases List.mem_append.1 ha with ha | ha
        · have := h4 a ha l (by simp); omega
        · obtain rfl := List.mem_singleton.1 ha; omega
      · constructor
        · rintro ⟨e, he, h5, h6⟩
          rcases List.mem_append.1 he with he | he
          · exact .inl ⟨e, he, h5, h6⟩
          · obtain rfl := List.mem_singleton.1 he
            have h5' : i ≤ j := h5
            have h6' : j < i + 1 := h6
            exact .inr (by omega)
        · rintro (⟨e, he, h5, h6⟩ | rfl)
          · exact ⟨e, by simp only [List.mem_append]; exact .inl (List.mem_append.1 he), h5, h6⟩
          · exact ⟨(j, 1), by simp, Int.le_refl _, by show j < j + 1; omega⟩
theorem exOk_mono {es : List (Int × Int)} {a b : Int} (h : ExOk es a) (hab : a ≤ b) : ExOk es b := ⟨fun e he => by have := h.each e he; omega, h.apart⟩
theorem extsK_ok (ws : List (BitVec 64)) : ∀ k : Nat, ExOk (extsK ws k) (k : Int) ∧ ∀ j : Nat, cov (extsK ws k) (j : Int) ↔ j < k ∧ bitN ws j = true
  | 0 => ⟨⟨fun e he => by simp [extsK, extsOf] at he, by simp [extsK, extsOf]⟩, fun j => by simp [cov, extsK, extsOf]⟩
  | k + 1 => by
    obtain ⟨h1, h2⟩ := extsK_ok ws k
    by_cases hb : bitN ws k = true
    · obtain ⟨h3, h4⟩ := exOk_add h1 (by omega)
      rw [extsK_yes hb]
      refine ⟨by simpa using h3, fun j => ?_⟩
      rw [h4, h2]
      constructor
      · rintro (h | h)
        · exact ⟨by omega, h.2⟩
        · have : j = k := by omega
          subst this; exact ⟨by omega, hb⟩
      · rintro ⟨h5, h6⟩
        by_cases hjk : j = k
        · exact .inr (by omega)
        · exact .inl ⟨by omega, h6⟩
    · rw [extsK_no hb]
      refine ⟨exOk_mono h1 (by omega), fun j => ?_⟩
      rw [h2]
      constructor
      · rintro ⟨h5, h6⟩; exact ⟨by omega, h6⟩
      · rintro ⟨h5, h6⟩
        by_cases hjk : j = k
        · subst hjk; exact absurd h6 hb
        · exact ⟨by omega, h6⟩

/-! ### Bitmaps of lists of extents -/
def setAll (ws : List (BitVec 64)) (es : List (Int × Int)) : List (BitVec 64) := es.foldl (fun ws e => chW true ws e.1 (e.1 + e.2)) ws
theorem setAll_length : ∀ (es : List (Int × Int)) (ws : List (BitVec 64)), (setAll ws es).length = ws.length
  | [], _ => rfl
  | _ :: es, _ => (setAll_length es _).trans (chW_length _ _ _ _)
theorem setAll_bit : ∀ (es : List (Int × Int)) (ws : List (BitVec 64)) (i : Nat), i < 64 * ws.length → (bitN (setAll ws es) i = true ↔ cov es (i : Int) ∨ bitN ws i = true)
  | [], ws, i, _ => by simp [setAll, cov]
  | e :: es, ws, i, hi => by
    show bitN (setAll (chW true ws e.1 (e.1 + e.2)) es) i = true ↔ _
    rw [setAll_bit es _ i (by rw [chW_length]; exact hi), chW_bit true ws _ _ i hi]
    unfold cov
    simp only [List.mem_cons, exists_eq_or_imp]
    by_cases h : e.1 ≤ (i : Int) ∧ (i : Int) < e.1 + e.2
    · rw [if_pos h]; simp [h]
    · rw [if_neg h]
      constructor
      · rintro (h1 | h1)
        · exact .inl (.inr h1)
        · exact .inr h1
      · rintro ((h1 | h1) | h1)
        · exact absurd h1 h
        · exact .inl h1
        · exact .inr h1
theorem chk_set1 {n : Int} {ws : List (BitVec 64)} {s c : Int} (h : chk n ws = 0) (hf : fitsB s c n = true) : chk n (chW true ws s (s + c)) = 0 := by
  obtain ⟨a1, a2, a3, a4⟩ := chk_iff.1 h
  have hff := fitsB_iff.1 hf
  refine chk_iff.2 ⟨a1, a2, by rw [chW_length]; exact a3, fun i hi hn => ?_⟩
  rw [chW_length] at hi
  rw [chW_bit true ws _ _ i hi, if_neg (by omega)]
  exact a4 i hi hn
theorem chk_set0 {n : Int} {ws : List (BitVec 64)} {s c : Int} (h : chk n ws = 0) : chk n (chW false ws s (s + c)) = 0 := by
  obtain ⟨a1, a2, a3, a4⟩ := chk_iff.1 h
  refine chk_iff.2 ⟨a1, a2, by rw [chW_length]; exact a3, fun i hi hn => ?_⟩
  rw [chW_length] at hi
  rw [chW_bit false ws _ _ i hi]
  split
  · rfl
  · exact a4 i hi hn
theorem fromR_all {n : Int} : ∀ (es : List (Int × Int)) (ws : List (BitVec 64)), chk n ws = 0 → fromR ⟨n, ws, 0⟩ es = if (es.all fun e => fitsB e.1 e.2 n) = true then ⟨n, setAll ws es, 0⟩ else ⟨0, [], 2⟩
  | [], ws, _ => by simp [fromR, setAll]
  | e :: es, ws, h => by
    show fromR ⟨n, ws, 0⟩ (e :: es) = _
    have h1 : fromR ⟨n, ws, 0⟩ (e :: es) = fromR (chR true n ws e.1 e.2) es := by
      have := fromR_drop (r := ⟨n, ws, 0⟩) (es := e :: es) (k := 0) rfl (by simp)
      simpa using this
    rw [h1]
    by_cases hf : fitsB e.1 e.2 n = true
    · rw [chR_ok (fun hc => hc h) hf, fromR_all es _ (chk_set1 h hf)]
      simp only [List.all_cons, hf, Bool.true_and]
      rfl
    · rw [chR_range (fun hc => hc h) hf, fromR_err (by decide)]
      rw [if_neg]
      simp only [List.all_cons, Bool.and_eq_true]
      exact fun h2 => hf h2.1
theorem chk_new {n : Int} (h1 : 0 ≤ n) (h2 : n ≤ 4096) : chk n (List.replicate ((n + 63) / 64).toNat 0#64) = 0 := by
  refine chk_iff.2 ⟨h1, h2, by rw [List.length_replicate]; omega, fun i hi _ => ?_⟩
  rw [List.length_replicate] at hi
  unfold bitN
  rw [List.getD_eq_getElem?_getD, List.getElem?_replicate]
  split <;> simp
theorem bit_new {m i : Nat} : bitN (List.replicate m 0#64) i = false := by
  unfold bitN
  rw [List.getD_eq_getElem?_getD, List.getElem?_replicate]
  split <;> simp
theorem fromR_new {n : Int} (h1 : 0 ≤ n) (h2 : n ≤ 4096) (es : List (Int × Int)) : fromR (newR n) es = if (es.all fun e => fitsB e.1 e.2 n) = true then ⟨n, setAll (List.replicate ((n + 63) / 64).toNat 0#64) es, 0⟩ else ⟨0, [], 2⟩ := by
  rw [newR_ok h1 h2, fromR_all es _ (chk_new h1 h2)]
theorem chk_setAll {n : Int} : ∀ (es : List (Int × Int)) (ws : List (BitVec 64)), chk n ws = 0 → (es.all fun e => fitsB e.1 e.2 n) = true → chk n (setAll ws es) = 0
  | [], _, h, _ => h
  | e :: es, ws, h, hf => by
    simp only [List.all_cons, Bool.and_eq_true] at hf
    exact chk_setAll es _ (chk_set1 h hf.1) hf.2

/-- The extents of a bitmap give the bitmap back. -/
theorem exts_back {n : Int} {ws : List (BitVec 64)} (h : chk n ws = 0) : fromR (newR n) (extR n ws) = ⟨n, ws, 0⟩ := by
  obtain ⟨a1, a2, a3, a4⟩ := chk_iff.1 h
  rw [extR_ok (fun hc => hc h) rfl, fromR_new a1 a2]
  obtain ⟨⟨h1, h2⟩, h3⟩ := extsK_ok ws n.toNat
  have hall : ((extsK ws n.toNat).all fun e => fitsB e.1 e.2 n) = true := by
    rw [List.all_eq_true]
    intro e he
    have := h1 e he
    exact fitsB_iff.2 ⟨by omega, by omega, by omega, by omega⟩
  rw [if_pos hall]
  have hl : (setAll (List.replicate ((n + 63) / 64).toNat 0#64) (extsK ws n.toNat)).length = ws.length := by
    rw [setAll_length, List.length_replicate]; omega
  have : setAll (List.replicate ((n + 63) / 64).toNat 0#64) (extsK ws n.toNat) = ws := by
    refine words_ext hl fun i hi => ?_
    rw [hl] at hi
    have hb := setAll_bit (extsK ws n.toNat) (List.replicate ((n + 63) / 64).toNat 0#64) i (by rw [List.length_replicate]; omega)
    rw [h3, bit_new] at hb
    rw [Bool.eq_iff_iff, hb]
    constructor
    · rintro (h5 | h5)
      · exact h5.2
      · cases h5
    · intro h5
      refine .inl ⟨?_, h5⟩
      by_cases hn : n ≤ (i : Int)
      · rw [a4 i hi hn] at h5; cases h5
      · omega
  rw [this]
/-- What the walk over the extents asks: each begins behind the one before it. -/
def atE (es : List (Int × Int)) (k : Nat) : Int := if k = 0 then -1 else (es.getD (k - 1) (0, 0)).1 + (es.getD (k - 1) (0, 0)).2
theorem exts_rise {n : Int} {ws : List (BitVec 64)} {k : Nat} (h : chk n ws = 0) (hk : k < (extR n ws).length) : atE (extR n ws) k < ((extR n ws).getD k (0, 0)).1 ∧ 1 ≤ ((extR n ws).getD k (0, 0)).2 ∧ ((extR n ws).getD k (0, 0)).1 + ((extR n ws).getD k (0, 0)).2 ≤ 4096 ∧ 0 ≤ ((extR n ws).getD k (0, 0)).1 ∧ (extR n ws).length ≤ 4096 := by
  obtain ⟨a1, a2, _, _⟩ := chk_iff.1 h
  rw [extR_ok (fun hc => hc h) rfl] at hk ⊢
  have hlen := (extsK_facts ws n.toNat).2
  obtain ⟨⟨h1, h2⟩, _⟩ := extsK_ok ws n.toNat
  generalize extsK ws n.toNat = es at hk h1 h2 hlen ⊢
  have hg : ∀ j, j < es.length → es.getD j (0, 0) ∈ es := fun j hj => by rw [List.getD_eq_getElem?_getD, List.getElem?_eq_getElem hj]; exact List.getElem_mem hj
  have h3 := h1 _ (hg k hk)
  refine ⟨?_, h3.2.1, by omega, h3.1, by omega⟩
  unfold atE
  split
  · omega
  · rename_i h0
    have h4 := List.pairwise_iff_getElem.1 h2 (k - 1) k (by omega) hk (by omega)
    rw [List.getD_eq_getElem?_getD, List.getD_eq_getElem?_getD, List.getElem?_eq_getElem hk, List.getElem?_eq_getElem (show k - 1 < es.length by omega)]
    exact h4

/-! ### Orders -/
def backK (es : List (Int × Int)) (k : Nat) : List (Int × Int) := es.reverse.take k
theorem backK_length {es : List (Int × Int)} {k : Nat} (h : k ≤ es.length) : (backK es k).length = k := by unfold backK; rw [List.length_take, List.length_reverse]; omega
theorem backK_zero (es : List (Int × Int)) : backK es 0 = [] := rfl
theorem backK_all {es : List (Int × Int)} {k : Nat} (h : es.length ≤ k) : backK es k = es.reverse := List.take_of_length_le (by rw [List.length_reverse]; exact h)
theorem backK_step {es : List (Int × Int)} {k j : Nat} (h : k < es.length) (hj : j + 1 + k = es.length) : backK es (k + 1) = backK es k ++ [((es.getD j (0, 0)).1, (es.getD j (0, 0)).2)] := by
  unfold backK
  rw [List.take_add_one, List.getElem?_reverse h, List.getD_eq_getElem?_getD]
  have e : es.length - 1 - k = j := by omega
  rw [e, List.getElem?_eq_getElem (show j < es.length by omega)]
  rfl
theorem cov_rev (es : List (Int × Int)) (i : Int) : cov es.reverse i ↔ cov es i := by unfold cov; simp
theorem from_rev {n : Int} (h1 : 0 ≤ n) (h2 : n ≤ 4096) (es : List (Int × Int)) : fromR (newR n) es.reverse = fromR (newR n) es := by
  rw [fromR_new h1 h2, fromR_new h1 h2, List.all_reverse]
  have : setAll (List.replicate ((n + 63) / 64).toNat 0#64) es.reverse = setAll (List.replicate ((n + 63) / 64).toNat 0#64) es := by
    refine words_ext (by rw [setAll_length, setAll_length]) fun i hi => ?_
    rw [setAll_length] at hi
    rw [Bool.eq_iff_iff, setAll_bit _ _ _ hi, setAll_bit _ _ _ hi, cov_rev]
  rw [this]
/-- What is known where the extents could all be added. -/
structure OrdOk (n : Int) (es : List (Int × Int)) (r : BR) : Prop where
  rn : r.n = n
  chk0 : chk r.n r.ws = 0
  fit : ∀ e ∈ es, fitsB e.1 e.2 n = true
  bit : ∀ i : Nat, (i : Int) < n → (bitN r.ws i = true ↔ cov es (i : Int))
theorem ord_ok {n : Int} (h1 : 0 ≤ n) (h2 : n ≤ 4096) {es : List (Int × Int)} (h : (fromR (newR n) es).e = 0) : OrdOk n es (fromR (newR n) es) := by
  rw [fromR_new h1 h2] at h ⊢
  by_cases hf : (es.all fun e => fitsB e.1 e.2 n) = true
  · rw [if_pos hf]
    refine ⟨rfl, chk_setAll es _ (chk_new h1 h2) hf, fun e he => List.all_eq_true.1 hf e he, fun i hi => ?_⟩
    show bitN (setAll _ es) i = true ↔ _
    rw [setAll_bit _ _ _ (by rw [List.length_replicate]; omega), bit_new]
    simp
  · rw [if_neg hf] at h; cases h
/-- Behind the removal of the first extent. -/
theorem ord_get {n : Int} {es : List (Int × Int)} {r : BR} (h : OrdOk n es r) (hl : 0 < es.length) :
    (chR false r.n r.ws (es.getD 0 (0, 0)).1 (es.getD 0 (0, 0)).2).e = 0 ∧ fitsB (es.getD 0 (0, 0)).1 (es.getD 0 (0, 0)).2 n = true ∧
    ∀ k : Nat, (k : Int) < n → (getB (chR false r.n r.ws (es.getD 0 (0, 0)).1 (es.getD 0 (0, 0)).2).n (chR false r.n r.ws (es.getD 0 (0, 0)).1 (es.getD 0 (0, 0)).2).ws (k : Int) = true ↔
      getB r.n r.ws (k : Int) = true ∧ ¬ ((es.getD 0 (0, 0)).1 ≤ (k : Int) ∧ (k : Int) < (es.getD 0 (0, 0)).1 + (es.getD 0 (0, 0)).2)) ∧
      ((es.getD 0 (0, 0)).1 ≤ (k : Int) ∧ (k : Int) < (es.getD 0 (0, 0)).1 + (es.getD 0 (0, 0)).2 → getB r.n r.ws (k : Int) = true) := by
  have hm : es.getD 0 (0, 0) ∈ es := by rw [List.getD_eq_getElem?_getD, List.getElem?_eq_getElem hl]; exact List.getElem_mem hl
  have hf := h.fit _ hm
  generalize es.getD 0 (0, 0) = e0 at hm hf ⊢
  have hr := chR_ok (set := false) (fun hc => hc h.chk0) (by rw [h.rn]; exact hf : fitsB e0.1 e0.2 r.n = true)
  rw [hr]
  obtain ⟨a1, a2, a3, a4⟩ := chk_iff.1 h.chk0
  refine ⟨rfl, hf, fun k hk => ⟨?_, ?_⟩⟩
  · show getB r.n (chW false r.ws e0.1 (e0.1 + e0.2)) (k : Int) = true ↔ _
    rw [getB_iff, getB_iff]
    have hrn := h.rn
    have hb := chW_bit false r.ws e0.1 (e0.1 + e0.2) k (by omega)
    have hkn : ((k : Int)).toNat = k := by simp
    rw [hkn, hb]
    constructor
    · rintro ⟨_, h5, h6, h7⟩
      split at h7
      · cases h7
      · rename_i hn
        exact ⟨⟨h.chk0, h5, h6, h7⟩, hn⟩
    · rintro ⟨⟨_, h5, h6, h7⟩, h8⟩
      exact ⟨chk_set0 h.chk0, h5, h6, by rw [if_neg h8]; exact h7⟩
  · intro hin
    refine getB_iff.2 ⟨h.chk0, by omega, by rw [h.rn]; exact hk, ?_⟩
    show bitN r.ws ((k : Int)).toNat = true
    have hkn : ((k : Int)).toNat = k := by simp
    rw [hkn]
    exact (h.bit k hk).2 ⟨e0, hm, hin⟩
end Go.Proofs.YtackllehpecfgaaDoor
