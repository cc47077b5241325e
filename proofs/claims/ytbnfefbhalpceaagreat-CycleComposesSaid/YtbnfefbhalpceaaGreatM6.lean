/- Proved: the tied card of the statement CycleComposes: for every argument that can be read the law returns true and leaves its arguments as they were. Conditions: the row's own alone. -/
import Derived.Lib.TrailingZeros
import Derived.Test.YtbnfefbhalpceaaGreatM5
namespace Go.Proofs.YtbnfefbhalpceaaGreat
open Go.RowKit
def wrM (m : List (coalesce_place × Sec)) (v s : Int) : List Sec → List (coalesce_place × Sec)
  | [] => m
  | d :: r => wrM (mput m ⟨v, s⟩ d) v (s + 1) r
theorem wrM_snoc {v : Int} {d : Sec} : ∀ (l : List Sec) (m : List (coalesce_place × Sec)) (s : Int), wrM m v s (l ++ [d]) = mput (wrM m v s l) ⟨v, s + (l.length : Int)⟩ d
  | [], m, s => by
    show mput m ⟨v, s⟩ d = mput m ⟨v, s + 0⟩ d
    rw [Int.add_zero]
  | x :: l, m, s => by
    rw [List.cons_append, wrM, wrM, wrM_snoc l, show s + 1 + (l.length : Int) = s + ((x :: l).length : Int) by rw [List.length_cons]; omega]
def effM (l : List api_Write) : List (coalesce_place × Sec) := l.foldl (fun m w => wrM m w.Volume w.Start w.Data) []
theorem effM_snoc (l : List api_Write) (w : api_Write) : effM (l ++ [w]) = wrM (effM l) w.Volume w.Start w.Data := by simp [effM]
theorem mput_len {κ ν : Type} [DecidableEq κ] (k : κ) (v : ν) : ∀ m : List (κ × ν), (mput m k v).length ≤ m.length + 1
  | [] => by simp [mput]
  | p :: r => by
    unfold mput
    split
    · simp
    · have := mput_len k v r
      simp only [List.length_cons]; omega
theorem wrM_len {v : Int} : ∀ (l : List Sec) (m : List (coalesce_place × Sec)) (s : Int), (wrM m v s l).length ≤ m.length + l.length
  | [], m, s => Nat.le_refl _
  | d :: r, m, s => by
    have h1 := wrM_len (v := v) r (mput m ⟨v, s⟩ d) (s + 1)
    have h2 := mput_len (⟨v, s⟩ : coalesce_place) d m
    rw [wrM, List.length_cons]; omega
theorem effM_len {c : Nat} : ∀ (l : List api_Write) (m : List (coalesce_place × Sec)), (∀ w ∈ l, w.Data.length ≤ c) → (l.foldl (fun m w => wrM m w.Volume w.Start w.Data) m).length ≤ m.length + l.length * c
  | [], m, _ => by simp
  | w :: l, m, h => by
    have h1 := effM_len l (wrM m w.Volume w.Start w.Data) fun x hx => h x (List.mem_cons_of_mem _ hx)
    have h2 := wrM_len (v := w.Volume) w.Data m w.Start
    have h3 := h w (List.mem_cons_self ..)
    rw [List.foldl_cons, List.length_cons, Nat.succ_mul]; omega
theorem mput_all {κ ν : Type} [DecidableEq κ] {p : κ → Prop} {k : κ} {v : ν} (hk : p k) : ∀ {m : List (κ × ν)}, (∀ q ∈ m, p q.1) → ∀ q ∈ mput m k v, p q.1
  | [], _, q, hq => by
    obtain rfl : q = (k, v) := by simpa [mput] using hq
    exact hk
  | a :: r, h, q, hq => by
    unfold mput at hq
    split at hq
    · rcases List.mem_cons.1 hq with rfl | hq
      · exact h a (List.mem_cons_self ..)
      · exact h q (List.mem_cons_of_mem _ hq)
    · rcases List.mem_cons.1 hq with rfl | hq
      · exact h _ (List.mem_cons_self ..)
      · exact mput_all hk (fun q hq => h q (List.mem_cons_of_mem _ hq)) q hq
theorem wrM_all {p : coalesce_place → Prop} {v : Int} : ∀ (l : List Sec) (m : List (coalesce_place × Sec)) (s : Int), (∀ j : Nat, j < l.length → p ⟨v, s + (j : Int)⟩) → (∀ q ∈ m, p q.1) → ∀ q ∈ wrM m v s l, p q.1
  | [], m, s, _, h => h
  | d :: r, m, s, hp, h => by
    refine wrM_all r _ (s + 1) (fun j hj => ?_) (mput_all ?_ h)
    · have := hp (j + 1) (by rw [List.length_cons]; omega)
      rwa [show s + ((j + 1 : Nat) : Int) = s + 1 + (j : Int) by omega] at this
    · have := hp 0 (by rw [List.length_cons]; omega)
      rwa [show s + ((0 : Nat) : Int) = s by omega] at this
def placedR (w : api_Write) : Int := if w.Volume < 0 ∨ 8 ≤ w.Volume then 7 else if w.Data.length = 0 then 1 else if w.Start < 0 ∨ 4096 - (w.Data.length : Int) < w.Start then 2 else 0
theorem placed0 {w : api_Write} (h : placedR w = 0) : 0 ≤ w.Volume ∧ w.Volume < 8 ∧ 0 < w.Data.length ∧ 0 ≤ w.Start ∧ w.Start + (w.Data.length : Int) ≤ 4096 := by
  unfold placedR at h
  split at h
  · omega
  · split at h
    · omega
    · split at h
      · omega
      · omega
theorem placed_W {w : api_Write} (hl : w.Data.length ≤ 1000000) {Φ : Int → Prop} (h : Φ (placedR w)) : Z17 w Φ := by
  unfold placedR at h
  have J : ∀ b : Bool, (b = true ↔ w.Volume < 0 ∨ 8 ≤ w.Volume) → Z16 w Φ b := fun b hb => by
    refine ⟨fun e => by rw [if_pos (hb.1 e)] at h; exact h, fun e => ?_⟩
    rw [if_neg fun q => e (hb.2 q)] at h
    refine ⟨fun q => by rw [if_pos (by omega)] at h; exact h, fun q => ?_⟩
    rw [if_neg (by omega)] at h
    refine ⟨fun r => by rw [if_pos (.inl r)] at h; exact h, fun r => ⟨iI (by omega) (by omega), fun s => by rw [if_pos (.inr s)] at h; exact h, fun s => by rw [if_neg (by omega)] at h; exact h⟩⟩
  exact ⟨fun q => J true ⟨fun _ => .inl q, fun _ => rfl⟩, fun q => J _ (by simp; omega)⟩
def PlL (l : List api_Write) : Prop := ∀ w ∈ l, placedR w = 0
theorem effM_place {l : List api_Write} (h : PlL l) : ∀ q ∈ effM l, 0 ≤ q.1.volume ∧ q.1.volume < 8 ∧ 0 ≤ q.1.sector ∧ q.1.sector < 4096 := by
  have key : ∀ (l : List api_Write) (m : List (coalesce_place × Sec)), PlL l → (∀ q ∈ m, 0 ≤ q.1.volume ∧ q.1.volume < 8 ∧ 0 ≤ q.1.sector ∧ q.1.sector < 4096) → ∀ q ∈ l.foldl (fun m w => wrM m w.Volume w.Start w.Data) m, 0 ≤ q.1.volume ∧ q.1.volume < 8 ∧ 0 ≤ q.1.sector ∧ q.1.sector < 4096 := by
    intro l
    induction l with
    | nil => intro m _ h; exact h
    | cons w l ih =>
      intro m h hm
      have := placed0 (h w (List.mem_cons_self ..))
      exact ih _ (fun x hx => h x (List.mem_cons_of_mem _ hx)) (wrM_all (p := fun c => 0 ≤ c.volume ∧ c.volume < 8 ∧ 0 ≤ c.sector ∧ c.sector < 4096) _ _ _ (fun j hj => ⟨by show 0 ≤ w.Volume; omega, by show w.Volume < 8; omega, by show 0 ≤ w.Start + (j : Int); omega, by show w.Start + (j : Int) < 4096; omega⟩) hm)
  exact key l [] h fun q hq => by cases hq
def clsW (xs : List api_Write) (ys : List Sec) : List api_Write := put xs ((xs.length : Int) - 1) ⟨(ix xs ((xs.length : Int) - 1)).Volume, (ix xs ((xs.length : Int) - 1)).Start, ys⟩
def grpS (m : List (coalesce_place × Sec)) (st : coalesce_place × List api_Write × List Sec) (p : coalesce_place) : coalesce_place × List api_Write × List Sec :=
  if p ≠ st.1 then (⟨p.volume, p.sector + 1⟩, clsW st.2.1 st.2.2 ++ [⟨p.volume, p.sector, []⟩], [] ++ [mget m p sec0]) else (⟨p.volume, p.sector + 1⟩, st.2.1, st.2.2 ++ [mget m p sec0])
def grpL (m : List (coalesce_place × Sec)) (l : List coalesce_place) : coalesce_place × List api_Write × List Sec := l.foldl (grpS m) (⟨-1, 0⟩, [], [])
theorem grpL_snoc (m : List (coalesce_place × Sec)) (l : List coalesce_place) (p : coalesce_place) : grpL m (l ++ [p]) = grpS m (grpL m l) p := by simp [grpL]
def canL (m : List (coalesce_place × Sec)) : List api_Write := clsW (grpL m (sortG pleB (m.map (·.1)))).2.1 (grpL m (sortG pleB (m.map (·.1)))).2.2
theorem clsW_len (xs : List api_Write) (ys : List Sec) : (clsW xs ys).length = xs.length := put_len _ _ _
theorem snocInd {α : Type} {P : List α → Prop} (h0 : P []) (h1 : ∀ l x, P l → P (l ++ [x])) (l : List α) : P l := by
  rw [← List.reverse_reverse l]
  induction l.reverse with
  | nil => exact h0
  | cons x r ih => rw [List.reverse_cons]; exact h1 _ _ ih
theorem nodup_len : ∀ (n : Nat) (l : List Nat), l.Nodup → (∀ i ∈ l, i < n) → l.length ≤ n
  | 0, [], _, _ => Nat.le_refl _
  | 0, i :: _, _, h => absurd (h i (List.mem_cons_self ..)) (Nat.not_lt_zero i)
  | n + 1, l, hd, h => by
    by_cases hn : n ∈ l
    · have h1 := nodup_len n (l.erase n) (hd.erase n) fun i hi => by
        have h2 := (List.Nodup.mem_erase_iff hd).1 hi
        have h3 := h i h2.2
        have := h2.1
        omega
      rw [List.length_erase_of_mem hn] at h1
      omega
    · have h1 := nodup_len n l hd fun i hi => by
        have h3 := h i hi
        have : i ≠ n := by rintro rfl; exact hn hi
        omega
      omega
theorem grpL_len (m : List (coalesce_place × Sec)) : ∀ l : List coalesce_place, (grpL m l).2.1.length ≤ l.length ∧ (grpL m l).2.2.length ≤ l.length ∧ (l ≠ [] → (∀ p ∈ l, p ≠ ⟨-1, 0⟩) → 0 < (grpL m l).2.1.length) := by
  refine snocInd ⟨Nat.le_refl _, Nat.le_refl _, fun h => absurd rfl h⟩ fun l p ih => ?_
  obtain ⟨h1, h2, h3⟩ := ih
  rw [grpL_snoc, len_snoc]
  unfold grpS
  split
  · refine ⟨?_, ?_, fun _ _ => ?_⟩
    · simp only [List.length_append, clsW_len, List.length_singleton]; omega
    · simp only [List.length_append, List.length_nil, List.length_singleton]; omega
    · simp only [List.length_append, clsW_len, List.length_singleton]; omega
  · rename_i hp
    refine ⟨by simp only; omega, by simp only [List.length_append, List.length_singleton]; omega, fun _ hall => ?_⟩
    by_cases hl : l = []
    · subst hl
      exact absurd (Classical.not_not.1 hp) (hall p (by simp))
    · exact h3 hl fun q hq => hall q (List.mem_append_left _ hq)
theorem behind_W {p : coalesce_place} {Φ : coalesce_place → Prop} (h : inI (p.sector + 1)) (hΦ : Φ ⟨p.volume, p.sector + 1⟩) : Z18 p Φ := ⟨h, hΦ⟩
theorem group_W {m : List (coalesce_place × Sec)} {ps : List coalesce_place} {Φ : List api_Write × Int → Prop} (hb : ps.length ≤ 100000000) (hp : ∀ p ∈ ps, 0 ≤ p.volume ∧ p.volume < 8 ∧ 0 ≤ p.sector ∧ p.sector < 4096) (hΦ : Φ (clsW (grpL m ps).2.1 (grpL m ps).2.2, 0)) : LoopW (Z25 m ps Φ) (0, -1, 0, [], []) := by
  have lOk : ∀ {n : Nat}, n ≤ 100000001 → lenOk n 40 := fun h => ⟨by omega, by simp only [maxLen]; omega⟩
  have lOk8 : ∀ {n : Nat}, n ≤ 100000001 → lenOk n 8 := fun h => ⟨by omega, by simp only [maxLen]; omega⟩
  refine LoopW.upT ps.length (fun k => ((k : Int), (grpL m (ps.take k)).1.volume, (grpL m (ps.take k)).1.sector, (grpL m (ps.take k)).2.1, (grpL m (ps.take k)).2.2)) rfl (fun k rec hk hrec => ?_) fun rec => ?_
  · obtain ⟨l1, l2, l3⟩ := grpL_len m (ps.take k)
    rw [lenT (by omega)] at l1 l2
    have hmem : ix ps (k : Int) ∈ ps := ix_mem ⟨by omega, by omega⟩
    have hpl := hp _ hmem
    have hst : grpL m (ps.take (k + 1)) = grpS m (grpL m (ps.take k)) (ix ps (k : Int)) := by rw [take_ix hk, grpL_snoc]
    obtain ⟨n1, n2, n3⟩ := grpL_len m (ps.take (k + 1))
    have n4 := n3 (by rw [take_ix hk]; simp) (fun p hq => by
      have := hp p (List.mem_of_mem_take hq)
      rintro rfl
      simp at this)
    rw [lenT (by omega)] at n1 n2
    have J : ∀ xs ys, (⟨(ix ps (k : Int)).volume, (ix ps (k : Int)).sector + 1⟩, xs, ys ++ [mget m (ix ps (k : Int)) sec0]) = grpL m (ps.take (k + 1)) → Z24 m ps (k : Int) rec Φ (xs, ys) := fun xs ys e => by
      have e1 : xs = (grpL m (ps.take (k + 1))).2.1 := by rw [← e]
      have e2 : ys ++ [mget m (ix ps (k : Int)) sec0] = (grpL m (ps.take (k + 1))).2.2 := by rw [← e]
      refine ⟨iI (by omega) (by rw [e1]; omega), iX (by rw [e1]; omega) (by omega), by omega, lOk8 (by rw [e2]; omega), behind_W (iI (by omega) (by omega)) ⟨iI (by omega) (by omega), hrec _ ?_⟩⟩
      rw [← e]; rfl
    refine ⟨fun _ => ⟨iX (by omega) (by omega), ?_⟩, fun h => absurd (show (k : Int) < (ps.length : Int) by omega) h⟩
    show (ix ps (k : Int) ≠ _ → _) ∧ (¬ (ix ps (k : Int) ≠ _) → _)
    refine ⟨fun h => ⟨lOk ?_, J _ _ ?_⟩, fun h => J _ _ ?_⟩
    · have := clsW_len (grpL m (ps.take k)).2.1 (grpL m (ps.take k)).2.2
      unfold clsW at this
      rw [len_snoc, this]; omega
    · rw [hst]; unfold grpS; rw [if_pos h]; rfl
    · rw [hst]; unfold grpS; rw [if_neg h]
  · refine ⟨fun h => absurd h (by simp), fun _ => ?_⟩
    rw [show ps.take ps.length = ps from take_all ps]
    exact hΦ
theorem gather_W {m : List (coalesce_place × Sec)} {Φ : List api_Write × Int → Prop} (hb : m.length ≤ 100000000) (hp : ∀ q ∈ m, 0 ≤ q.1.volume ∧ q.1.volume < 8 ∧ 0 ≤ q.1.sector ∧ q.1.sector < 4096) (hΦ : Φ (canL m, 0)) : LoopW (Z26 m Φ) ((m.length, []), []) := by
  have hent : ∀ i, i < m.length → ent m i ∈ m := fun i hi => by
    unfold ent
    rw [List.getD_eq_getElem?_getD, List.getElem?_eq_getElem hi]
    exact List.getElem_mem hi
  refine LoopW.of_inv (fun s => s.1.1 = m.length ∧ s.1.2.Nodup ∧ (∀ i ∈ s.1.2, i < m.length) ∧ s.2 = s.1.2.reverse.map fun i => (ent m i).1) (fun s => m.length - s.1.2.length) ?_ ⟨rfl, List.nodup_nil, (fun _ h => by cases h), rfl⟩
  rintro ⟨⟨n, seen⟩, ps⟩ rec ⟨h1, h2, h3, h4⟩ hrec
  simp only at h1 h2 h3 h4
  subst h1 h4
  have hle : seen.length ≤ m.length := nodup_len _ _ h2 h3
  refine ⟨rfl, fun hall => ?_, fun i hi hni => ⟨rfl, hi, ?_, hrec _ ⟨rfl, List.nodup_cons.2 ⟨hni, h2⟩, fun j hj => ?_, ?_⟩ ?_⟩⟩
  · have hperm : seen.Perm (List.range m.length) := (List.perm_ext_iff_of_nodup h2 List.nodup_range).2 fun i => ⟨fun hi => List.mem_range.2 (h3 i hi), fun hi => hall i (List.mem_range.1 hi)⟩
    have hmap : (List.range m.length).map (fun i => (ent m i).1) = m.map (·.1) := by
      apply List.ext_getElem
      · simp
      · intro i hi1 hi2
        have hi : i < m.length := by simpa using hi2
        simp only [List.getElem_map, List.getElem_range]
        unfold ent
        rw [List.getD_eq_getElem?_getD, List.getElem?_eq_getElem hi]
        rfl
    have hp2 : (seen.reverse.map fun i => (ent m i).1).Perm (m.map (·.1)) := by
      rw [← hmap]
      exact ((List.reverse_perm seen).trans hperm).map _
    have hsort : sortG pleB (seen.reverse.map fun i => (ent m i).1) = sortG pleB (m.map (·.1)) := sortG_of ple_total ple_trans ple_anti ((sortG_perm pleB _).trans hp2) (sortG_sorted ple_total ple_trans _)
    refine ⟨by rw [hp2.length_eq, List.length_map]; omega, ?_⟩
    rw [hsort]
    have hlen : (sortG pleB (m.map (·.1))).length = m.length := by rw [(sortG_perm pleB _).length_eq, List.length_map]
    refine group_W (by rw [hlen]; exact hb) (fun p hp' => ?_) hΦ
    obtain ⟨q, hq, rfl⟩ := List.mem_map.1 ((sortG_perm pleB _).mem_iff.1 hp')
    exact hp q hq
  · refine ⟨?_, ?_⟩
    · rw [len_snoc, List.length_map, List.length_reverse]; omega
    · rw [len_snoc, List.length_map, List.length_reverse]; simp only [maxLen]; omega
  · rcases List.mem_cons.1 hj with rfl | hj
    · exact hi
    · exact h3 j hj
  · simp
  · have h6 : (i :: seen).length ≤ m.length := nodup_len _ _ (List.nodup_cons.2 ⟨hni, h2⟩) fun j hj => by
      rcases List.mem_cons.1 hj with rfl | hj
      · exact hi
      · exact h3 j hj
    show m.length - (i :: seen).length < m.length - seen.length
    rw [List.length_cons] at h6 ⊢
    omega
theorem effect_W {l : List api_Write} {Φ : List api_Write × Int → Prop} (hl : l.length ≤ 20000) (hp : PlL l) (hΦ : Φ (canL (effM l), 0)) : LoopW (Z27 l Φ) (0, []) := by
  have hpl : ∀ k, k < l.length → placedR (ix l (k : Int)) = 0 := fun k hk => hp _ (ix_mem ⟨by omega, by omega⟩)
  have hlen : (effM l).length ≤ 100000000 := by
    have := effM_len (c := 4096) l [] fun w hw => by have := placed0 (hp w hw); omega
    have h2 := Nat.mul_le_mul_right 4096 hl
    show (l.foldl _ []).length ≤ _
    simp only [List.length_nil] at this
    omega
  refine LoopW.upT l.length (fun k => ((k : Int), effM (l.take k))) rfl (fun k rec hk hrec => ?_) fun rec => ?_
  · refine ⟨fun _ => ⟨iX (by omega) (by omega), ?_⟩, fun h => absurd (show (k : Int) < (l.length : Int) by omega) h⟩
    obtain ⟨a1, a2, a3, a4, a5⟩ := placed0 (hpl k hk)
    have hrec := hrec _ rfl
    rw [take_ix hk, effM_snoc] at hrec
    refine LoopW.upT (ix l (k : Int)).Data.length (fun j => ((j : Int), (ix l (k : Int)).Volume, (ix l (k : Int)).Start + (j : Int), wrM (effM (l.take k)) (ix l (k : Int)).Volume (ix l (k : Int)).Start ((ix l (k : Int)).Data.take j))) (by simp [wrM]) (fun j rec3 hj h3 => ?_) fun rec3 => ?_
    · refine ⟨fun _ => ⟨iX (by omega) (by omega), behind_W (iI (by show _ ≤ (ix l (k : Int)).Start + (j : Int) + 1; omega) (by show (ix l (k : Int)).Start + (j : Int) + 1 ≤ _; omega)) ⟨iI (by omega) (by omega), h3 _ ?_⟩⟩, fun h => absurd (show (j : Int) < ((ix l (k : Int)).Data.length : Int) by omega) h⟩
      rw [take_ix hj, wrM_snoc, lenT (by omega)]
      rw [show (ix l (k : Int)).Start + ((j + 1 : Nat) : Int) = (ix l (k : Int)).Start + (j : Int) + 1 by omega]
      rfl
    · refine ⟨fun h => absurd h (by simp), fun _ => ⟨iI (by omega) (by omega), ?_⟩⟩
      rw [show (ix l (k : Int)).Data.take (ix l (k : Int)).Data.length = (ix l (k : Int)).Data from take_all _]
      exact hrec
  · refine ⟨fun h => absurd h (by simp), fun _ => ?_⟩
    rw [show l.take l.length = l from take_all l]
    exact ⟨by omega, ⟨by rw [Int.toNat_natCast]; omega, by rw [Int.toNat_natCast]; simp only [maxLen]; omega⟩, gather_W hlen (effM_place hp) hΦ⟩
def foldR (l : List api_Write) : List api_Write × Int := if firstN (fun k => placedR (ix l (k : Int))) l.length ≠ 0 then ([], firstN (fun k => placedR (ix l (k : Int))) l.length) else (canL (effM l), 0)
theorem coalesce_Fold_ok {l : List api_Write} {Φ : List api_Write × Int → Prop} (hl : l.length ≤ 20000) (hd : ∀ w ∈ l, w.Data.length ≤ 1000000) (hΦ : Φ (foldR l)) : Z29 l Φ := by
  unfold foldR at hΦ
  refine LoopW.errI l.length (fun k => (k : Int)) (fun k => placedR (ix l (k : Int))) (Ψ := fun e => Φ (if e ≠ 0 then ([], e) else (canL (effM l), 0))) rfl hΦ (fun k rec hk hI h1 h0 => ?_) fun rec hI h0 => ?_
  · refine ⟨fun _ => ⟨iX (by omega) (by omega), placed_W (hd _ (ix_mem ⟨by omega, by omega⟩)) ⟨fun e => ?_, fun e => ⟨iI (by omega) (by omega), h0 (Classical.not_not.1 e) _ rfl⟩⟩⟩, fun h => absurd (show (k : Int) < (l.length : Int) by omega) h⟩
    have := h1 e
    rwa [if_pos e] at this
  · refine ⟨fun h => absurd h (by simp), fun _ => ?_⟩
    rw [if_neg (by simp)] at h0
    refine effect_W hl (fun w hw => ?_) h0
    obtain ⟨k, hk, rfl⟩ := List.getElem_of_mem hw
    have := hI k hk
    rwa [ix_get hk] at this
def smallL (l : List api_Write) : Bool := decide (l.length ≤ 20000) && l.all fun w => decide (w.Data.length ≤ 1000000)
theorem smallL_ok {l : List api_Write} (h : smallL l = true) : l.length ≤ 20000 ∧ ∀ w ∈ l, w.Data.length ≤ 1000000 := by
  unfold smallL at h
  rw [Bool.and_eq_true] at h
  exact ⟨of_decide_eq_true h.1, fun w hw => of_decide_eq_true (List.all_eq_true.1 h.2 w hw)⟩
def Z103 (l : List api_Write) : Option (List api_Write × Int) := if smallL l = true then some (foldR l) else none
theorem coalesce_Fold_sound (l : List api_Write) {Φ : List api_Write × Int → Prop} {o} (h : Z103 l = some o) (hK : Φ o) : Z29 l Φ := by
  unfold Z103 at h
  split at h
  · rename_i hs
    cases h
    obtain ⟨h1, h2⟩ := smallL_ok hs
    exact coalesce_Fold_ok h1 h2 hK
  · cases h
def ordE (l : List api_Write) (k : Nat) : Int := if placedR (ix l (k : Int)) ≠ 0 then placedR (ix l (k : Int)) else if k = 0 then 0 else if (ix l (k : Int)).Volume < (ix l ((k : Int) - 1)).Volume ∨ (ix l (k : Int)).Volume = (ix l ((k : Int) - 1)).Volume ∧ (ix l (k : Int)).Start ≤ (ix l ((k : Int) - 1)).Start + ((ix l ((k : Int) - 1)).Data.length : Int) then 3 else 0
def canE (l : List api_Write) : Int := firstN (ordE l) l.length
theorem canE_pl {l : List api_Write} (h : canE l = 0) : PlL l := fun w hw => by
  obtain ⟨k, hk, rfl⟩ := List.getElem_of_mem hw
  have := firstN_zero.1 h k hk
  unfold ordE at this
  rw [ix_get hk] at this
  split at this
  · rename_i h1; exact absurd this h1
  · rename_i h1; exact Classical.not_not.1 h1
def mergeR (a b : List api_Write) : List api_Write × Int := if canE a ≠ 0 then ([], canE a) else if canE b ≠ 0 then ([], canE b) else (canL (effM (a ++ b)), 0)
theorem concat_ok {a b : List api_Write} {Φ : List api_Write → Prop} (ha : a.length ≤ 10000) (hb : b.length ≤ 10000) (hΦ : Φ (a ++ b)) : Z58 [a, b] Φ := by
  have J : ∀ v3 : List api_Write, v3 = [] → Z56 [a, b] Φ v3 := by
    rintro _ rfl
    refine ⟨3, ⟨fun _ => ⟨⟨by decide, by simp⟩, iL (by show (([] : List api_Write) ++ a).length ≤ _; rw [List.nil_append]; omega) (by decide), iI (by decide) (by decide), ⟨fun _ => ⟨⟨by decide, by simp⟩, iL (by show ((([] : List api_Write) ++ a) ++ b).length ≤ _; rw [List.nil_append, List.length_append]; omega) (by decide), iI (by decide) (by decide), ⟨fun h => absurd h (by simp), fun _ => hΦ⟩⟩, fun h => absurd (show (0 + 1 : Int) < _ by simp) h⟩⟩, fun h => absurd (show (0 : Int) < _ by simp) h⟩⟩
  refine LoopW.upT 2 (fun k => ((match k with | 0 => (0 : Int) | 1 => (a.length : Int) | _ => (a.length : Int) + (b.length : Int)), (k : Int))) rfl (fun k rec hk hrec => ?_) fun rec => ?_
  · obtain rfl | rfl : k = 0 ∨ k = 1 := by omega
    · have e : (0 : Int) + (a.length : Int) = (a.length : Int) := by omega
      refine ⟨fun _ => ⟨⟨by decide, by simp⟩, iI (by show _ ≤ (0 : Int) + (a.length : Int); omega) (by show (0 : Int) + (a.length : Int) ≤ _; omega), fun h => absurd (show (0 : Int) + (a.length : Int) < 0 from h) (by omega), fun _ => ⟨iI (by decide) (by decide), hrec _ ?_⟩⟩, fun h => absurd (show (0 : Int) < _ by simp) h⟩
      show ((0 : Int) + (a.length : Int), _) = ((a.length : Int), _)
      rw [e]; rfl
    · refine ⟨fun _ => ⟨⟨by decide, by simp⟩, iI (by show _ ≤ (a.length : Int) + (b.length : Int); omega) (by show (a.length : Int) + (b.length : Int) ≤ _; omega), fun h => absurd (show (a.length : Int) + (b.length : Int) < 0 from h) (by omega), fun _ => ⟨iI (by decide) (by decide), hrec _ rfl⟩⟩, fun h => absurd (show (1 : Int) < _ by simp) h⟩
  · refine ⟨fun h => absurd (show (2 : Int) < (2 : Int) from h) (by decide), fun _ => ?_⟩
    refine ⟨fun h => absurd (show (a.length : Int) + (b.length : Int) < 0 from h) (by omega), fun _ => ⟨iI (by decide) (by decide), iI (by show _ ≤ (a.length : Int) + (b.length : Int) - ((0 : Int) - 0); omega) (by show (a.length : Int) + (b.length : Int) - ((0 : Int) - 0) ≤ _; omega), fun h => ⟨rfl, h, ⟨?_, ?_⟩, iS (by decide) (by decide) (by omega), J _ (by simp [sub])⟩, fun _ => J _ rfl⟩⟩
    · show ((a.length : Int) + (b.length : Int) - ((0 : Int) - 0)).toNat * 40 ≤ _
      omega
    · show ((a.length : Int) + (b.length : Int) - ((0 : Int) - 0)).toNat ≤ _
      simp only [maxLen]; omega
theorem canE_W {a b : List api_Write} {i : Int} {l : List api_Write} (hl : ix ([a, b] : List (List api_Write)) i = l) (hn : l.length ≤ 1000000) (hd : ∀ w ∈ l, w.Data.length ≤ 1000000) {rec1 : Int → Prop} {Φ : List api_Write × Int → Prop} (h : Z59 i rec1 Φ (canE l)) : LoopW (Z60 a b i rec1 Φ) 0 := by
  have hdk : ∀ k : Nat, k < l.length → (ix l (k : Int)).Data.length ≤ 1000000 := fun k hk => hd _ (ix_mem ⟨by omega, by omega⟩)
  refine LoopW.errI l.length (fun k => (k : Int)) (ordE l) (Ψ := Z59 i rec1 Φ) rfl h (fun k rec hk hI h1 h0 => ?_) fun rec hI h0 => ?_
  · unfold Z60
    rw [hl]
    refine ⟨fun _ => ⟨iX (by omega) (by omega), placed_W (hdk k hk) ⟨fun e => ?_, fun e => ?_⟩⟩, fun h => absurd (show (k : Int) < (l.length : Int) by omega) h⟩
    · have e2 : ordE l k = placedR (ix l (k : Int)) := by unfold ordE; rw [if_pos e]
      have := h1 (by rw [e2]; exact e)
      rwa [e2] at this
    · refine ⟨fun z => ⟨iI (by omega) (by omega), h0 ?_ _ rfl⟩, fun z => ?_⟩
      · unfold ordE; rw [if_neg e, if_pos (by omega)]
      · have hk1 : ix l ((k : Int) - 1) = ix l ((k - 1 : Nat) : Int) := by rw [show (k : Int) - 1 = ((k - 1 : Nat) : Int) by omega]
        have hp1 := hI (k - 1) (by omega)
        have hpl : placedR (ix l ((k : Int) - 1)) = 0 := by
          rw [hk1]
          unfold ordE at hp1
          split at hp1
          · rename_i q; exact absurd hp1 q
          · rename_i q; exact Classical.not_not.1 q
        obtain ⟨b1, b2, b3, b4, b5⟩ := placed0 hpl
        have bad : ((ix l (k : Int)).Volume < (ix l ((k : Int) - 1)).Volume ∨ (ix l (k : Int)).Volume = (ix l ((k : Int) - 1)).Volume ∧ (ix l (k : Int)).Start ≤ (ix l ((k : Int) - 1)).Start + ((ix l ((k : Int) - 1)).Data.length : Int)) → Z59 i rec1 Φ 3 := fun q => by
          have e2 : ordE l k = 3 := by unfold ordE; rw [if_neg e, if_neg (by omega), if_pos q]
          have := h1 (by rw [e2]; decide)
          rwa [e2] at this
        have good : ¬ ((ix l (k : Int)).Volume < (ix l ((k : Int) - 1)).Volume ∨ (ix l (k : Int)).Volume = (ix l ((k : Int) - 1)).Volume ∧ (ix l (k : Int)).Start ≤ (ix l ((k : Int) - 1)).Start + ((ix l ((k : Int) - 1)).Data.length : Int)) → rec ((k : Int) + 1) := fun q => h0 (by unfold ordE; rw [if_neg e, if_neg (by omega), if_neg q]) _ rfl
        refine ⟨iI (by omega) (by omega), iX (by omega) (by omega), fun q => bad (.inl q), fun q => ⟨fun r => ⟨iI (by omega) (by omega), fun s => bad (.inr ⟨r, s⟩), fun s => ⟨iI (by omega) (by omega), good fun t => ?_⟩⟩, fun r => ⟨iI (by omega) (by omega), good fun t => ?_⟩⟩⟩
        · rcases t with t | t
          · exact q t
          · exact s t.2
        · rcases t with t | t
          · exact q t
          · exact r t.1
  · unfold Z60
    rw [hl]
    exact ⟨fun h => absurd h (by simp), fun _ => h0⟩
theorem coalesce_Merge_ok {a b : List api_Write} {Φ : List api_Write × Int → Prop} (ha : a.length ≤ 10000) (hb : b.length ≤ 10000) (hda : ∀ w ∈ a, w.Data.length ≤ 1000000) (hdb : ∀ w ∈ b, w.Data.length ≤ 1000000) (hΦ : Φ (mergeR a b)) : Z67 a b Φ := by
  unfold mergeR at hΦ
  refine ⟨3, ⟨fun _ => ⟨⟨by decide, by simp⟩, canE_W (l := a) rfl (by omega) hda ⟨fun e => by rw [if_pos e] at hΦ; exact hΦ, fun e => ⟨iI (by decide) (by decide), ?_⟩⟩⟩, fun h => absurd (show (0 : Int) < _ by simp) h⟩⟩
  rw [if_neg e] at hΦ
  refine ⟨fun _ => ⟨⟨by decide, by simp⟩, canE_W (l := b) rfl (by omega) hdb ⟨fun e => by rw [if_pos e] at hΦ; exact hΦ, fun e2 => ⟨iI (by decide) (by decide), ?_⟩⟩⟩, fun h => absurd (show (0 + 1 : Int) < _ by simp) h⟩
  rw [if_neg e2] at hΦ
  refine ⟨fun h => absurd h (by simp), fun _ => concat_ok ha hb ?_⟩
  refine effect_W (by rw [List.length_append]; omega) (fun w hw => ?_) hΦ
  rcases List.mem_append.1 hw with hw | hw
  · exact canE_pl (Classical.not_not.1 e) w hw
  · exact canE_pl (Classical.not_not.1 e2) w hw
def Z104 (a b : List api_Write) : Option (List api_Write × Int) := if (decide (a.length ≤ 10000 ∧ b.length ≤ 10000) && (smallL a && smallL b)) = true then some (mergeR a b) else none
theorem coalesce_Merge_sound (a b : List api_Write) {Φ : List api_Write × Int → Prop} {o} (h : Z104 a b = some o) (hK : Φ o) : Z67 a b Φ := by
  unfold Z104 at h
  split at h
  · rename_i hs
    cases h
    simp only [Bool.and_eq_true] at hs
    have h0 := of_decide_eq_true hs.1
    exact coalesce_Merge_ok h0.1 h0.2 (smallL_ok hs.2.1).2 (smallL_ok hs.2.2).2 hK
  · cases h
def sizesE (l : List Int) : Int := if (l.length : Int) < 1 ∨ 8 < (l.length : Int) then 6 else firstN (fun k => if ix l (k : Int) < 1 ∨ 4096 < ix l (k : Int) then 2 else 0) l.length
def szs (im : List (List Sec)) : List Int := im.map fun v => (v.length : Int)
def imgE (im : List (List Sec)) : Int := sizesE (szs im)
theorem szs_len (im : List (List Sec)) : (szs im).length = im.length := by unfold szs; rw [List.length_map]
theorem ix_szs {im : List (List Sec)} {k : Nat} (h : k < im.length) : ix (szs im) (k : Int) = ((ix im (k : Int)).length : Int) := by
  rw [ix_get (by rw [szs_len]; exact h), ix_get h]; unfold szs; rw [List.getElem_map]
theorem sizesE_len {l : List Int} (h : sizesE l = 0) : 1 ≤ l.length ∧ l.length ≤ 8 := by
  unfold sizesE at h
  by_cases hl : (l.length : Int) < 1 ∨ 8 < (l.length : Int)
  · rw [if_pos hl] at h; cases h
  · omega
theorem sizesE_ix {l : List Int} (h : sizesE l = 0) {k : Nat} (hk : k < l.length) : 1 ≤ ix l (k : Int) ∧ ix l (k : Int) ≤ 4096 := by
  unfold sizesE at h
  by_cases hl : (l.length : Int) < 1 ∨ 8 < (l.length : Int)
  · rw [if_pos hl] at h; cases h
  · rw [if_neg hl] at h
    have := firstN_zero.1 h k hk
    by_cases q : ix l (k : Int) < 1 ∨ 4096 < ix l (k : Int)
    · rw [if_pos q] at this; cases this
    · omega
theorem ref07_Sizes_ok {l : List Int} {Φ : Int → Prop} (hΦ : Φ (sizesE l)) : ref07_Sizes_W l Φ := by
  unfold sizesE at hΦ
  by_cases h : (l.length : Int) < 1 ∨ 8 < (l.length : Int)
  · rw [if_pos h] at hΦ
    exact ⟨fun _ => hΦ, fun _ => ⟨fun _ => hΦ, fun _ => by omega⟩⟩
  · rw [if_neg h] at hΦ
    refine ⟨fun _ => by omega, fun _ => ⟨fun _ => by omega, fun _ => ?_⟩⟩
    refine LoopW.errI l.length (fun k => (k : Int)) _ rfl hΦ (fun k rec hk _ h1 h2 => ?_) fun rec _ h0 => ⟨fun _ => by omega, fun _ => h0⟩
    refine ⟨fun _ => ⟨iX (by omega) (by omega), fun q => ?_, fun q => ⟨iX (by omega) (by omega), fun r => ?_, fun r => ⟨iI (by omega) (by omega), h2 (if_neg (by omega)) _ rfl⟩⟩⟩, fun _ => by omega⟩
    · have := h1 (by rw [if_pos (.inl q)]; omega)
      rw [if_pos (.inl q)] at this; exact this
    · have := h1 (by rw [if_pos (.inr r)]; omega)
      rw [if_pos (.inr r)] at this; exact this
theorem image_checkSizes_ok {l : List Int} {Φ : Int → Prop} (hΦ : Φ (sizesE l)) : Z2 l Φ := by
  unfold sizesE at hΦ
  by_cases h : (l.length : Int) < 1 ∨ 8 < (l.length : Int)
  · rw [if_pos h] at hΦ
    exact ⟨fun _ => hΦ, fun _ => ⟨fun _ => hΦ, fun _ => by omega⟩⟩
  · rw [if_neg h] at hΦ
    refine ⟨fun _ => by omega, fun _ => ⟨fun _ => by omega, fun _ => ?_⟩⟩
    refine LoopW.errI l.length (fun k => (k : Int)) _ rfl hΦ (fun k rec hk _ h1 h2 => ?_) fun rec _ h0 => ⟨fun _ => by omega, fun _ => ⟨fun _ => by omega, fun _ => h0⟩⟩
    have go : ∀ q : ix l (k : Int) < 1 ∨ 4096 < ix l (k : Int), Φ 2 := fun q => by
      have := h1 (by rw [if_pos q]; omega)
      rw [if_pos q] at this; exact this
    refine ⟨fun _ => ⟨iX (by omega) (by omega), fun q => ⟨fun _ => ⟨fun _ => go (.inl q), fun _ => by omega⟩, fun r => absurd rfl r⟩, fun q => ⟨fun r => ⟨fun _ => go (.inr (of_decide_eq_true r)), fun _ => by omega⟩, fun r => ⟨iI (by omega) (by omega), h2 (if_neg (by have := of_decide_eq_false (Bool.eq_false_iff.2 r); omega)) _ rfl⟩⟩⟩, fun _ => by omega⟩
theorem image_sizes_ok {im : List (List Sec)} {Φ : List Int → Prop} (hl : im.length ≤ 100000) (hΦ : Φ (szs im)) : image_sizes_W im Φ := by
  refine ⟨by omega, iL (by omega) (by omega), ?_⟩
  refine LoopW.upT im.length (fun k => ((k : Int), (im.take k).map fun v => (v.length : Int))) rfl (fun k rec hk hr => ?_) fun rec => ⟨fun _ => by omega, fun _ => by rw [take_all]; exact hΦ⟩
  refine ⟨fun _ => ⟨iX (by omega) (by omega), iL (by rw [len_snoc, List.length_map, lenT (by omega)]; omega) (by omega), iI (by omega) (by omega), hr _ (by rw [map_take_snoc _ hk]; rfl)⟩, fun _ => by omega⟩
theorem image_Check_ok {im : List (List Sec)} {Φ : Int → Prop} (hl : im.length ≤ 100000) (hΦ : Φ (imgE im)) : image_Check_W im Φ := image_sizes_ok hl (image_checkSizes_ok hΦ)
def zeroI (l : List Int) : List (List Sec) := l.map fun n => List.replicate n.toNat sec0
theorem zeroI_len (l : List Int) : (zeroI l).length = l.length := by unfold zeroI; rw [List.length_map]
theorem ix_zeroI {l : List Int} {k : Nat} (h : k < l.length) : ix (zeroI l) (k : Int) = List.replicate (ix l (k : Int)).toNat sec0 := by
  rw [ix_get (by rw [zeroI_len]; exact h), ix_get h]; unfold zeroI; rw [List.getElem_map]
theorem szs_zeroI {l : List Int} (h : sizesE l = 0) : szs (zeroI l) = l := by
  refine ext_ix (by rw [szs_len, zeroI_len]) fun k hk => ?_
  rw [szs_len, zeroI_len] at hk
  have := sizesE_ix h hk
  rw [ix_szs (by rw [zeroI_len]; exact hk), ix_zeroI hk, List.length_replicate]; omega
theorem image_New_ok {l : List Int} {Φ : List (List Sec) × Int → Prop} (h0 : sizesE l = 0 → Φ (zeroI l, 0)) (h1 : sizesE l ≠ 0 → Φ ([], sizesE l)) : image_New_W l Φ := by
  refine image_checkSizes_ok ⟨fun q => h1 q, fun q => ?_⟩
  have q : sizesE l = 0 := Classical.not_not.1 q
  have hl := sizesE_len q
  refine ⟨by omega, iL (by omega) (by omega), ?_⟩
  refine LoopW.upT l.length (fun k => ((k : Int), (l.take k).map fun n => List.replicate n.toNat sec0)) rfl (fun k rec hk hr => ?_) fun rec => ⟨fun _ => by omega, fun _ => by rw [take_all]; exact h0 q⟩
  have := sizesE_ix q hk
  refine ⟨fun _ => ⟨iX (by omega) (by omega), by omega, iL (by omega) (by omega), iL (by rw [len_snoc, List.length_map, lenT (by omega)]; omega) (by omega), iI (by omega) (by omega), hr _ (by rw [map_take_snoc _ hk]; rfl)⟩, fun _ => by omega⟩
def fitW (l : List Int) (w : api_Write) : Int := if w.Volume < 0 ∨ (l.length : Int) ≤ w.Volume then 7 else if (w.Data.length : Int) = 0 then 1 else if w.Start < 0 ∨ ix l w.Volume - w.Start < (w.Data.length : Int) then 2 else 0
theorem image_fits_ok {im : List (List Sec)} {w : api_Write} {Φ : Int → Prop} (hd : w.Data.length ≤ 1000000) (hv : ∀ k : Nat, k < im.length → (ix im (k : Int)).length ≤ 1000000) (hΦ : Φ (fitW (szs im) w)) : image_fits_W im w Φ := by
  unfold fitW at hΦ
  rw [szs_len] at hΦ
  show (_ → image_fits_J1 _ _ _ _) ∧ _
  have tail : ¬ (w.Volume < 0 ∨ (im.length : Int) ≤ w.Volume) → image_fits_J1 im w Φ false := fun q => by
    rw [if_neg q] at hΦ
    refine ⟨fun r => (Bool.noConfusion r), fun _ => ⟨fun r => by rw [if_pos (by omega)] at hΦ; exact hΦ, fun r => ?_⟩⟩
    rw [if_neg (by omega)] at hΦ
    obtain ⟨v, hw⟩ := Int.eq_ofNat_of_zero_le (show 0 ≤ w.Volume by omega)
    have hvl : v < im.length := by omega
    rw [hw, ix_szs hvl] at hΦ
    have := hv v hvl
    refine ⟨fun s => by rw [if_pos (.inl s)] at hΦ; exact hΦ, fun s => ⟨iX (by omega) (by omega), ?_⟩⟩
    rw [hw]
    exact ⟨iI (by omega) (by omega), fun t => by rw [if_pos (by omega)] at hΦ; exact hΦ, fun t => by rw [if_neg (by omega)] at hΦ; exact hΦ⟩
  refine ⟨fun q => ⟨fun _ => by rw [if_pos (.inl q)] at hΦ; exact hΦ, fun r => absurd rfl r⟩, fun q => ?_⟩
  by_cases r : (im.length : Int) ≤ w.Volume
  · rw [decide_eq_true r]
    exact ⟨fun _ => by rw [if_pos (.inr r)] at hΦ; exact hΦ, fun r => absurd rfl r⟩
  · rw [decide_eq_false r]; exact tail (by omega)
theorem ref07_FitsSizes_ok {l : List Int} {w : api_Write} {Φ : Int → Prop} (hd : w.Data.length ≤ 1000000) (hl : ∀ k : Nat, k < l.length → ix l (k : Int) ≤ 1000000) (hΦ : Φ (fitW l w)) : Z75 l w Φ := by
  unfold fitW at hΦ
  refine ⟨fun q => by rw [if_pos (.inl q)] at hΦ; exact hΦ, fun q => ⟨fun r => by rw [if_pos (.inr r)] at hΦ; exact hΦ, fun r => ?_⟩⟩
  rw [if_neg (by omega)] at hΦ
  refine ⟨fun s => by rw [if_pos (by omega)] at hΦ; exact hΦ, fun s => ?_⟩
  rw [if_neg (by omega)] at hΦ
  obtain ⟨v, hw⟩ := Int.eq_ofNat_of_zero_le (show 0 ≤ w.Volume by omega)
  have hvl : v < l.length := by omega
  have := hl v hvl
  rw [hw] at hΦ ⊢
  refine ⟨fun t => by rw [if_pos (.inl t)] at hΦ; exact hΦ, fun t => ⟨iX (by omega) (by omega), fun u => by rw [if_pos (by omega)] at hΦ; exact hΦ, fun u => ⟨iX (by omega) (by omega), iI (by omega) (by omega), fun x => by rw [if_pos (by omega)] at hΦ; exact hΦ, fun x => by rw [if_neg (by omega)] at hΦ; exact hΦ⟩⟩⟩
theorem szs_small {im : List (List Sec)} (h : imgE im = 0) (k : Nat) (hk : k < im.length) : (ix im (k : Int)).length ≤ 4096 := by
  have := sizesE_ix h (k := k) (by rw [szs_len]; exact hk)
  rw [ix_szs hk] at this; omega
theorem image_Fits_ok {im : List (List Sec)} {w : api_Write} {Φ : Int → Prop} (hd : w.Data.length ≤ 1000000) (h : imgE im = 0) (hΦ : Φ (fitW (szs im) w)) : image_Fits_W im w Φ := by
  have hl := sizesE_len h
  rw [szs_len] at hl
  exact image_Check_ok (by omega) ⟨fun q => absurd h q, fun _ => image_fits_ok hd (fun k hk => Nat.le_trans (szs_small h k hk) (by omega)) hΦ⟩
theorem sizes_ok {l : List Int} (h : ¬ sizesE l ≠ 0) : l.length ≤ 8 ∧ 1 ≤ l.length ∧ ∀ k : Nat, k < l.length → 1 ≤ ix l (k : Int) ∧ ix l (k : Int) ≤ 4096 := by
  have h0 := Classical.not_not.1 h
  unfold sizesE at h0
  split at h0
  · omega
  · refine ⟨by omega, by omega, fun k hk => ?_⟩
    have := firstN_zero.1 h0 k hk
    split at this <;> omega
theorem fitW_zero {sizes : List Int} {w : api_Write} (hs : ¬ sizesE sizes ≠ 0) (h : fitW sizes w = 0) : 0 ≤ w.Volume ∧ w.Volume < (sizes.length : Int) ∧ 1 ≤ w.Data.length ∧ 0 ≤ w.Start ∧ w.Start + (w.Data.length : Int) ≤ ix sizes w.Volume ∧ ix sizes w.Volume ≤ 4096 := by
  unfold fitW at h
  split at h
  · omega
  split at h
  · omega
  split at h
  · omega
  obtain ⟨v, hv⟩ := Int.eq_ofNat_of_zero_le (show 0 ≤ w.Volume by omega)
  have hz := (sizes_ok hs).2.2 v (by omega)
  rw [← hv] at hz
  omega
theorem ix_put {α : Type} [Dt α] (xs : List α) {i j : Nat} (x : α) (hi : i < xs.length) : ix (put xs (i : Int) x) (j : Int) = if j = i then x else ix xs (j : Int) := by
  show (xs.set i x).getD j default = if j = i then x else xs.getD j default
  rw [List.getD_eq_getElem?_getD, List.getD_eq_getElem?_getD]
  by_cases h : j = i
  · subst h; rw [List.getElem?_set_self hi, if_pos rfl]; rfl
  · rw [List.getElem?_set_ne (by omega), if_neg h]
theorem put_put {α : Type} (xs : List α) (i : Int) (x y : α) : put (put xs i x) i y = put xs i y := by unfold put; rw [List.set_set]
theorem ix_put_self {α : Type} [Dt α] {xs : List α} {i : Int} (x : α) (hi : inX i xs.length) : ix (put xs i x) i = x := by
  obtain ⟨k, rfl⟩ := Int.eq_ofNat_of_zero_le hi.1
  rw [ix_put xs x (by have := hi.2; omega), if_pos rfl]
theorem ix_paste {α : Type} [Dt α] {xs ys : List α} {s i : Nat} (h : s + ys.length ≤ xs.length) : ix (paste xs (s : Int) ys) (i : Int) = if s ≤ i ∧ i < s + ys.length then ix ys ((i : Int) - (s : Int)) else ix xs (i : Int) := by
  show (paste xs (s : Int) ys).getD i default = if _ then ys.getD ((i : Int) - (s : Int)).toNat default else xs.getD i default
  unfold paste
  rw [Int.toNat_natCast, List.getD_eq_getElem?_getD, List.getD_eq_getElem?_getD, List.getD_eq_getElem?_getD]
  have e1 : (xs.take s).length = s := by rw [List.length_take]; omega
  have e2 : ys.take (xs.length - s) = ys := List.take_of_length_le (by omega)
  have e3 : min ys.length (xs.length - s) = ys.length := by omega
  rw [e2, e3]
  by_cases h1 : i < s
  · rw [if_neg (by omega), List.getElem?_append_left (by omega), List.getElem?_take_of_lt h1]
  · by_cases h2 : i < s + ys.length
    · rw [if_pos (by omega), List.getElem?_append_right (by omega), e1, List.getElem?_append_left (by omega), show ((i : Int) - (s : Int)).toNat = i - s by omega]
    · rw [if_neg (by omega), List.getElem?_append_right (by omega), e1, List.getElem?_append_right (by omega), List.getElem?_drop]
      congr 2
      omega
theorem paste_len' {α : Type} {xs ys : List α} {s : Nat} (h : s ≤ xs.length) : (paste xs (s : Int) ys).length = xs.length := paste_len ⟨by omega, by omega, by omega⟩
theorem paste_nil {α : Type} [Dt α] {xs : List α} {s : Nat} (h : s ≤ xs.length) : paste xs (s : Int) [] = xs :=
  ext_ix (paste_len' h) fun k _ => by rw [ix_paste (by simpa using h), if_neg fun q => by have := q.2; rw [List.length_nil] at this; omega]
theorem paste_step {α : Type} [Dt α] {xs ys : List α} {s m : Nat} (h : s + ys.length ≤ xs.length) (hm : m < ys.length) : put (paste xs (s : Int) (ys.take m)) ((s : Int) + (m : Int)) (ix ys (m : Int)) = paste xs (s : Int) (ys.take (m + 1)) := by
  have l1 : (ys.take m).length = m := by rw [List.length_take]; omega
  have l2 : (ys.take (m + 1)).length = m + 1 := by rw [List.length_take]; omega
  have p1 : (paste xs (s : Int) (ys.take m)).length = xs.length := paste_len' (by omega)
  refine ext_ix (by rw [put_len, p1, paste_len' (by omega)]) fun k hk => ?_
  rw [put_len, p1] at hk
  rw [show (s : Int) + (m : Int) = ((s + m : Nat) : Int) by omega, ix_put _ _ (by omega), ix_paste (by omega), ix_paste (by omega), l1, l2]
  have tk : ∀ q j : Nat, j < q → j < ys.length → ix (ys.take q) (j : Int) = ix ys (j : Int) := fun q j h1 h2 => by
    rw [ix_get (by rw [List.length_take]; omega), ix_get h2, List.getElem_take]
  by_cases h1 : k = s + m
  · rw [if_pos h1, if_pos (by omega), show (k : Int) - (s : Int) = (m : Int) by omega, tk _ _ (by omega) hm]
  · rw [if_neg h1]
    by_cases h2 : s ≤ k ∧ k < s + m
    · rw [if_pos h2, if_pos (by omega), show (k : Int) - (s : Int) = ((k - s : Nat) : Int) by omega, tk _ _ (by omega) (by omega), tk _ _ (by omega) (by omega)]
    · rw [if_neg h2, if_neg (by omega)]
def apply1 (im : List (List Sec)) (w : api_Write) : List (List Sec) := put im w.Volume (paste (ix im w.Volume) w.Start w.Data)
def appL (im : List (List Sec)) (l : List api_Write) : List (List Sec) := l.foldl apply1 im
theorem appL_snoc (im : List (List Sec)) (l : List api_Write) (w : api_Write) : appL im (l ++ [w]) = apply1 (appL im l) w := by unfold appL; rw [List.foldl_append]; rfl
structure FitW (sizes : List Int) (w : api_Write) (v s : Nat) : Prop where
  vol : w.Volume = (v : Int)
  start : w.Start = (s : Int)
  hv : v < sizes.length
  len : 1 ≤ w.Data.length
  le : ((s + w.Data.length : Nat) : Int) ≤ ix sizes (v : Int)
  top : ix sizes (v : Int) ≤ 4096
theorem fitW_of {sizes : List Int} {w : api_Write} (hs : ¬ sizesE sizes ≠ 0) (h : fitW sizes w = 0) : ∃ v s : Nat, FitW sizes w v s := by
  have := fitW_zero hs h
  obtain ⟨v, hv⟩ := Int.eq_ofNat_of_zero_le this.1
  obtain ⟨s, hst⟩ := Int.eq_ofNat_of_zero_le this.2.2.2.1
  rw [hv, hst] at this
  exact ⟨v, s, hv, hst, by omega, by omega, by omega, by omega⟩
theorem szs_apply1 {im : List (List Sec)} {w : api_Write} {v s : Nat} (h : FitW (szs im) w v s) : szs (apply1 im w) = szs im := by
  have hv := h.hv
  rw [szs_len] at hv
  have hle := h.le
  rw [ix_szs hv] at hle
  unfold apply1
  rw [h.vol, h.start]
  refine ext_ix (by rw [szs_len, szs_len, put_len]) fun k hk => ?_
  rw [szs_len, put_len] at hk
  rw [ix_szs (by rw [put_len]; exact hk), ix_szs hk, ix_put _ _ hv]
  by_cases hkv : k = v
  · rw [if_pos hkv, paste_len' (by omega), hkv]
  · rw [if_neg hkv]
theorem szs_appL {im : List (List Sec)} (hs : ¬ sizesE (szs im) ≠ 0) : ∀ {l : List api_Write}, (∀ w ∈ l, fitW (szs im) w = 0) → szs (appL im l) = szs im := by
  intro l
  induction l generalizing im with
  | nil => intro _; rfl
  | cons w l ih =>
    intro h
    obtain ⟨v, s, hw⟩ := fitW_of hs (h w (List.mem_cons_self ..))
    have e := szs_apply1 hw
    show szs (appL (apply1 im w) l) = _
    rw [ih (by rw [e]; exact hs) fun x hx => by rw [e]; exact h x (List.mem_cons_of_mem _ hx), e]
def sec (im : List (List Sec)) (v i : Nat) : Sec := ix (ix im (v : Int)) (i : Int)
theorem fit_data {l : List Int} {w : api_Write} (hs : sizesE l = 0) (h : fitW l w = 0) : w.Data.length ≤ 4096 := by
  have := fitW_zero (by omega) h; omega
theorem slices_Clone_Sec_ok {l : List Sec} {Φ : List Sec → Prop} (hl : l.length ≤ 1000000) (hΦ : Φ l) : Z10 l Φ :=
  ⟨fun h => (by subst h; exact hΦ), iL hl (by omega), hΦ⟩
theorem image_copiedE_ok {im : List (List Sec)} {Φ : List (List Sec) → Prop} (h : imgE im = 0) (hΦ : Φ im) : Z89 im Φ := by
  have hl := sizesE_len h
  rw [szs_len] at hl
  refine ⟨by omega, iL (by omega) (by omega), ?_⟩
  refine LoopW.upT im.length (fun k => (im.take k, (k : Int))) rfl (fun k rec hk hr => ?_) fun rec => ⟨fun _ => by omega, fun _ => by rw [take_all]; exact hΦ⟩
  have := szs_small h k hk
  refine ⟨fun _ => ⟨iX (by omega) (by omega), slices_Clone_Sec_ok (by omega) ⟨iL (by rw [len_snoc, lenT (by omega)]; omega) (by omega), iI (by omega) (by omega), hr _ (by rw [take_ix hk]; rfl)⟩⟩, fun _ => by omega⟩
theorem appL_take {im : List (List Sec)} {l : List api_Write} {k : Nat} (h : k < l.length) : appL im (l.take (k + 1)) = apply1 (appL im (l.take k)) (ix l (k : Int)) := by rw [take_ix h, appL_snoc]
theorem szs_takeL {im : List (List Sec)} {l : List api_Write} (hs : imgE im = 0) (hf : ∀ w ∈ l, fitW (szs im) w = 0) (k : Nat) : szs (appL im (l.take k)) = szs im := szs_appL (by rw [show sizesE (szs im) = 0 from hs]; simp) fun w hw => hf w (List.mem_of_mem_take hw)
theorem image_Apply_ok {im : List (List Sec)} {l : List api_Write} {Φ : List (List Sec) × Int × Int → Prop} (hl : l.length ≤ 1000000) (hs : imgE im = 0) (hf : ∀ w ∈ l, fitW (szs im) w = 0) (hΦ : Φ (appL im l, 0, 0)) : image_Apply_W im l Φ := by
  have h8 := sizesE_len hs
  rw [szs_len] at h8
  refine image_Check_ok (by omega) ⟨fun q => absurd hs q, fun _ => image_copiedE_ok hs ?_⟩
  refine LoopW.upT l.length (fun k => (appL im (l.take k), (k : Int))) rfl (fun k rec hk hr => ?_) fun rec => ⟨fun _ => by omega, fun _ => by rw [take_all]; exact hΦ⟩
  have hw := hf _ (ix_mem (iX (i := (k : Int)) (n := l.length) (by omega) (by omega)))
  have e := szs_takeL hs hf k
  have hs' : imgE (appL im (l.take k)) = 0 := by unfold imgE; rw [e]; exact hs
  obtain ⟨v, s, hfw⟩ := fitW_of (by rw [show sizesE (szs im) = 0 from hs]; simp) hw
  have hv := hfw.hv
  have hle := hfw.le
  rw [← e, szs_len] at hv
  rw [← e, ix_szs hv] at hle
  refine ⟨fun _ => ⟨iX (by omega) (by omega), image_fits_ok (by have := fit_data (show sizesE (szs im) = 0 from hs) hw; omega) (fun j hj => Nat.le_trans (szs_small hs' j hj) (by omega)) ?_⟩, fun _ => by omega⟩
  rw [e, hw]
  refine ⟨fun q => absurd rfl q, fun _ => ?_⟩
  refine ⟨by rw [hfw.vol]; exact iX (by omega) (by omega), by rw [hfw.vol, hfw.start]; exact iS (by omega) (by omega) (by omega), iI (by omega) (by omega), hr _ (by rw [appL_take hk]; rfl)⟩
theorem cycle_in_ok {x lo hi : Int} {Φ : Bool → Prop} (h : Φ (decide (lo ≤ x ∧ x ≤ hi))) : cycle_in_W x lo hi Φ := by
  refine ⟨fun q => ?_, fun q => ?_⟩
  · rw [show decide (lo ≤ x ∧ x ≤ hi) = decide (x ≤ hi) from by simp [q]] at h; exact h
  · rw [show decide (lo ≤ x ∧ x ≤ hi) = false from decide_eq_false fun r => q r.1] at h; exact h
def fewL (l : List api_Write) : Bool := decide (l.length ≤ 40 ∧ ∀ w ∈ l, w.Data.length ≤ 24)
theorem ref22_Few_ok {l : List api_Write} {Φ : Bool → Prop} (hΦ : Φ (fewL l)) : ref22_Few_W l Φ := by
  have h0 : ¬ (l.length ≤ 40 ∧ ∀ w ∈ l, w.Data.length ≤ 24) → Φ false := fun q => by
    unfold fewL at hΦ; rw [decide_eq_false q] at hΦ; exact hΦ
  have h1 : (l.length ≤ 40 ∧ ∀ w ∈ l, w.Data.length ≤ 24) → Φ true := fun q => by
    unfold fewL at hΦ; rw [decide_eq_true q] at hΦ; exact hΦ
  refine LoopW.upI (min l.length 60) (fun k => (k : Int)) (fun k => ∀ j : Nat, j < k → (ix l (j : Int)).Data.length ≤ 24) rfl (fun j hj => absurd hj (Nat.not_lt_zero j)) (fun k rec hk hI hr => ?_) fun rec hI => ?_
  · refine ⟨fun _ => ?_, fun q => by omega⟩
    rw [decide_eq_true (show (k : Int) < 60 by omega)]
    refine ⟨fun _ => ⟨iX (by omega) (by omega), fun q => h0 fun r => ?_, fun q => ⟨iI (by omega) (by omega), hr (fun j hj => ?_) _ rfl⟩⟩, fun q => absurd rfl q⟩
    · have := r.2 _ (ix_mem (iX (i := (k : Int)) (n := l.length) (by omega) (by omega)))
      omega
    · rcases Nat.lt_or_ge j k with h2 | h2
      · exact hI j h2
      · obtain rfl : j = k := by omega
        omega
  · have fin : Φ (decide ((l.length : Int) ≤ 40)) := by
      by_cases q : l.length ≤ 40
      · rw [decide_eq_true (by omega)]
        refine h1 ⟨q, fun w hw => ?_⟩
        obtain ⟨k, hk, rfl⟩ := List.getElem_of_mem hw
        have := hI k (by omega)
        rwa [ix_get hk] at this
      · rw [decide_eq_false (by omega)]; exact h0 fun r => q r.1
    refine ⟨fun q => ?_, fun _ => ⟨fun r => Bool.noConfusion r, fun _ => fin⟩⟩
    rw [decide_eq_false (show ¬ (((min l.length 60 : Nat) : Int) < 60) by omega)]
    exact ⟨fun r => Bool.noConfusion r, fun _ => fin⟩
def fewC (c : api_Cycle) : Bool := decide (c.Positions.length ≤ 40) && fewL c.Writes
structure FewC (c : api_Cycle) : Prop where
  pos : c.Positions.length ≤ 40
  len : c.Writes.length ≤ 40
  data : ∀ w ∈ c.Writes, w.Data.length ≤ 24
theorem fewC_of {c : api_Cycle} (h : fewC c = true) : FewC c := by
  unfold fewC fewL at h
  simp only [Bool.and_eq_true, decide_eq_true_eq] at h
  exact ⟨h.1, h.2.1, h.2.2⟩
theorem ref23_Few_ok {c : api_Cycle} {Φ : Bool → Prop} (hΦ : Φ (fewC c)) : ref23_Few_W c Φ := by
  refine ⟨fun q => ref22_Few_ok ?_, fun q => ?_⟩
  · unfold fewC at hΦ; rw [decide_eq_true (by omega), Bool.true_and] at hΦ; exact hΦ
  · unfold fewC at hΦ; rw [decide_eq_false (by omega), Bool.false_and] at hΦ; exact hΦ
def posE (l : List Int) : Int := firstN (fun k => if ix l (k : Int) < 0 ∨ 1073741824 < ix l (k : Int) then 2 else 0) l.length
def posR (least : Int) (l : List Int) : Int := if (l.length : Int) < least ∨ 8 < (l.length : Int) then 6 else posE l
theorem cycle_positions_ok {l : List Int} {least : Int} {Φ : Int → Prop} (hl : l.length ≤ 100000) (hΦ : Φ (posR least l)) : Z7 l least Φ := by
  refine cycle_in_ok ⟨fun q => ?_, fun q => ?_⟩
  · have := of_decide_eq_false (Bool.eq_false_iff.2 q)
    unfold posR at hΦ
    rw [if_pos (by omega)] at hΦ; exact hΦ
  · have := of_decide_eq_true (Classical.not_not.1 q)
    unfold posR at hΦ
    rw [if_neg (by omega)] at hΦ
    refine LoopW.errI l.length (fun k => (k : Int)) _ rfl hΦ (fun k rec hk _ h1 h2 => ?_) fun rec _ h0 => ⟨fun _ => by omega, fun _ => ⟨fun _ => by omega, fun _ => h0⟩⟩
    refine ⟨fun _ => ⟨iX (by omega) (by omega), cycle_in_ok ⟨fun r => ?_, fun r => ?_⟩⟩, fun _ => by omega⟩
    · have r := of_decide_eq_true r
      have r : ¬ (0 ≤ ix l (k : Int) ∧ ix l (k : Int) ≤ 1073741824) := fun t => r (decide_eq_true t)
      have c : ix l (k : Int) < 0 ∨ 1073741824 < ix l (k : Int) := by omega
      have := h1 (by rw [if_pos c]; omega)
      rw [if_pos c] at this
      exact ⟨fun _ => this, fun s => by omega⟩
    · have r : ¬ ¬ (decide (0 ≤ ix l (k : Int) ∧ ix l (k : Int) ≤ 1073741824) = true) := fun t => r (decide_eq_true t)
      have r := of_decide_eq_true (Classical.not_not.1 r)
      exact ⟨iI (by omega) (by omega), h2 (if_neg (by omega)) _ rfl⟩
theorem ref23_positions_ok {l : List Int} {Φ : Int → Prop} (hl : l.length ≤ 100000) (hΦ : Φ (posE l)) : Z74 l Φ := by
  refine LoopW.errI l.length (fun k => (k : Int)) _ rfl hΦ (fun k rec hk _ h1 h2 => ?_) fun rec _ h0 => ⟨fun _ => by omega, fun _ => h0⟩
  refine ⟨fun _ => ⟨iX (by omega) (by omega), fun q => ?_, fun q => ⟨iX (by omega) (by omega), fun r => ?_, fun r => ⟨iI (by omega) (by omega), h2 (if_neg (by omega)) _ rfl⟩⟩⟩, fun _ => by omega⟩
  · have := h1 (by rw [if_pos (.inl q)]; omega)
    rw [if_pos (.inl q)] at this; exact this
  · have := h1 (by rw [if_pos (.inr r)]; omega)
    rw [if_pos (.inr r)] at this; exact this
def ordW (sizes : List Int) (l : List api_Write) (k : Nat) : Int :=
  if fitW sizes (ix l (k : Int)) ≠ 0 then fitW sizes (ix l (k : Int)) else if k = 0 then 0 else if (ix l (k : Int)).Volume < (ix l ((k : Int) - 1)).Volume ∨ ((ix l (k : Int)).Volume = (ix l ((k : Int) - 1)).Volume ∧ (ix l (k : Int)).Start ≤ (ix l ((k : Int) - 1)).Start + ((ix l ((k : Int) - 1)).Data.length : Int)) then 3 else 0
def wrsE (sizes : List Int) (l : List api_Write) : Int := firstN (ordW sizes l) l.length
theorem ordW_fit {sizes : List Int} {l : List api_Write} {k : Nat} (h : ordW sizes l k = 0) : fitW sizes (ix l (k : Int)) = 0 := by
  unfold ordW at h
  split at h
  · next q => exact absurd h q
  · next q => exact Classical.not_not.1 q
theorem coalesce_Check_ok {l : List api_Write} {sizes : List Int} {Φ : Int → Prop} (hl : l.length ≤ 100000) (hd : ∀ w ∈ l, w.Data.length ≤ 1000000) (h0 : sizesE sizes ≠ 0 → Φ (sizesE sizes)) (h1 : sizesE sizes = 0 → Φ (wrsE sizes l)) : Z53 l sizes Φ := by
  refine image_New_ok (fun hs => ⟨fun q => absurd rfl q, fun _ => ?_⟩) fun hs => ⟨fun _ => h0 hs, fun q => absurd hs q⟩
  have e := szs_zeroI hs
  refine LoopW.errI l.length (fun k => (k : Int)) _ rfl (h1 hs) (fun k rec hk hj g1 g2 => ⟨fun _ => ⟨iX (by omega) (by omega), ?_⟩, fun _ => by omega⟩) fun rec _ h0 => ⟨fun _ => by omega, fun _ => h0⟩
  have hmem := hd _ (ix_mem (iX (i := (k : Int)) (n := l.length) (by omega) (by omega)))
  refine image_Fits_ok hmem (by unfold imgE; rw [e]; exact hs) ?_
  rw [e]
  unfold ordW at g1 g2
  refine ⟨fun q => ?_, fun q => ?_⟩
  · rw [if_pos q] at g1; exact g1 q
  · rw [if_neg q] at g1 g2
    refine ⟨fun r => ?_, fun r => ?_⟩
    · rw [if_pos (by omega)] at g2
      exact ⟨iI (by omega) (by omega), g2 rfl _ rfl⟩
    · rw [if_neg (by omega)] at g1 g2
      have hp := ordW_fit (hj (k - 1) (by omega))
      obtain ⟨v, s, hf⟩ := fitW_of (by omega) hp
      have z1 := hf.le
      have z2 := hf.top
      have z3 := hf.start
      have ek : ((k - 1 : Nat) : Int) = (k : Int) - 1 := by omega
      rw [ek] at z1 z3
      refine ⟨iI (by omega) (by omega), iX (by omega) (by omega), fun t => ?_, fun t => ⟨fun u => ⟨iI (by omega) (by omega), fun x => ?_, fun x => ?_⟩, fun u => ?_⟩⟩
      · rw [if_pos (.inl t)] at g1; exact g1 (by omega)
      · rw [if_pos (.inr ⟨u, x⟩)] at g1; exact g1 (by omega)
      · rw [if_neg (by omega)] at g2; exact ⟨iI (by omega) (by omega), g2 rfl _ rfl⟩
      · rw [if_neg (by omega)] at g2; exact ⟨iI (by omega) (by omega), g2 rfl _ rfl⟩
theorem ref22_Check_ok {l : List api_Write} {sizes : List Int} {Φ : Int → Prop} (hl : l.length ≤ 100000) (hd : ∀ w ∈ l, w.Data.length ≤ 1000000) (h0 : sizesE sizes ≠ 0 → Φ (sizesE sizes)) (h1 : sizesE sizes = 0 → Φ (wrsE sizes l)) : ref22_Check_W l sizes Φ := by
  refine ref07_Sizes_ok ⟨h0, fun hs => ?_⟩
  have hs := Classical.not_not.1 hs
  refine LoopW.errI l.length (fun k => (k : Int)) _ rfl (h1 hs) (fun k rec hk hj g1 g2 => ⟨fun _ => ⟨iX (by omega) (by omega), ?_⟩, fun _ => by omega⟩) fun rec _ h0 => ⟨fun _ => by omega, fun _ => h0⟩
  have hmem := hd _ (ix_mem (iX (i := (k : Int)) (n := l.length) (by omega) (by omega)))
  refine ref07_FitsSizes_ok hmem (fun k hk => by have := sizesE_ix hs hk; omega) ?_
  unfold ordW at g1 g2
  refine ⟨fun q => ?_, fun q => ?_⟩
  · rw [if_pos q] at g1; exact g1 q
  · rw [if_neg q] at g1 g2
    refine ⟨fun r => ?_, fun r => ?_⟩
    · rw [if_pos (by omega)] at g2
      exact ⟨iI (by omega) (by omega), g2 rfl _ rfl⟩
    · rw [if_neg (by omega)] at g1 g2
      have hp := ordW_fit (hj (k - 1) (by omega))
      obtain ⟨v, s, hf⟩ := fitW_of (by omega) hp
      have z1 := hf.le
      have z2 := hf.top
      have z3 := hf.start
      have ek : ((k - 1 : Nat) : Int) = (k : Int) - 1 := by omega
      rw [ek] at z1 z3
      refine ⟨iI (by omega) (by omega), iX (by omega) (by omega), iX (by omega) (by omega), fun t => ?_, fun t => ⟨iX (by omega) (by omega), fun u => ⟨iX (by omega) (by omega), iI (by omega) (by omega), iI (by omega) (by omega), fun x => ?_, fun x => ?_⟩, fun u => ?_⟩⟩
      · rw [if_pos (.inl t)] at g1; exact g1 (by omega)
      · rw [if_pos (.inr ⟨u, by omega⟩)] at g1; exact g1 (by omega)
      · rw [if_neg (by omega)] at g2; exact ⟨iI (by omega) (by omega), g2 rfl _ rfl⟩
      · rw [if_neg (by omega)] at g2; exact ⟨iI (by omega) (by omega), g2 rfl _ rfl⟩
def cycE (c : api_Cycle) (sizes : List Int) : Int :=
  if sizesE sizes ≠ 0 then sizesE sizes else if c.Base < 0 ∨ c.Number ≤ c.Base ∨ 1073741824 < c.Number then 2 else if c.Time < 0 ∨ 1073741824 < c.Time then 24 else if posR 0 c.Positions ≠ 0 then posR 0 c.Positions else wrsE sizes c.Writes
theorem cycle_Check_ok {c : api_Cycle} {sizes : List Int} {Φ : Int → Prop} (hp : c.Positions.length ≤ 100000) (hl : c.Writes.length ≤ 100000) (hd : ∀ w ∈ c.Writes, w.Data.length ≤ 1000000) (hΦ : Φ (cycE c sizes)) : cycle_Check_W c sizes Φ := by
  unfold cycE at hΦ
  refine image_New_ok (fun hs => ⟨fun q => absurd rfl q, fun _ => ?_⟩) fun hs => ⟨fun _ => by rw [if_pos hs] at hΦ; exact hΦ, fun q => absurd hs q⟩
  rw [if_neg (by omega)] at hΦ
  have J : ∀ b : Bool, (b = true ↔ c.Base < 0 ∨ c.Number ≤ c.Base ∨ 1073741824 < c.Number) → Z54 c sizes Φ b := fun b hb => by
    refine ⟨fun q => by rw [if_pos (hb.1 q)] at hΦ; exact hΦ, fun q => ?_⟩
    rw [if_neg fun r => q (hb.2 r)] at hΦ
    refine cycle_in_ok ⟨fun r => ?_, fun r => ?_⟩
    · have := of_decide_eq_false (Bool.eq_false_iff.2 r)
      rw [if_pos (by omega)] at hΦ; exact hΦ
    · have := of_decide_eq_true (Classical.not_not.1 r)
      rw [if_neg (by omega)] at hΦ
      refine cycle_positions_ok hp ⟨fun t => by rw [if_pos t] at hΦ; exact hΦ, fun t => ?_⟩
      rw [if_neg t] at hΦ
      exact coalesce_Check_ok hl hd (fun u => absurd hs u) fun _ => hΦ
  exact ⟨fun q => J true ⟨fun _ => .inl q, fun _ => rfl⟩, fun q => ⟨fun r => J true ⟨fun _ => .inr (.inl r), fun _ => rfl⟩, fun r => J _ (by simp; omega)⟩⟩
theorem posR0 {l : List Int} : posR 0 l = if 8 < (l.length : Int) then 6 else posE l := by
  unfold posR
  by_cases q : 8 < (l.length : Int)
  · rw [if_pos (.inr q), if_pos q]
  · rw [if_neg (by omega), if_neg q]
theorem ref23_Check_ok {c : api_Cycle} {sizes : List Int} {Φ : Int → Prop} (hp : c.Positions.length ≤ 100000) (hl : c.Writes.length ≤ 100000) (hd : ∀ w ∈ c.Writes, w.Data.length ≤ 1000000) (hΦ : Φ (cycE c sizes)) : ref23_Check_W c sizes Φ := by
  unfold cycE at hΦ
  rw [posR0] at hΦ
  refine ref07_Sizes_ok ⟨fun hs => by rw [if_pos hs] at hΦ; exact hΦ, fun hs => ?_⟩
  rw [if_neg hs] at hΦ
  refine ⟨fun q => by rw [if_pos (.inl q)] at hΦ; exact hΦ, fun q => ⟨fun r => by rw [if_pos (.inr (.inl r))] at hΦ; exact hΦ, fun r => ⟨fun s => by rw [if_pos (.inr (.inr s))] at hΦ; exact hΦ, fun s => ?_⟩⟩⟩
  rw [if_neg (by omega)] at hΦ
  refine ⟨fun q => by rw [if_pos (.inl q)] at hΦ; exact hΦ, fun q => ⟨fun r => by rw [if_pos (.inr r)] at hΦ; exact hΦ, fun r => ?_⟩⟩
  rw [if_neg (by omega)] at hΦ
  refine ⟨fun q => by rw [if_pos q, if_pos (by omega)] at hΦ; exact hΦ, fun q => ?_⟩
  rw [if_neg q] at hΦ
  refine ref23_positions_ok hp ⟨fun t => by rw [if_pos t] at hΦ; exact hΦ, fun t => ?_⟩
  rw [if_neg t] at hΦ
  exact ref22_Check_ok hl hd (fun u => absurd u hs) fun _ => hΦ
theorem slices_Clone_int_ok {l : List Int} {Φ : List Int → Prop} (hl : l.length ≤ 1000000) (hΦ : Φ l) : Z3 l Φ :=
  ⟨fun h => (by subst h; exact hΦ), iL hl (by omega), hΦ⟩
theorem ref23_ints_ok {l : List Int} {Φ : List Int → Prop} (hl : l.length ≤ 1000000) (hΦ : Φ l) : ref23_ints_W l Φ := ⟨iL hl (by omega), hΦ⟩
theorem ref03_SameSectors_refl {l : List Sec} {Φ : Bool → Prop} (hl : l.length ≤ 1000000) (hΦ : Φ true) : Z43 l l Φ :=
  ⟨fun h => absurd rfl h, fun _ => LoopW.upT l.length (fun k => (k : Int)) rfl (fun k rec hk hr => ⟨fun hlt => ⟨iX (by omega) hlt, iX (by omega) hlt, fun q => absurd rfl q, fun _ => ⟨iI (by omega) (by omega), hr _ rfl⟩⟩, fun q => absurd (show (k : Int) < (l.length : Int) by omega) q⟩) fun rec => ⟨fun q => absurd q (by omega), fun _ => hΦ⟩⟩
theorem ref03_SameWrites_refl {l : List api_Write} {Φ : Bool → Prop} (hl : l.length ≤ 1000000) (hd : ∀ w ∈ l, w.Data.length ≤ 1000000) (hΦ : Φ true) : Z45 l l Φ :=
  ⟨fun h => absurd rfl h, fun _ => LoopW.upT l.length (fun k => (k : Int)) rfl (fun k rec hk hr => ⟨fun hlt => ⟨iX (by omega) hlt, iX (by omega) hlt, fun q => absurd rfl q, fun _ => ⟨iX (by omega) hlt, iX (by omega) hlt, fun q => absurd rfl q, fun _ => ⟨iX (by omega) hlt, iX (by omega) hlt, (true, ()), ref03_SameSectors_refl (hd _ (ix_mem (iX (by omega) hlt))) rfl, fun q => absurd rfl q, fun _ => ⟨iI (by omega) (by omega), hr _ rfl⟩⟩⟩⟩, fun q => absurd (show (k : Int) < (l.length : Int) by omega) q⟩) fun rec => ⟨fun q => absurd q (by omega), fun _ => hΦ⟩⟩
theorem ref23_SameInts_refl {l : List Int} {Φ : Bool → Prop} (hl : l.length ≤ 1000000) (hΦ : Φ true) : Z98 l l Φ :=
  ⟨fun h => absurd rfl h, fun _ => LoopW.upT l.length (fun k => (k : Int)) rfl (fun k rec hk hr => ⟨fun hlt => ⟨iX (by omega) hlt, iX (by omega) hlt, fun q => absurd rfl q, fun _ => ⟨iI (by omega) (by omega), hr _ rfl⟩⟩, fun q => absurd (show (k : Int) < (l.length : Int) by omega) q⟩) fun rec => ⟨fun q => absurd q (by omega), fun _ => hΦ⟩⟩
theorem mfindP {κ ν : Type} [DecidableEq κ] (k : κ) (v : ν) (c : κ) : ∀ m : List (κ × ν), mfind (mput m k v) c = if c = k then some v else mfind m c
  | [] => by unfold mput mfind mfind; rfl
  | p :: m => by
    unfold mput
    by_cases h : k = p.1
    · rw [if_pos h]
      unfold mfind
      by_cases hc : c = k
      · rw [if_pos (by rw [hc, h]), if_pos hc]
      · rw [if_neg (fun t => hc (t.trans h.symm)), if_neg hc, if_neg (fun t => hc (t.trans h.symm))]
    · rw [if_neg h]
      unfold mfind
      rw [mfindP k v c m]
      by_cases hc : c = k
      · rw [if_neg (fun t => h (hc.symm.trans t)), if_pos hc, if_pos hc]
      · rw [if_neg hc, if_neg hc]
theorem mkeys_mem {κ ν : Type} [DecidableEq κ] (c : κ) : ∀ m : List (κ × ν), c ∈ m.map (·.1) ↔ ∃ d, mfind m c = some d
  | [] => by simp [mfind]
  | p :: m => by
    unfold mfind
    by_cases h : c = p.1
    · rw [if_pos h]; simp [h]
    · rw [if_neg h, ← mkeys_mem c m, List.map_cons, List.mem_cons]
      exact ⟨fun q => q.resolve_left h, .inr⟩
theorem mput_keys {κ ν : Type} [DecidableEq κ] (k : κ) (v : ν) {m : List (κ × ν)} (c : κ) : c ∈ (mput m k v).map (·.1) ↔ c = k ∨ c ∈ m.map (·.1) := by
  rw [mkeys_mem, mkeys_mem, mfindP]
  by_cases h : c = k
  · rw [if_pos h]; exact ⟨fun _ => .inl h, fun _ => ⟨v, rfl⟩⟩
  · rw [if_neg h]; exact ⟨.inr, fun q => q.resolve_left h⟩
theorem mput_nodup {κ ν : Type} [DecidableEq κ] (k : κ) (v : ν) : ∀ {m : List (κ × ν)}, (m.map (·.1)).Nodup → ((mput m k v).map (·.1)).Nodup
  | [], _ => by simp [mput]
  | p :: m, h => by
    have h1 := List.nodup_cons.1 (show (p.1 :: m.map (·.1)).Nodup from h)
    unfold mput
    by_cases hk : k = p.1
    · rw [if_pos hk]; exact h
    · rw [if_neg hk]
      refine List.nodup_cons.2 ⟨fun q => ?_, mput_nodup k v h1.2⟩
      rcases (mput_keys k v p.1).1 q with q | q
      · exact hk q.symm
      · exact h1.1 q
theorem wrM_nodup {v : Int} : ∀ (l : List Sec) (m : List (coalesce_place × Sec)) (s : Int), (m.map (·.1)).Nodup → ((wrM m v s l).map (·.1)).Nodup
  | [], _, _, h => h
  | _ :: l, _, _, h => wrM_nodup l _ _ (mput_nodup _ _ h)
theorem effM_nodup (l : List api_Write) : ((effM l).map (·.1)).Nodup := by
  refine snocInd (P := fun l => ((effM l).map (·.1)).Nodup) List.nodup_nil (fun l w h => ?_) l
  rw [effM_snoc]; exact wrM_nodup _ _ _ h
theorem ix_cons {α : Type} [Dt α] (x : α) (l : List α) (i : Int) (h : 0 ≤ i) : ix (x :: l) i = if i = 0 then x else ix l (i - 1) := by
  obtain ⟨k, rfl⟩ := Int.eq_ofNat_of_zero_le h
  cases k with
  | zero => rfl
  | succ k => rw [if_neg (by omega), show ((k + 1 : Nat) : Int) - 1 = (k : Int) by omega]; rfl
theorem wrM_find {v : Int} (q : coalesce_place) : ∀ (l : List Sec) (m : List (coalesce_place × Sec)) (s : Int), mfind (wrM m v s l) q = if q.volume = v ∧ s ≤ q.sector ∧ q.sector < s + (l.length : Int) then some (ix l (q.sector - s)) else mfind m q
  | [], m, s => by rw [if_neg (by rw [List.length_nil]; omega)]; rfl
  | d :: l, m, s => by
    have el : ((d :: l).length : Int) = (l.length : Int) + 1 := by rw [List.length_cons]; rfl
    rw [wrM, wrM_find q l, mfindP, el]
    by_cases h : q.volume = v ∧ s ≤ q.sector ∧ q.sector < s + ((l.length : Int) + 1)
    · rw [if_pos h, ix_cons _ _ _ (by omega)]
      by_cases h0 : q.sector = s
      · rw [if_neg (by omega), if_pos (place_ext h.1 h0), if_pos (by omega)]
      · rw [if_pos (by omega), if_neg (by omega), show q.sector - (s + 1) = q.sector - s - 1 by omega]
    · rw [if_neg h, if_neg (by omega), if_neg (fun t => h (by rw [t]; exact ⟨rfl, Int.le_refl _, by show s < _; omega⟩))]
theorem wrM_sum {v : Int} (l : List Sec) (m : List (coalesce_place × Sec)) (s : Int) : (wrM m v s l).length ≤ m.length + l.length := wrM_len l m s
def secN (l : List api_Write) : Nat := (l.map (·.Data.length)).sum
theorem secN_append (a b : List api_Write) : secN (a ++ b) = secN a + secN b := by unfold secN; rw [List.map_append, List.sum_append_nat]
theorem secN_one (w : api_Write) : secN [w] = w.Data.length := by simp [secN]
theorem effM_sum (l : List api_Write) : (effM l).length ≤ secN l := by
  refine snocInd (P := fun l => (effM l).length ≤ secN l) (Nat.le_refl _) (fun l w h => ?_) l
  rw [effM_snoc, secN_append, secN_one]
  have := wrM_sum (v := w.Volume) w.Data (effM l) w.Start
  omega
def behW (w : api_Write) : coalesce_place := ⟨w.Volume, w.Start + (w.Data.length : Int)⟩
def stepR (m : List (coalesce_place × Sec)) (R : List api_Write) (p : coalesce_place) : List api_Write :=
  match R with
  | [] => [⟨p.volume, p.sector, [mget m p sec0]⟩]
  | w :: r => if p = behW w then ⟨w.Volume, w.Start, w.Data ++ [mget m p sec0]⟩ :: r else ⟨p.volume, p.sector, [mget m p sec0]⟩ :: w :: r
theorem clsW_snoc (xs : List api_Write) (w : api_Write) (ys : List Sec) : clsW (xs ++ [w]) ys = xs ++ [⟨w.Volume, w.Start, ys⟩] := by
  have e : (((xs ++ [w]).length : Nat) : Int) - 1 = (xs.length : Int) := by rw [len_snoc]; omega
  have g : ix (xs ++ [w]) (xs.length : Int) = w := by rw [ix_get (by rw [len_snoc]; omega)]; simp
  unfold clsW
  rw [e, g]
  show (xs ++ [w]).set xs.length _ = _
  rw [List.set_append_right _ _ (Nat.le_refl _), Nat.sub_self]; rfl
def InvG (st : coalesce_place × List api_Write × List Sec) : List api_Write → Prop
  | [] => st = (⟨-1, 0⟩, [], [])
  | w :: r => st.1 = behW w ∧ st.2.2 = w.Data ∧ ∃ d, st.2.1 = r.reverse ++ [⟨w.Volume, w.Start, d⟩]
theorem InvG.cls {st : coalesce_place × List api_Write × List Sec} : ∀ {R : List api_Write}, InvG st R → clsW st.2.1 st.2.2 = R.reverse
  | [], h => by rw [show st = (⟨-1, 0⟩, [], []) from h]; rfl
  | w :: r, ⟨_, h2, d, h3⟩ => by rw [h3, clsW_snoc, h2, List.reverse_cons]
theorem grpL_inv (m : List (coalesce_place × Sec)) (ps : List coalesce_place) : (∀ p ∈ ps, 0 ≤ p.volume) → InvG (grpL m ps) (ps.foldl (stepR m) []) := by
  refine snocInd (P := fun ps => (∀ p ∈ ps, 0 ≤ p.volume) → InvG (grpL m ps) (ps.foldl (stepR m) [])) (fun _ => rfl) (fun ps p ih h => ?_) ps
  have ih := ih fun q hq => h q (List.mem_append_left _ hq)
  have hp := h p (by simp)
  rw [grpL_snoc, List.foldl_append]
  show InvG (grpS m (grpL m ps) p) (stepR m (ps.foldl (stepR m) []) p)
  have hc := ih.cls
  generalize ps.foldl (stepR m) [] = R at ih hc ⊢
  generalize grpL m ps = st at ih hc ⊢
  unfold grpS
  cases R with
  | nil =>
    have e : st = (⟨-1, 0⟩, [], []) := ih
    rw [if_pos (by rw [e]; rintro rfl; exact absurd hp (by show ¬ ((0 : Int) ≤ -1); omega)), hc]
    exact ⟨rfl, rfl, [], rfl⟩
  | cons w r =>
    obtain ⟨h1, h2, d, h3⟩ := ih
    unfold stepR
    by_cases hb : p = behW w
    · simp only [if_pos hb]
      rw [if_neg (by rw [h1, hb]; exact fun t => t rfl)]
      refine ⟨?_, by show st.2.2 ++ _ = _; rw [h2], d, h3⟩
      show (⟨p.volume, p.sector + 1⟩ : coalesce_place) = behW ⟨w.Volume, w.Start, w.Data ++ [mget m p sec0]⟩
      unfold behW
      rw [hb, len_snoc]
      exact place_ext rfl (by show w.Start + (w.Data.length : Int) + 1 = w.Start + ((w.Data.length + 1 : Nat) : Int); omega)
    · simp only [if_neg hb]
      rw [if_pos (by rw [h1]; exact hb), hc]
      exact ⟨rfl, rfl, [], rfl⟩
def ltQ (a b : coalesce_place) : Prop := a.volume < b.volume ∨ a.volume = b.volume ∧ a.sector < b.sector
def gapW (y x : api_Write) : Prop := y.Volume < x.Volume ∨ y.Volume = x.Volume ∧ y.Start + (y.Data.length : Int) < x.Start
structure Grp (m : List (coalesce_place × Sec)) (ps : List coalesce_place) (R : List api_Write) : Prop where
  ne : ∀ w ∈ R, 0 < w.Data.length
  gap : R.Pairwise fun x y => gapW y x
  mem : ∀ w ∈ R, ∀ j : Nat, j < w.Data.length → (⟨w.Volume, w.Start + (j : Int)⟩ : coalesce_place) ∈ ps ∧ ix w.Data (j : Int) = mget m ⟨w.Volume, w.Start + (j : Int)⟩ sec0
  cov : ∀ p ∈ ps, ∃ w ∈ R, w.Volume = p.volume ∧ w.Start ≤ p.sector ∧ p.sector < w.Start + (w.Data.length : Int)
  sum : secN R = ps.length
theorem ix_snoc {α : Type} [Dt α] (xs : List α) (x : α) (j : Nat) (h : j < (xs ++ [x]).length) : ix (xs ++ [x]) (j : Int) = if j = xs.length then x else ix xs (j : Int) := by
  rw [len_snoc] at h
  by_cases e : j = xs.length
  · rw [if_pos e, ix_get (by rw [len_snoc]; omega)]; simp [e]
  · rw [if_neg e, ix_get (by rw [len_snoc]; omega), ix_get (by omega), List.getElem_append_left (by omega)]
theorem Grp.step {m : List (coalesce_place × Sec)} {ps : List coalesce_place} {R : List api_Write} (g : Grp m ps R) {p : coalesce_place} (hp : ∀ q ∈ ps, ltQ q p) : Grp m (ps ++ [p]) (stepR m R p) := by
  have one : ∀ (w : api_Write), w ∈ R → w.Volume < p.volume ∨ w.Volume = p.volume ∧ w.Start + (w.Data.length : Int) ≤ p.sector := fun w hw => by
    have h0 := g.ne w hw
    have h1 := hp _ (g.mem w hw (w.Data.length - 1) (by omega)).1
    unfold ltQ at h1
    simp only at h1
    omega
  have nw : ∀ j : Nat, j < [mget m p sec0].length → (⟨p.volume, p.sector + (j : Int)⟩ : coalesce_place) ∈ ps ++ [p] ∧ ix [mget m p sec0] (j : Int) = mget m ⟨p.volume, p.sector + (j : Int)⟩ sec0 := fun j hj => by
    obtain rfl : j = 0 := by simpa using hj
    have e : (⟨p.volume, p.sector + ((0 : Nat) : Int)⟩ : coalesce_place) = p := place_ext rfl (by show p.sector + ((0 : Nat) : Int) = p.sector; omega)
    rw [e]; exact ⟨by simp, rfl⟩
  have old : ∀ w ∈ R, ∀ j : Nat, j < w.Data.length → (⟨w.Volume, w.Start + (j : Int)⟩ : coalesce_place) ∈ ps ++ [p] ∧ ix w.Data (j : Int) = mget m ⟨w.Volume, w.Start + (j : Int)⟩ sec0 := fun w hw j hj => ⟨List.mem_append_left _ (g.mem w hw j hj).1, (g.mem w hw j hj).2⟩
  have push : (∀ w ∈ R, p ≠ behW w) → Grp m (ps ++ [p]) (⟨p.volume, p.sector, [mget m p sec0]⟩ :: R) := fun hb => by
    refine ⟨fun w hw => ?_, List.pairwise_cons.2 ⟨fun y hy => ?_, g.gap⟩, fun w hw => ?_, fun q hq => ?_, ?_⟩
    · rcases List.mem_cons.1 hw with rfl | hw
      · exact Nat.zero_lt_one
      · exact g.ne w hw
    · have h1 := one y hy
      have h2 := hb y hy
      unfold gapW
      rcases h1 with h1 | h1
      · exact .inl h1
      · refine .inr ⟨h1.1, ?_⟩
        show y.Start + (y.Data.length : Int) < p.sector
        have : y.Start + (y.Data.length : Int) ≠ p.sector := fun t => h2 (place_ext h1.1.symm t.symm)
        omega
    · rcases List.mem_cons.1 hw with rfl | hw
      · exact nw
      · exact old w hw
    · rcases List.mem_append.1 hq with hq | hq
      · obtain ⟨w, hw, h⟩ := g.cov q hq
        exact ⟨w, List.mem_cons_of_mem _ hw, h⟩
      · obtain rfl := List.mem_singleton.1 hq
        exact ⟨_, List.mem_cons_self .., rfl, Int.le_refl _, by show q.sector < q.sector + ((1 : Nat) : Int); omega⟩
    · have := g.sum
      unfold secN at *
      rw [List.map_cons, List.sum_cons, this, len_snoc]
      show 1 + ps.length = _
      omega
  cases R with
  | nil => exact push fun w hw => absurd hw List.not_mem_nil
  | cons w r =>
    have gp := List.pairwise_cons.1 g.gap
    unfold stepR
    by_cases hb : p = behW w
    · simp only [if_pos hb]
      have hv : w.Volume = p.volume := by rw [hb]; rfl
      have hsx : w.Start + (w.Data.length : Int) = p.sector := by rw [hb]; rfl
      refine ⟨fun x hx => ?_, List.pairwise_cons.2 ⟨fun y hy => gp.1 y hy, gp.2⟩, fun x hx => ?_, fun q hq => ?_, ?_⟩
      · rcases List.mem_cons.1 hx with rfl | hx
        · show 0 < (w.Data ++ _).length
          rw [len_snoc]; omega
        · exact g.ne x (List.mem_cons_of_mem _ hx)
      · rcases List.mem_cons.1 hx with rfl | hx
        · intro j hj
          have hj : j < (w.Data ++ [mget m p sec0]).length := hj
          show (⟨w.Volume, w.Start + (j : Int)⟩ : coalesce_place) ∈ ps ++ [p] ∧ ix (w.Data ++ [mget m p sec0]) (j : Int) = _
          rw [ix_snoc _ _ _ hj]
          rw [len_snoc] at hj
          by_cases e : j = w.Data.length
          · have ep : (⟨w.Volume, w.Start + (j : Int)⟩ : coalesce_place) = p := place_ext hv (by show w.Start + (j : Int) = _; omega)
            rw [if_pos e]
            exact ⟨by rw [ep]; simp, by show _ = mget m (⟨w.Volume, w.Start + (j : Int)⟩ : coalesce_place) sec0; rw [ep]⟩
          · rw [if_neg e]
            exact old w (List.mem_cons_self ..) j (by omega)
        · exact old x (List.mem_cons_of_mem _ hx)
      · rcases List.mem_append.1 hq with hq | hq
        · obtain ⟨x, hx, h1, h2, h3⟩ := g.cov q hq
          rcases List.mem_cons.1 hx with rfl | hx
          · exact ⟨_, List.mem_cons_self .., h1, h2, by show q.sector < x.Start + ((x.Data ++ [mget m p sec0]).length : Int); rw [len_snoc]; omega⟩
          · exact ⟨x, List.mem_cons_of_mem _ hx, h1, h2, h3⟩
        · obtain rfl := List.mem_singleton.1 hq
          exact ⟨_, List.mem_cons_self .., hv, by show w.Start ≤ _; omega, by show q.sector < w.Start + ((w.Data ++ [mget m q sec0]).length : Int); rw [len_snoc]; omega⟩
      · have := g.sum
        unfold secN at *
        rw [List.map_cons, List.sum_cons] at *
        rw [len_snoc, len_snoc]
        omega
    · simp only [if_neg hb]
      refine push fun y hy => ?_
      rcases List.mem_cons.1 hy with rfl | hy
      · exact hb
      · rintro rfl
        have h1 := gp.1 y hy
        have h2 := one w (List.mem_cons_self ..)
        have h3 := g.ne w (List.mem_cons_self ..)
        unfold gapW at h1
        unfold behW at h2
        simp only at h2
        omega
theorem grp_all (m : List (coalesce_place × Sec)) (ps : List coalesce_place) : ps.Pairwise ltQ → Grp m ps (ps.foldl (stepR m) []) := by
  refine snocInd (P := fun ps => ps.Pairwise ltQ → Grp m ps (ps.foldl (stepR m) [])) (fun _ => ⟨fun w hw => absurd hw List.not_mem_nil, List.Pairwise.nil, fun w hw => absurd hw List.not_mem_nil, fun p hp => absurd hp List.not_mem_nil, rfl⟩) (fun ps p ih h => ?_) ps
  rw [List.foldl_append]
  have h1 := List.pairwise_append.1 h
  exact (ih h1.1).step fun q hq => h1.2.2 q hq p (by simp)
theorem keys_sorted {m : List (coalesce_place × Sec)} (hn : (m.map (·.1)).Nodup) : (sortG pleB (m.map (·.1))).Pairwise ltQ := by
  have h1 := sortG_sorted ple_total ple_trans (m.map (·.1))
  have h2 : (sortG pleB (m.map (·.1))).Nodup := (sortG_perm pleB _).nodup_iff.2 hn
  refine (List.Pairwise.and h1 h2).imp fun {a b} h => ?_
  have := h.1
  unfold pleB at this
  simp only [decide_eq_true_eq] at this
  unfold ltQ
  have : ¬ (a.volume = b.volume ∧ a.sector = b.sector) := fun t => h.2 (place_ext t.1 t.2)
  omega
theorem canL_grp {m : List (coalesce_place × Sec)} (hn : (m.map (·.1)).Nodup) (hv : ∀ q ∈ m, 0 ≤ q.1.volume) : ∃ R, Grp m (sortG pleB (m.map (·.1))) R ∧ canL m = R.reverse := by
  refine ⟨_, grp_all m _ (keys_sorted hn), (grpL_inv m _ fun p hp => ?_).cls⟩
  obtain ⟨q, hq, rfl⟩ := List.mem_map.1 ((sortG_perm pleB _).mem_iff.1 hp)
  exact hv q hq
structure Can (m : List (coalesce_place × Sec)) (ws : List api_Write) : Prop where
  ne : ∀ w ∈ ws, 0 < w.Data.length
  gap : ws.Pairwise gapW
  mem : ∀ w ∈ ws, ∀ j : Nat, j < w.Data.length → mfind m ⟨w.Volume, w.Start + (j : Int)⟩ = some (ix w.Data (j : Int))
  cov : ∀ p d, mfind m p = some d → ∃ w ∈ ws, w.Volume = p.volume ∧ w.Start ≤ p.sector ∧ p.sector < w.Start + (w.Data.length : Int)
  sum : secN ws = m.length
theorem secN_reverse (l : List api_Write) : secN l.reverse = secN l := by
  unfold secN; rw [List.map_reverse, List.sum_reverse]
theorem canL_can {m : List (coalesce_place × Sec)} (hn : (m.map (·.1)).Nodup) (hv : ∀ q ∈ m, 0 ≤ q.1.volume) : Can m (canL m) := by
  obtain ⟨R, g, e⟩ := canL_grp hn hv
  have pm : ∀ p, p ∈ sortG pleB (m.map (·.1)) ↔ ∃ d, mfind m p = some d := fun p => ((sortG_perm pleB _).mem_iff).trans (mkeys_mem p m)
  rw [e]
  refine ⟨fun w hw => g.ne w (List.mem_reverse.1 hw), List.pairwise_reverse.2 g.gap, fun w hw j hj => ?_, fun p d h => ?_, ?_⟩
  · obtain ⟨h1, h2⟩ := g.mem w (List.mem_reverse.1 hw) j hj
    obtain ⟨d, hd⟩ := (pm _).1 h1
    unfold mget at h2
    rw [hd] at h2
    rw [hd, h2]
  · obtain ⟨w, hw, h⟩ := g.cov p ((pm p).2 ⟨d, h⟩)
    exact ⟨w, List.mem_reverse.2 hw, h⟩
  · rw [secN_reverse, g.sum, (sortG_perm pleB _).length_eq, List.length_map]
theorem eff_in {sizes : List Int} (hs : ¬ sizesE sizes ≠ 0) {l : List api_Write} (hf : ∀ w ∈ l, fitW sizes w = 0) : ∀ q ∈ effM l, 0 ≤ q.1.volume ∧ q.1.volume < (sizes.length : Int) ∧ 0 ≤ q.1.sector ∧ q.1.sector < ix sizes q.1.volume := by
  revert hf
  refine snocInd (P := fun l => (∀ w ∈ l, fitW sizes w = 0) → ∀ q ∈ effM l, 0 ≤ q.1.volume ∧ q.1.volume < (sizes.length : Int) ∧ 0 ≤ q.1.sector ∧ q.1.sector < ix sizes q.1.volume) (fun _ q hq => absurd hq List.not_mem_nil) (fun l w ih h => ?_) l
  have ih := ih fun x hx => h x (List.mem_append_left _ hx)
  obtain ⟨v, s, hw⟩ := fitW_of hs (h w (by simp))
  have e1 := hw.vol
  have e2 := hw.start
  have e3 := hw.hv
  have e4 := hw.le
  rw [effM_snoc]
  refine wrM_all (p := fun c => 0 ≤ c.volume ∧ c.volume < (sizes.length : Int) ∧ 0 ≤ c.sector ∧ c.sector < ix sizes c.volume) _ _ _ (fun j hj => ?_) ih
  rw [e1, e2]
  exact ⟨by show (0 : Int) ≤ (v : Int); omega, by show (v : Int) < _; omega, by show (0 : Int) ≤ (s : Int) + (j : Int); omega, by show (s : Int) + (j : Int) < ix sizes (v : Int); omega⟩
theorem mkey_of {m : List (coalesce_place × Sec)} {p : coalesce_place} {d : Sec} (h : mfind m p = some d) : ∃ q ∈ m, q.1 = p := by
  have := (mkeys_mem p m).2 ⟨d, h⟩
  obtain ⟨q, hq, e⟩ := List.mem_map.1 this
  exact ⟨q, hq, e⟩
theorem can_eff {sizes : List Int} (hs : ¬ sizesE sizes ≠ 0) {l : List api_Write} (hf : ∀ w ∈ l, fitW sizes w = 0) : Can (effM l) (canL (effM l)) := canL_can (effM_nodup l) fun q hq => (eff_in hs hf q hq).1
def orK {S R : Type} (a : S → Prop) (b : R → Prop) : S ⊕ R → Prop
 | .inl s => a s
 | .inr r => b r
def loopS {S R : Type} (step : S → Option (S ⊕ R)) : Nat → S → Option R
 | 0, _ => none
 | n + 1, s => match step s with
  | none => none
  | some (.inl s') => loopS step n s'
  | some (.inr r) => some r
theorem LoopW.of_S {S R : Type} {step : S → (S → Prop) → Prop} {stepS : S → Option (S ⊕ R)} {K : R → Prop} (hs : ∀ s q rec, stepS s = some q → orK rec K q → step s rec) : ∀ (n : Nat) (s : S) {o : R}, loopS stepS n s = some o → K o → LoopW step s := by
  intro n s o h hK
  refine ⟨n, ?_⟩
  induction n generalizing s with
  | zero => cases h
  | succ n ih =>
    unfold loopS at h
    split at h
    · cases h
    · rename_i s' e
      exact hs s _ _ e (ih s' h)
    · rename_i r e
      cases h
      exact hs s _ _ e hK
theorem ofBind {α β : Type} {x : Option α} {f : α → Option β} {o : β} (h : Option.bind x f = some o) : ∃ v, x = some v ∧ f v = some o := Option.bind_eq_some_iff.1 h
theorem ofIf {α : Type} {p : Prop} [Decidable p] {x : Option α} {o : α} (h : (if p then x else none) = some o) : p ∧ x = some o := by
  by_cases hp : p
  · rw [if_pos hp] at h; exact ⟨hp, h⟩
  · rw [if_neg hp] at h; cases h
theorem ofT {α : Type} {p : Prop} [Decidable p] {x y : Option α} {o : α} (hp : p) (h : (if p then x else y) = some o) : x = some o := by rw [if_pos hp] at h; exact h
theorem ofF {α : Type} {p : Prop} [Decidable p] {x y : Option α} {o : α} (hp : ¬ p) (h : (if p then x else y) = some o) : y = some o := by rw [if_neg hp] at h; exact h
def bothS {α : Type} [DecidableEq α] (b : Bool) (x y : Option α) : Option α := if b = true then (if x = y then x else none) else y
theorem ofBoth {α : Type} [DecidableEq α] {b : Bool} {x y : Option α} {o : α} (h : bothS b x y = some o) : (b = true → x = some o) ∧ y = some o := by
  unfold bothS at h
  by_cases hb : b = true
  · rw [if_pos hb] at h
    by_cases he : x = y
    · rw [if_pos he] at h; exact ⟨fun _ => h, he ▸ h⟩
    · rw [if_neg he] at h; cases h
  · rw [if_neg hb] at h; exact ⟨fun q => absurd q hb, h⟩
theorem lfS {α : Type} {K : α → Prop} {a o : α} (h : some a = some o) (hK : K o) : K a := by
  cases h; exact hK
theorem adS {α : Type} {p : Prop} [Decidable p] {x : Option α} {o : α} {B : Prop} (h : (if p then x else none) = some o) (b : x = some o → B) : p ∧ B := ⟨(ofIf h).1, b (ofIf h).2⟩
theorem ifS {α : Type} {p : Prop} [Decidable p] {x y : Option α} {o : α} {A B : Prop} (h : (if p then x else y) = some o) (a : x = some o → A) (b : y = some o → B) : (p → A) ∧ (¬ p → B) := ⟨fun c => a (ofT c h), fun c => b (ofF c h)⟩
theorem mpS {α β : Type} {g : α → β} {x : Option α} {o : β} {G : Prop} (h : Option.map g x = some o) (k : ∀ v, x = some v → g v = o → G) : G := by
  obtain ⟨v, h1, h2⟩ := Option.map_eq_some_iff.1 h
  exact k v h1 h2
theorem blS {α β : Type} {x : Option α} {f : α → Option β} {o : β} {G : Prop} (h : Option.bind x f = some o) (k : ∀ v, x = some v → f v = some o → G) : G := by
  obtain ⟨v, h1, h2⟩ := ofBind h
  exact k v h1 h2
instance decI (x : Int) : Decidable (inI x) := inferInstanceAs (Decidable (_ ∧ _))
instance decX (i : Int) (n : Nat) : Decidable (inX i n) := inferInstanceAs (Decidable (_ ∧ _))
instance decS (a b : Int) (n : Nat) : Decidable (inS a b n) := inferInstanceAs (Decidable (_ ∧ _))
instance decL (n b : Nat) : Decidable (lenOk n b) := inferInstanceAs (Decidable (_ ∧ _))
theorem nl2S {α : Type} [DecidableEq α] {p : Prop} [Decidable p] {x y : Option α} {o : α} {A B : Prop} (h : bothS (decide p) x y = some o) (a : x = some o → A) (b : y = some o → B) : (p → A) ∧ B := ⟨fun c => a ((ofBoth h).1 (decide_eq_true c)), b (ofBoth h).2⟩
def genS {S Y R : Type} (step : S → Option (List Y × (S ⊕ R))) : Nat → S → Option (List Y × R)
 | 0, _ => none
 | n + 1, s => match step s with
  | none => none
  | some (ys, .inr o) => some (ys, o)
  | some (ys, .inl s') => (genS step n s').map fun q => (ys ++ q.1, q.2)
theorem LoopW.of_G {S Y R : Type} {step : (List Y × S) → ((List Y × S) → Prop) → Prop} {stepS : S → Option (List Y × (S ⊕ R))} {K : List Y → R → Prop} (hs : ∀ s ys q r rec, stepS s = some (ys, q) → orK (fun s => rec (r, s)) (K r) q → step (ys ++ r, s) rec) : ∀ (n : Nat) (s : S) {ys : List Y} {o : R} (r : List Y), genS stepS n s = some (ys, o) → K r o → LoopW step (ys ++ r, s) := by
  intro n s ys o r h hK
  refine ⟨n, ?_⟩
  induction n generalizing s ys with
  | zero => cases h
  | succ n ih =>
    unfold genS at h
    split at h
    · cases h
    · rename_i ys o e
      cases h
      exact hs s _ _ _ (LoopN step n) e hK
    · rename_i ys s' e
      obtain ⟨v, h1, h2⟩ := Option.map_eq_some_iff.1 h
      cases h2
      rw [List.append_assoc]
      exact hs s _ _ _ (LoopN step n) e (show LoopN step n (v.1 ++ r, s') from ih s' h1)
def Z105 (x0 : Int) : Option (Bool) :=
 if x0 < 1 then
  some (true)
 else
  some (decide (4096 < x0))
theorem image_checkSizes_1_sound (x0 : Int) {Φ : Bool → Prop} {o} (h : Z105 x0 = some o) (hK : Φ o) : Z0 x0 Φ := by
  unfold Z105 at h
  unfold Z0
  exact ifS h (fun h => have t := lfS h hK; t) fun h => have t := lfS h hK; t
def Z106 (x0 : List Int) : (Int) → Option ((Int) ⊕ (Int))
 | v1 =>
  if v1 < (x0.length : Int) then
   if inX v1 x0.length then
   Option.bind (Z105 (ix x0 v1)) fun v2 =>
   if v2 = true then
    if 0 ≤ v1 then
     some (.inr 2)
    else
     some (.inr 0)
   else
    if inI (v1 + 1) then
    some (.inl (v1 + 1))
    else none
   else none
  else
   if 0 ≤ ((-1) : Int) then
    some (.inr 2)
   else
    some (.inr 0)
theorem image_checkSizes_L1_sound (x0 : List Int) (s : Int) {Φ : Int → Prop} {rec1 : (Int) → Prop} {o} (h : Z106 x0 s = some o) (hK : (orK rec1 Φ) o) : Z1 x0 Φ s rec1 := by
  unfold Z106 at h
  unfold Z1
  exact ifS h (fun h => adS h fun h => blS h fun _ hv h => image_checkSizes_1_sound _ hv (ifS h (fun h => ifS h (fun h => have t := lfS h hK; t) fun h => have t := lfS h hK; t) fun h => adS h fun h => have t := lfS h hK; t)) fun h => ifS h (fun h => have t := lfS h hK; t) fun h => have t := lfS h hK; t
def Z107 (x0 : List Int) : Option (Int) :=
 if (x0.length : Int) < 1 then
  some (6)
 else
  if 8 < (x0.length : Int) then
   some (6)
  else
   loopS (Z106 x0) 100000 0
theorem image_checkSizes_sound (x0 : List Int) {Φ : Int → Prop} {o} (h : Z107 x0 = some o) (hK : Φ o) : Z2 x0 Φ := by
  unfold Z107 at h
  unfold Z2
  exact ifS h (fun h => have t := lfS h hK; t) fun h => ifS h (fun h => have t := lfS h hK; t) fun h => LoopW.of_S (fun s q rec hs hq => image_checkSizes_L1_sound _ s hs hq) _ _ h hK
def image_New_1_S (x0 : Int) : Option (List Sec) :=
 if 0 ≤ x0 then
 if lenOk x0.toNat 8 then
 some ((List.replicate x0.toNat (sec0 : Sec)))
 else none
 else none
theorem image_New_1_sound (x0 : Int) {Φ : List Sec → Prop} {o} (h : image_New_1_S x0 = some o) (hK : Φ o) : image_New_1_W x0 Φ := by
  unfold image_New_1_S at h
  unfold image_New_1_W
  exact adS h fun h => adS h fun h => have t := lfS h hK; t
def Z108 (x0 : List Int) : (Int × List (List Sec)) → Option ((Int × List (List Sec)) ⊕ (List (List Sec) × Int))
 | (v2, v3) =>
  if v2 < (x0.length : Int) then
   if inX v2 x0.length then
   Option.bind (image_New_1_S (ix x0 v2)) fun v4 =>
   if lenOk (v3 ++ ([v4] : List (List Sec))).length 24 then
   if inI (v2 + 1) then
   some (.inl ((v2 + 1), (v3 ++ ([v4] : List (List Sec)))))
   else none
   else none
   else none
  else
   some (.inr (v3, 0))
theorem image_New_L1_sound (x0 : List Int) (s : Int × List (List Sec)) {Φ : List (List Sec) × Int → Prop} {rec1 : (Int × List (List Sec)) → Prop} {o} (h : Z108 x0 s = some o) (hK : (orK rec1 Φ) o) : image_New_L1 x0 Φ s rec1 := by
  obtain ⟨v2, v3⟩ := s
  unfold Z108 at h
  unfold image_New_L1
  exact ifS h (fun h => adS h fun h => blS h fun _ hv h => image_New_1_sound _ hv (adS h fun h => adS h fun h => have t := lfS h hK; t)) fun h => have t := lfS h hK; t
def image_New_S (x0 : List Int) : Option (List (List Sec) × Int) :=
 Option.bind (Z107 x0) fun v1 =>
 if v1 ≠ 0 then
  some ((([] : List (List Sec)), v1))
 else
  if 0 ≤ (x0.length : Int) then
  if lenOk (x0.length : Int).toNat 24 then
  loopS (Z108 x0) 100000 (0, ([] : List (List Sec)))
  else none
  else none
theorem image_New_sound (x0 : List Int) {Φ : List (List Sec) × Int → Prop} {o} (h : image_New_S x0 = some o) (hK : Φ o) : image_New_W x0 Φ := by
  unfold image_New_S at h
  unfold image_New_W
  exact blS h fun _ hv h => image_checkSizes_sound _ hv (ifS h (fun h => have t := lfS h hK; t) fun h => adS h fun h => adS h fun h => LoopW.of_S (fun s q rec hs hq => image_New_L1_sound _ s hs hq) _ _ h hK)
def cycle_in_S (x0 : Int) (x1 : Int) (x2 : Int) : Option (Bool) :=
 if x1 ≤ x0 then
  some (decide (x0 ≤ x2))
 else
  some (false)
theorem cycle_in_sound (x0 : Int) (x1 : Int) (x2 : Int) {Φ : Bool → Prop} {o} (h : cycle_in_S x0 x1 x2 = some o) (hK : Φ o) : cycle_in_W x0 x1 x2 Φ := by
  unfold cycle_in_S at h
  unfold cycle_in_W
  exact ifS h (fun h => have t := lfS h hK; t) fun h => have t := lfS h hK; t
def Z109 (x0 : List Int) : Option (List Int) :=
 bothS (decide (x0 = [])) (
  some (([] : List Int))) (
  if lenOk (([] : List Int) ++ x0).length 8 then
  some ((([] : List Int) ++ x0))
  else none)
theorem slices_Clone_int_int_sound (x0 : List Int) {Φ : List Int → Prop} {o} (h : Z109 x0 = some o) (hK : Φ o) : Z3 x0 Φ := by
  unfold Z109 at h
  unfold Z3
  exact nl2S h (fun h => have t := lfS h hK; t) fun h => adS h fun h => have t := lfS h hK; t
def cycle_Open_S (x0 : List Int) (x1 : Int) (x2 : Int) : Option (api_Capture × Int) :=
 Option.bind (image_New_S x0) fun v1 =>
 if v1.2 ≠ 0 then
  some (((api_Capture.mk 0 ([] : List Int) ([] : List Int) ([] : List Int) ([] : List api_Write)), v1.2))
 else
  Option.bind (cycle_in_S x1 1 8) fun v2 =>
  if ¬ (v2 = true) then
   some (((api_Capture.mk 0 ([] : List Int) ([] : List Int) ([] : List Int) ([] : List api_Write)), 6))
  else
   Option.bind (cycle_in_S x2 0 1073741823) fun v3 =>
   if ¬ (v3 = true) then
    some (((api_Capture.mk 0 ([] : List Int) ([] : List Int) ([] : List Int) ([] : List api_Write)), 2))
   else
    Option.bind (Z109 x0) fun z =>
    let v4 : List Int × Unit := (z, ())
    if 0 ≤ x1 then
    if lenOk x1.toNat 8 then
    some (((api_Capture.mk x2 v4.1 (List.replicate x1.toNat (0 : Int)) ([] : List Int) ([] : List api_Write)), 0))
    else none
    else none
theorem cycle_Open_sound (x0 : List Int) (x1 : Int) (x2 : Int) {Φ : api_Capture × Int → Prop} {o} (h : cycle_Open_S x0 x1 x2 = some o) (hK : Φ o) : cycle_Open_W x0 x1 x2 Φ := by
  unfold cycle_Open_S at h
  unfold cycle_Open_W
  exact blS h fun _ hv h => image_New_sound _ hv (ifS h (fun h => have t := lfS h hK; t) fun h => blS h fun _ hv h => cycle_in_sound _ _ _ hv (ifS h (fun h => have t := lfS h hK; t) fun h => blS h fun _ hv h => cycle_in_sound _ _ _ hv (ifS h (fun h => have t := lfS h hK; t) fun h => blS h fun _ hv h => ⟨_, slices_Clone_int_int_sound _ hv rfl, adS h fun h => adS h fun h => have t := lfS h hK; t⟩)))
def Z110 (x0 : Int) (x1 : Int) (x2 : List (BitVec 8)) : (Int × List Sec) → Option ((Int × List Sec) ⊕ (api_Write))
 | (v1, v2) =>
  if v1 < (x2.length : Int) then
   if inX v1 x2.length then
   if lenOk (v2 ++ ([(Sec.mk (ix x2 v1) (0#8) (0#8) (0#8) (0#8) (0#8) (0#8) (0#8))] : List Sec)).length 8 then
   if inI (v1 + 1) then
   some (.inl ((v1 + 1), (v2 ++ ([(Sec.mk (ix x2 v1) (0#8) (0#8) (0#8) (0#8) (0#8) (0#8) (0#8))] : List Sec))))
   else none
   else none
   else none
  else
   some (.inr (api_Write.mk x0 x1 v2))
theorem law23_write_L1_sound (x0 : Int) (x1 : Int) (x2 : List (BitVec 8)) (s : Int × List Sec) {Φ : api_Write → Prop} {rec1 : (Int × List Sec) → Prop} {o} (h : Z110 x0 x1 x2 s = some o) (hK : (orK rec1 Φ) o) : Z4 x0 x1 x2 Φ s rec1 := by
  obtain ⟨v1, v2⟩ := s
  unfold Z110 at h
  unfold Z4
  exact ifS h (fun h => adS h fun h => adS h fun h => adS h fun h => have t := lfS h hK; t) fun h => have t := lfS h hK; t
def law23_write_S (x0 : Int) (x1 : Int) (x2 : List (BitVec 8)) : Option (api_Write) :=
 loopS (Z110 x0 x1 x2) 100000 (0, ([] : List Sec))
theorem law23_write_sound (x0 : Int) (x1 : Int) (x2 : List (BitVec 8)) {Φ : api_Write → Prop} {o} (h : law23_write_S x0 x1 x2 = some o) (hK : Φ o) : law23_write_W x0 x1 x2 Φ := by
  unfold law23_write_S at h
  unfold law23_write_W
  exact LoopW.of_S (fun s q rec hs hq => law23_write_L1_sound _ _ _ s hs hq) _ _ h hK
def Z111 (x0 : Int) : Option (Bool) :=
 Option.bind (cycle_in_S x0 0 1073741824) fun v1 =>
 some (decide (¬ (v1 = true)))
theorem cycle_positions_1_sound (x0 : Int) {Φ : Bool → Prop} {o} (h : Z111 x0 = some o) (hK : Φ o) : Z5 x0 Φ := by
  unfold Z111 at h
  unfold Z5
  exact blS h fun _ hv h => cycle_in_sound _ _ _ hv (have t := lfS h hK; t)
def Z112 (x0 : List Int) : (Int) → Option ((Int) ⊕ (Int))
 | v2 =>
  if v2 < (x0.length : Int) then
   if inX v2 x0.length then
   Option.bind (Z111 (ix x0 v2)) fun v3 =>
   if v3 = true then
    if 0 ≤ v2 then
     some (.inr 2)
    else
     some (.inr 0)
   else
    if inI (v2 + 1) then
    some (.inl (v2 + 1))
    else none
   else none
  else
   if 0 ≤ ((-1) : Int) then
    some (.inr 2)
   else
    some (.inr 0)
theorem cycle_positions_L1_sound (x0 : List Int) (s : Int) {Φ : Int → Prop} {rec1 : (Int) → Prop} {o} (h : Z112 x0 s = some o) (hK : (orK rec1 Φ) o) : Z6 x0 Φ s rec1 := by
  unfold Z112 at h
  unfold Z6
  exact ifS h (fun h => adS h fun h => blS h fun _ hv h => cycle_positions_1_sound _ hv (ifS h (fun h => ifS h (fun h => have t := lfS h hK; t) fun h => have t := lfS h hK; t) fun h => adS h fun h => have t := lfS h hK; t)) fun h => ifS h (fun h => have t := lfS h hK; t) fun h => have t := lfS h hK; t
def Z113 (x0 : List Int) (x1 : Int) : Option (Int) :=
 Option.bind (cycle_in_S (x0.length : Int) x1 8) fun v1 =>
 if ¬ (v1 = true) then
  some (6)
 else
  loopS (Z112 x0) 100000 0
theorem cycle_positions_sound (x0 : List Int) (x1 : Int) {Φ : Int → Prop} {o} (h : Z113 x0 x1 = some o) (hK : Φ o) : Z7 x0 x1 Φ := by
  unfold Z113 at h
  unfold Z7
  exact blS h fun _ hv h => cycle_in_sound _ _ _ hv (ifS h (fun h => have t := lfS h hK; t) fun h => LoopW.of_S (fun s q rec hs hq => cycle_positions_L1_sound _ s hs hq) _ _ h hK)
def Z114 (x0 : List Sec) : Option (Int) :=
 some ((x0.length : Int))
theorem image_sizes_1_sound (x0 : List Sec) {Φ : Int → Prop} {o} (h : Z114 x0 = some o) (hK : Φ o) : Z8 x0 Φ := by
  unfold Z114 at h
  unfold Z8
  exact have t := lfS h hK; t
def Z115 (x0 : List (List Sec)) : (Int × List Int) → Option ((Int × List Int) ⊕ (List Int))
 | (v1, v2) =>
  if v1 < (x0.length : Int) then
   if inX v1 x0.length then
   Option.bind (Z114 (ix x0 v1)) fun v3 =>
   if lenOk (v2 ++ ([v3] : List Int)).length 8 then
   if inI (v1 + 1) then
   some (.inl ((v1 + 1), (v2 ++ ([v3] : List Int))))
   else none
   else none
   else none
  else
   some (.inr v2)
theorem image_sizes_L1_sound (x0 : List (List Sec)) (s : Int × List Int) {Φ : List Int → Prop} {rec1 : (Int × List Int) → Prop} {o} (h : Z115 x0 s = some o) (hK : (orK rec1 Φ) o) : Z9 x0 Φ s rec1 := by
  obtain ⟨v1, v2⟩ := s
  unfold Z115 at h
  unfold Z9
  exact ifS h (fun h => adS h fun h => blS h fun _ hv h => image_sizes_1_sound _ hv (adS h fun h => adS h fun h => have t := lfS h hK; t)) fun h => have t := lfS h hK; t
def image_sizes_S (x0 : List (List Sec)) : Option (List Int) :=
 if 0 ≤ (x0.length : Int) then
 if lenOk (x0.length : Int).toNat 8 then
 loopS (Z115 x0) 100000 (0, ([] : List Int))
 else none
 else none
theorem image_sizes_sound (x0 : List (List Sec)) {Φ : List Int → Prop} {o} (h : image_sizes_S x0 = some o) (hK : Φ o) : image_sizes_W x0 Φ := by
  unfold image_sizes_S at h
  unfold image_sizes_W
  exact adS h fun h => adS h fun h => LoopW.of_S (fun s q rec hs hq => image_sizes_L1_sound _ s hs hq) _ _ h hK
def image_Check_S (x0 : List (List Sec)) : Option (Int) :=
 Option.bind (image_sizes_S x0) fun v1 =>
 Option.bind (Z107 v1) fun v2 =>
 some (v2)
theorem image_Check_sound (x0 : List (List Sec)) {Φ : Int → Prop} {o} (h : image_Check_S x0 = some o) (hK : Φ o) : image_Check_W x0 Φ := by
  unfold image_Check_S at h
  unfold image_Check_W
  exact blS h fun _ hv h => image_sizes_sound _ hv (blS h fun _ hv h => image_checkSizes_sound _ hv (have t := lfS h hK; t))
def Z116 (x0 : List (List Sec)) (x1 : api_Write) : (Bool) → Option (Int)
 | v1 =>
  if v1 = true then
   some (7)
  else
   if (x1.Data.length : Int) = 0 then
    some (1)
   else
    if x1.Start < 0 then
     some (2)
    else
     if inX x1.Volume x0.length then
     if inI (((ix x0 x1.Volume).length : Int) - (x1.Data.length : Int)) then
     if (((ix x0 x1.Volume).length : Int) - (x1.Data.length : Int)) < x1.Start then
      some (2)
     else
      some (0)
     else none
     else none
theorem image_fits_J1_sound (x0 : List (List Sec)) (x1 : api_Write) (s : Bool) {Φ : Int → Prop} {o} (h : Z116 x0 x1 s = some o) (hK : Φ o) : image_fits_J1 x0 x1 Φ s := by
  unfold Z116 at h
  unfold image_fits_J1
  exact ifS h (fun h => have t := lfS h hK; t) fun h => ifS h (fun h => have t := lfS h hK; t) fun h => ifS h (fun h => have t := lfS h hK; t) fun h => adS h fun h => adS h fun h => ifS h (fun h => have t := lfS h hK; t) fun h => have t := lfS h hK; t
def image_fits_S (x0 : List (List Sec)) (x1 : api_Write) : Option (Int) :=
 if x1.Volume < 0 then
  Z116 x0 x1 true
 else
  Z116 x0 x1 (decide ((x0.length : Int) ≤ x1.Volume))
theorem image_fits_sound (x0 : List (List Sec)) (x1 : api_Write) {Φ : Int → Prop} {o} (h : image_fits_S x0 x1 = some o) (hK : Φ o) : image_fits_W x0 x1 Φ := by
  unfold image_fits_S at h
  unfold image_fits_W
  exact ifS h (fun h => image_fits_J1_sound _ _ _ h hK) fun h => image_fits_J1_sound _ _ _ h hK
def image_Fits_S (x0 : List (List Sec)) (x1 : api_Write) : Option (Int) :=
 Option.bind (image_Check_S x0) fun v1 =>
 if v1 ≠ 0 then
  some (v1)
 else
  Option.bind (image_fits_S x0 x1) fun v2 =>
  some (v2)
theorem image_Fits_sound (x0 : List (List Sec)) (x1 : api_Write) {Φ : Int → Prop} {o} (h : image_Fits_S x0 x1 = some o) (hK : Φ o) : image_Fits_W x0 x1 Φ := by
  unfold image_Fits_S at h
  unfold image_Fits_W
  exact blS h fun _ hv h => image_Check_sound _ hv (ifS h (fun h => have t := lfS h hK; t) fun h => blS h fun _ hv h => image_fits_sound _ _ hv (have t := lfS h hK; t))
def Z117 (x0 : List Sec) : Option (List Sec) :=
 bothS (decide (x0 = [])) (
  some (([] : List Sec))) (
  if lenOk (([] : List Sec) ++ x0).length 8 then
  some ((([] : List Sec) ++ x0))
  else none)
theorem slices_Clone_api_Sector_api_Sector_sound (x0 : List Sec) {Φ : List Sec → Prop} {o} (h : Z117 x0 = some o) (hK : Φ o) : Z10 x0 Φ := by
  unfold Z117 at h
  unfold Z10
  exact nl2S h (fun h => have t := lfS h hK; t) fun h => adS h fun h => have t := lfS h hK; t
def Z118 (x0 : api_Write) : Option (api_Write) :=
 Option.bind (Z117 x0.Data) fun v1 =>
 some ((api_Write.mk x0.Volume x0.Start v1))
theorem cycle_copied_sound (x0 : api_Write) {Φ : api_Write → Prop} {o} (h : Z118 x0 = some o) (hK : Φ o) : Z11 x0 Φ := by
  unfold Z118 at h
  unfold Z11
  exact blS h fun _ hv h => slices_Clone_api_Sector_api_Sector_sound _ hv (have t := lfS h hK; t)
def Z119 (x0 : api_Capture) (v1 : List Int × Unit) (v2 : List Int × Unit) (v3 : List Int × Unit) : (Int × List api_Write) → Option ((Int × List api_Write) ⊕ (api_Capture))
 | (v4, v5) =>
  if v4 < (x0.Writes.length : Int) then
   if inX v4 x0.Writes.length then
   Option.bind (Z118 (ix x0.Writes v4)) fun v6 =>
   if lenOk (v5 ++ ([v6] : List api_Write)).length 40 then
   if inI (v4 + 1) then
   some (.inl ((v4 + 1), (v5 ++ ([v6] : List api_Write))))
   else none
   else none
   else none
  else
   some (.inr (api_Capture.mk x0.Number v1.1 v2.1 v3.1 v5))
theorem cycle_cloned_L1_sound (x0 : api_Capture) (v1 : List Int × Unit) (v2 : List Int × Unit) (v3 : List Int × Unit) (s : Int × List api_Write) {Φ : api_Capture → Prop} {rec1 : (Int × List api_Write) → Prop} {o} (h : Z119 x0 v1 v2 v3 s = some o) (hK : (orK rec1 Φ) o) : Z12 x0 v1 v2 v3 Φ s rec1 := by
  obtain ⟨v4, v5⟩ := s
  unfold Z119 at h
  unfold Z12
  exact ifS h (fun h => adS h fun h => blS h fun _ hv h => cycle_copied_sound _ hv (adS h fun h => adS h fun h => have t := lfS h hK; t)) fun h => have t := lfS h hK; t
def Z120 (x0 : api_Capture) : Option (api_Capture) :=
 Option.bind (Z109 x0.Sizes) fun z =>
 let v1 : List Int × Unit := (z, ())
 Option.bind (Z109 x0.Positions) fun z =>
 let v2 : List Int × Unit := (z, ())
 Option.bind (Z109 x0.Nodes) fun z =>
 let v3 : List Int × Unit := (z, ())
 loopS (Z119 x0 v1 v2 v3) 100000 (0, ([] : List api_Write))
theorem cycle_cloned_sound (x0 : api_Capture) {Φ : api_Capture → Prop} {o} (h : Z120 x0 = some o) (hK : Φ o) : Z13 x0 Φ := by
  unfold Z120 at h
  unfold Z13
  exact blS h fun _ hv h => ⟨_, slices_Clone_int_int_sound _ hv rfl, blS h fun _ hv h => ⟨_, slices_Clone_int_int_sound _ hv rfl, blS h fun _ hv h => ⟨_, slices_Clone_int_int_sound _ hv rfl, LoopW.of_S (fun s q rec hs hq => cycle_cloned_L1_sound _ _ _ _ s hs hq) _ _ h hK⟩⟩⟩
def Z121 (x0 : api_Capture) (x1 : Int) (x2 : api_Write) (v1 : List (List Sec) × Int) : (Int) → Option ((Int) ⊕ (api_Capture × Int))
 | v4 =>
  if v4 < (x0.Writes.length : Int) then
   if inX v4 x0.Writes.length then
   if inX v4 x0.Nodes.length then
   if inI ((x0.Positions.length : Int) - 1) then
   Option.bind (cycle_in_S (ix x0.Nodes v4) 0 ((x0.Positions.length : Int) - 1)) fun v5 =>
   if ¬ (v5 = true) then
    some (.inr ((api_Capture.mk 0 ([] : List Int) ([] : List Int) ([] : List Int) ([] : List api_Write)), 7))
   else
    Option.bind (image_Fits_S v1.1 (ix x0.Writes v4)) fun v6 =>
    if ¬ (v6 = 0) then
     some (.inr ((api_Capture.mk 0 ([] : List Int) ([] : List Int) ([] : List Int) ([] : List api_Write)), v6))
    else
     if inI (v4 + 1) then
     some (.inl (v4 + 1))
     else none
   else none
   else none
   else none
  else
   if inI ((x0.Positions.length : Int) - 1) then
   Option.bind (cycle_in_S x1 0 ((x0.Positions.length : Int) - 1)) fun v7 =>
   if ¬ (v7 = true) then
    some (.inr ((api_Capture.mk 0 ([] : List Int) ([] : List Int) ([] : List Int) ([] : List api_Write)), 7))
   else
    Option.bind (image_Fits_S v1.1 x2) fun v8 =>
    if ¬ (v8 = 0) then
     some (.inr ((api_Capture.mk 0 ([] : List Int) ([] : List Int) ([] : List Int) ([] : List api_Write)), v8))
    else
     if ¬ ((x0.Writes.length : Int) < 4096) then
      some (.inr ((api_Capture.mk 0 ([] : List Int) ([] : List Int) ([] : List Int) ([] : List api_Write)), 11))
     else
      Option.bind (Z120 x0) fun v9 =>
      if lenOk (v9.Nodes ++ ([x1] : List Int)).length 8 then
      Option.bind (Z118 x2) fun z =>
      let v10 : api_Write × Unit := (z, ())
      if lenOk (v9.Writes ++ ([v10.1] : List api_Write)).length 40 then
      some (.inr ((api_Capture.mk v9.Number v9.Sizes v9.Positions (v9.Nodes ++ ([x1] : List Int)) (v9.Writes ++ ([v10.1] : List api_Write))), 0))
      else none
      else none
   else none
theorem cycle_Add_L1_sound (x0 : api_Capture) (x1 : Int) (x2 : api_Write) (v1 : List (List Sec) × Int) (s : Int) {Φ : api_Capture × Int → Prop} {rec1 : (Int) → Prop} {o} (h : Z121 x0 x1 x2 v1 s = some o) (hK : (orK rec1 Φ) o) : cycle_Add_L1 x0 x1 x2 v1 Φ s rec1 := by
  unfold Z121 at h
  unfold cycle_Add_L1
  exact ifS h (fun h => adS h fun h => adS h fun h => adS h fun h => blS h fun _ hv h => cycle_in_sound _ _ _ hv (ifS h (fun h => have t := lfS h hK; t) fun h => blS h fun _ hv h => image_Fits_sound _ _ hv (ifS h (fun h => have t := lfS h hK; t) fun h => adS h fun h => have t := lfS h hK; t))) fun h => adS h fun h => blS h fun _ hv h => cycle_in_sound _ _ _ hv (ifS h (fun h => have t := lfS h hK; t) fun h => blS h fun _ hv h => image_Fits_sound _ _ hv (ifS h (fun h => have t := lfS h hK; t) fun h => ifS h (fun h => have t := lfS h hK; t) fun h => blS h fun _ hv h => cycle_cloned_sound _ hv (adS h fun h => blS h fun _ hv h => ⟨_, cycle_copied_sound _ hv rfl, adS h fun h => have t := lfS h hK; t⟩)))
def cycle_Add_S (x0 : api_Capture) (x1 : Int) (x2 : api_Write) : Option (api_Capture × Int) :=
 Option.bind (image_New_S x0.Sizes) fun v1 =>
 if ¬ (v1.2 = 0) then
  some (((api_Capture.mk 0 ([] : List Int) ([] : List Int) ([] : List Int) ([] : List api_Write)), v1.2))
 else
  Option.bind (cycle_in_S x0.Number 0 1073741823) fun v2 =>
  if ¬ (v2 = true) then
   some (((api_Capture.mk 0 ([] : List Int) ([] : List Int) ([] : List Int) ([] : List api_Write)), 2))
  else
   Option.bind (Z113 x0.Positions 1) fun v3 =>
   if ¬ (v3 = 0) then
    some (((api_Capture.mk 0 ([] : List Int) ([] : List Int) ([] : List Int) ([] : List api_Write)), v3))
   else
    if (x0.Nodes.length : Int) = (x0.Writes.length : Int) then
     if ¬ ((x0.Writes.length : Int) ≤ 4096) then
      some (((api_Capture.mk 0 ([] : List Int) ([] : List Int) ([] : List Int) ([] : List api_Write)), 6))
     else
      loopS (Z121 x0 x1 x2 v1) 100000 0
    else
     some (((api_Capture.mk 0 ([] : List Int) ([] : List Int) ([] : List Int) ([] : List api_Write)), 6))
theorem cycle_Add_sound (x0 : api_Capture) (x1 : Int) (x2 : api_Write) {Φ : api_Capture × Int → Prop} {o} (h : cycle_Add_S x0 x1 x2 = some o) (hK : Φ o) : cycle_Add_W x0 x1 x2 Φ := by
  unfold cycle_Add_S at h
  unfold cycle_Add_W
  exact blS h fun _ hv h => image_New_sound _ hv (ifS h (fun h => have t := lfS h hK; t) fun h => blS h fun _ hv h => cycle_in_sound _ _ _ hv (ifS h (fun h => have t := lfS h hK; t) fun h => blS h fun _ hv h => cycle_positions_sound _ _ hv (ifS h (fun h => have t := lfS h hK; t) fun h => ifS h (fun h => ifS h (fun h => have t := lfS h hK; t) fun h => LoopW.of_S (fun s q rec hs hq => cycle_Add_L1_sound _ _ _ _ s hs hq) _ _ h hK) fun h => have t := lfS h hK; t)))
def Z122 (x0 : Int) : Option (Bool) :=
 some (decide (0 < x0))
theorem cycle_divide_1_sound (x0 : Int) {Φ : Bool → Prop} {o} (h : Z122 x0 = some o) (hK : Φ o) : Z14 x0 Φ := by
  unfold Z122 at h
  unfold Z14
  exact have t := lfS h hK; t
def Z123 (x0 : cycle_division) (x1 : Bool) : (Int) → Option (List (Int × api_Write × Unit) × ((Int) ⊕ (Unit)))
 | v1 =>
  if v1 < (x0.c.Writes.length : Int) then
   if inX v1 x0.c.Writes.length then
   if inX v1 x0.part.length then
   if (ix x0.part v1) = x1 then
    Option.map (fun q => ((v1, (ix x0.c.Writes v1), ()) :: q.1, q.2)) (
     if inI (v1 + 1) then
     some ([], .inl (v1 + 1))
     else none)
   else
    if inI (v1 + 1) then
    some ([], .inl (v1 + 1))
    else none
   else none
   else none
  else
   some ([], .inr ())
theorem cycle_division_writes_1_L1_sound (x0 : cycle_division) (x1 : Bool) (s : Int) {ys : List (Int × api_Write × Unit)} {q} {r : List (Int × api_Write × Unit)} {rec1 : (List (Int × api_Write × Unit) × Int) → Prop} (h : Z123 x0 x1 s = some (ys, q)) (hr : (orK (fun s => rec1 (r, s)) (fun _ => r = [])) q) : Z15 x0 x1 (ys ++ r, s) rec1 := by
  unfold Z123 at h
  unfold Z15
  exact ifS h (fun h => adS h fun h => adS h fun h => ifS h (fun h => mpS h fun q_ h_ he => (by obtain ⟨_, _⟩ := q_; cases he; exact ⟨rfl, (have h := h_; adS h fun h => (by cases h; exact hr)), trivial⟩)) fun h => adS h fun h => (by cases h; exact hr)) fun h => (by cases h; exact hr)
def cycle_division_writes_1_S0 (x0 : cycle_division) (x1 : Bool) : Option (List (Int × api_Write × Unit) × Unit) :=
 genS (Z123 x0 x1) 100000 0
def Z124 (x0 : cycle_division) (x1 : Bool) : Option (List (Int × api_Write × Unit)) := Option.map Prod.fst (cycle_division_writes_1_S0 x0 x1)
theorem cycle_division_writes_1_sound (x0 : cycle_division) (x1 : Bool) {l : List (Int × api_Write × Unit)} (h : Z124 x0 x1 = some l) : cycle_division_writes_1_I x0 x1 l := by
  obtain ⟨⟨ys, q⟩, h0, h1⟩ := Option.map_eq_some_iff.1 h
  clear h
  have h := h0
  subst h1
  unfold cycle_division_writes_1_S0 at h
  unfold cycle_division_writes_1_I
  have hr : (fun _ => ([] : List (Int × api_Write × Unit)) = []) q := rfl
  rw [← List.append_nil ys]
  exact LoopW.of_G (K := fun r => (fun _ => r = [])) (fun s ys q r rec hs hr => cycle_division_writes_1_L1_sound _ _ s hs hr) _ _ _ h hr
def Z125 (v1 : api_Write) (v2 : List Sec) (v3 : Int × api_Write × Unit) (r4 : List (Int × api_Write × Unit)) : (Int × List Sec) → Option ((Int × List Sec) ⊕ ((List (Int × api_Write × Unit) × List Sec) ⊕ (api_Write)))
 | (v6, v7) =>
  if v6 < (v2.length : Int) then
   if inI (v1.Start + v6) then
   if inI ((v1.Start + v6) - v3.2.1.Start) then
   if inI ((v3.2.1.Data.length : Int) - 1) then
   Option.bind (cycle_in_S ((v1.Start + v6) - v3.2.1.Start) 0 ((v3.2.1.Data.length : Int) - 1)) fun v8 =>
   if v8 = true then
    if inX ((v1.Start + v6) - v3.2.1.Start) v3.2.1.Data.length then
    if inX v6 v7.length then
    if inI (v6 + 1) then
    some (.inl ((v6 + 1), (put v7 v6 (ix v3.2.1.Data ((v1.Start + v6) - v3.2.1.Start)))))
    else none
    else none
    else none
   else
    if inI (v6 + 1) then
    some (.inl ((v6 + 1), v7))
    else none
   else none
   else none
   else none
  else
   some (.inr (.inl (r4, v7)))
theorem cycle_division_later_L3_sound (v1 : api_Write) (v2 : List Sec) (v3 : Int × api_Write × Unit) (r4 : List (Int × api_Write × Unit)) (s : Int × List Sec) {Φ : api_Write → Prop} {rec1 : (List (Int × api_Write × Unit) × List Sec) → Prop} {rec3 : (Int × List Sec) → Prop} {o} (h : Z125 v1 v2 v3 r4 s = some o) (hK : (orK rec3 (orK rec1 Φ)) o) : Z30 v1 v2 rec1 v3 r4 Φ s rec3 := by
  obtain ⟨v6, v7⟩ := s
  unfold Z125 at h
  unfold Z30
  exact ifS h (fun h => adS h fun h => adS h fun h => adS h fun h => blS h fun _ hv h => cycle_in_sound _ _ _ hv (ifS h (fun h => adS h fun h => adS h fun h => adS h fun h => have t := lfS h hK; t) fun h => adS h fun h => have t := lfS h hK; t)) fun h => have t := lfS h hK; t
def Z126 (v1 : api_Write) (v2 : List Sec) (v3 : Int × api_Write × Unit) (r4 : List (Int × api_Write × Unit)) : (Bool) → Option ((List (Int × api_Write × Unit) × List Sec) ⊕ (api_Write))
 | v5 =>
  if v5 = true then
   some (.inl (r4, v2))
  else
   loopS (Z125 v1 v2 v3 r4) 100000 (0, v2)
theorem cycle_division_later_J2_sound (v1 : api_Write) (v2 : List Sec) (v3 : Int × api_Write × Unit) (r4 : List (Int × api_Write × Unit)) (s : Bool) {Φ : api_Write → Prop} {rec1 : (List (Int × api_Write × Unit) × List Sec) → Prop} {o} (h : Z126 v1 v2 v3 r4 s = some o) (hK : (orK rec1 Φ) o) : Z31 v1 v2 rec1 v3 r4 Φ s := by
  unfold Z126 at h
  unfold Z31
  exact ifS h (fun h => have t := lfS h hK; t) fun h => LoopW.of_S (fun s q rec hs hq => cycle_division_later_L3_sound _ _ _ _ s hs hq) _ _ h hK
def Z127 (x1 : Int) (v1 : api_Write) : (List (Int × api_Write × Unit) × List Sec) → Option ((List (Int × api_Write × Unit) × List Sec) ⊕ (api_Write))
 | (lst, v2) =>
  match lst with
  | [] =>
   some (.inr (api_Write.mk v1.Volume v1.Start v2))
  | v3 :: r4 =>
   if v3.1 < x1 then
    Z126 v1 v2 v3 r4 true
   else
    Z126 v1 v2 v3 r4 (decide (v3.2.1.Volume ≠ v1.Volume))
theorem cycle_division_later_L1_sound (x1 : Int) (v1 : api_Write) (s : List (Int × api_Write × Unit) × List Sec) {Φ : api_Write → Prop} {rec1 : (List (Int × api_Write × Unit) × List Sec) → Prop} {o} (h : Z127 x1 v1 s = some o) (hK : (orK rec1 Φ) o) : Z32 x1 v1 Φ s rec1 := by
  obtain ⟨lst, v2⟩ := s
  unfold Z127 at h
  unfold Z32
  cases lst with
  | nil => exact have t := lfS h hK; t
  | cons _ _ => exact ifS h (fun h => cycle_division_later_J2_sound _ _ _ _ _ h hK) fun h => cycle_division_later_J2_sound _ _ _ _ _ h hK
def Z128 (x0 : cycle_division) (x1 : Int) (x2 : api_Write) : Option (api_Write) :=
 Option.bind (Z118 x2) fun v1 =>
 Option.bind (Z124 x0 true) fun l9 =>
 loopS (Z127 x1 v1) 100000 (l9, v1.Data)
theorem cycle_division_later_sound (x0 : cycle_division) (x1 : Int) (x2 : api_Write) {Φ : api_Write → Prop} {o} (h : Z128 x0 x1 x2 = some o) (hK : Φ o) : Z33 x0 x1 x2 Φ := by
  unfold Z128 at h
  unfold Z33
  exact blS h fun _ hv h => cycle_copied_sound _ hv (blS h fun _ hv h => ⟨_, cycle_division_writes_1_sound _ _ hv, LoopW.of_S (fun s q rec hs hq => cycle_division_later_L1_sound _ _ s hs hq) _ _ h hK⟩)
def Z129 (x0 : api_Capture) (x1 : Int) (v12 : List Bool) (v18 : List api_Write × Int) (v19 : List Int × Unit) (v20 : List Int × Unit) (v21 : List Int × Unit) : (List (Int × api_Write × Unit) × (List Int × List api_Write)) → Option ((List (Int × api_Write × Unit) × (List Int × List api_Write)) ⊕ ((List (Int × api_Write × Unit) × List api_Write) ⊕ ((Int) ⊕ ((Int × List Int × List Bool) ⊕ ((Int × List Int) ⊕ ((Int) ⊕ (api_Capture × api_Cycle × Int)))))))
 | (lst, v22, v23) =>
  match lst with
  | [] =>
   some (.inr (.inr (.inr (.inr (.inr (.inr ((api_Capture.mk (x0.Number + 1) v20.1 v21.1 v22 v23), (api_Cycle.mk x0.Number (x0.Number + 1) x1 v19.1 v18.1), 0)))))))
  | v24 :: r25 =>
   if inX v24.1 x0.Nodes.length then
   if lenOk (v22 ++ ([(ix x0.Nodes v24.1)] : List Int)).length 8 then
   Option.bind (Z128 (cycle_division.mk x0 v12) v24.1 v24.2.1) fun z =>
   let v26 : api_Write × Unit := (z, ())
   if lenOk (v23 ++ ([v26.1] : List api_Write)).length 40 then
   some (.inl (r25, ((v22 ++ ([(ix x0.Nodes v24.1)] : List Int)), (v23 ++ ([v26.1] : List api_Write)))))
   else none
   else none
   else none
theorem cycle_Close_L6_sound (x0 : api_Capture) (x1 : Int) (v12 : List Bool) (v18 : List api_Write × Int) (v19 : List Int × Unit) (v20 : List Int × Unit) (v21 : List Int × Unit) (s : List (Int × api_Write × Unit) × (List Int × List api_Write)) {Φ : api_Capture × api_Cycle × Int → Prop} {rec1 : (Int) → Prop} {rec2 : (Int × List Int) → Prop} {rec3 : (Int × List Int × List Bool) → Prop} {rec4 : (Int) → Prop} {rec5 : (List (Int × api_Write × Unit) × List api_Write) → Prop} {rec6 : (List (Int × api_Write × Unit) × (List Int × List api_Write)) → Prop} {o} (h : Z129 x0 x1 v12 v18 v19 v20 v21 s = some o) (hK : (orK rec6 (orK rec5 (orK rec4 (orK rec3 (orK rec2 (orK rec1 Φ)))))) o) : Z34 x0 x1 v12 v18 v19 v20 v21 Φ s rec6 := by
  obtain ⟨lst, v22, v23⟩ := s
  unfold Z129 at h
  unfold Z34
  cases lst with
  | nil => exact have t := lfS h hK; t
  | cons _ _ => exact adS h fun h => adS h fun h => blS h fun _ hv h => ⟨_, cycle_division_later_sound _ _ _ hv rfl, adS h fun h => have t := lfS h hK; t⟩
def Z130 (x0 : api_Capture) (x1 : Int) (x2 : List Int) (v12 : List Bool) : (List (Int × api_Write × Unit) × List api_Write) → Option ((List (Int × api_Write × Unit) × List api_Write) ⊕ ((Int) ⊕ ((Int × List Int × List Bool) ⊕ ((Int × List Int) ⊕ ((Int) ⊕ (api_Capture × api_Cycle × Int))))))
 | (lst, v15) =>
  match lst with
  | [] =>
   Option.bind (Z103 v15) fun v18 =>
   if ¬ (v18.2 = 0) then
    some (.inr (.inr (.inr (.inr (.inr ((api_Capture.mk 0 ([] : List Int) ([] : List Int) ([] : List Int) ([] : List api_Write)), (api_Cycle.mk 0 0 0 ([] : List Int) ([] : List api_Write)), v18.2))))))
   else
    if inI (x0.Number + 1) then
    Option.bind (Z109 x2) fun z =>
    let v19 : List Int × Unit := (z, ())
    if inI (x0.Number + 1) then
    Option.bind (Z109 x0.Sizes) fun z =>
    let v20 : List Int × Unit := (z, ())
    Option.bind (Z109 x2) fun z =>
    let v21 : List Int × Unit := (z, ())
    Option.bind (Z124 (cycle_division.mk x0 v12) false) fun l27 =>
    loopS (Z129 x0 x1 v12 v18 v19 v20 v21) 100000 (l27, (([] : List Int), ([] : List api_Write)))
    else none
    else none
  | v16 :: r17 =>
   if lenOk (v15 ++ ([v16.2.1] : List api_Write)).length 40 then
   some (.inl (r17, (v15 ++ ([v16.2.1] : List api_Write))))
   else none
theorem cycle_Close_L5_sound (x0 : api_Capture) (x1 : Int) (x2 : List Int) (v12 : List Bool) (s : List (Int × api_Write × Unit) × List api_Write) {Φ : api_Capture × api_Cycle × Int → Prop} {rec1 : (Int) → Prop} {rec2 : (Int × List Int) → Prop} {rec3 : (Int × List Int × List Bool) → Prop} {rec4 : (Int) → Prop} {rec5 : (List (Int × api_Write × Unit) × List api_Write) → Prop} {o} (h : Z130 x0 x1 x2 v12 s = some o) (hK : (orK rec5 (orK rec4 (orK rec3 (orK rec2 (orK rec1 Φ))))) o) : Z35 x0 x1 x2 v12 Φ s rec5 := by
  obtain ⟨lst, v15⟩ := s
  unfold Z130 at h
  unfold Z35
  cases lst with
  | nil => exact blS h fun _ hv h => coalesce_Fold_sound _ hv (ifS h (fun h => have t := lfS h hK; t) fun h => adS h fun h => blS h fun _ hv h => ⟨_, slices_Clone_int_int_sound _ hv rfl, adS h fun h => blS h fun _ hv h => ⟨_, slices_Clone_int_int_sound _ hv rfl, blS h fun _ hv h => ⟨_, slices_Clone_int_int_sound _ hv rfl, blS h fun _ hv h => ⟨_, cycle_division_writes_1_sound _ _ hv, LoopW.of_S (fun s q rec hs hq => cycle_Close_L6_sound _ _ _ _ _ _ _ s hs hq) _ _ h hK⟩⟩⟩⟩)
  | cons _ _ => exact adS h fun h => have t := lfS h hK; t
def Z131 (x0 : api_Capture) (x1 : Int) (v12 : List Bool) (v32 : List api_Write × Int) (v33 : List Int × Unit) (v34 : List Int × Unit) (v35 : List Int × Unit) : (List (Int × api_Write × Unit) × (List Int × List api_Write)) → Option ((List (Int × api_Write × Unit) × (List Int × List api_Write)) ⊕ ((List (Int × api_Write × Unit) × List api_Write) ⊕ ((Int) ⊕ ((Int × List Int × List Bool) ⊕ ((Int × List Int) ⊕ ((Int) ⊕ (api_Capture × api_Cycle × Int)))))))
 | (lst, v36, v37) =>
  match lst with
  | [] =>
   some (.inr (.inr (.inr (.inr (.inr (.inr ((api_Capture.mk (x0.Number + 1) v34.1 v35.1 v36 v37), (api_Cycle.mk x0.Number (x0.Number + 1) x1 v33.1 v32.1), 0)))))))
  | v38 :: r39 =>
   if inX v38.1 x0.Nodes.length then
   if lenOk (v36 ++ ([(ix x0.Nodes v38.1)] : List Int)).length 8 then
   Option.bind (Z128 (cycle_division.mk x0 v12) v38.1 v38.2.1) fun z =>
   let v40 : api_Write × Unit := (z, ())
   if lenOk (v37 ++ ([v40.1] : List api_Write)).length 40 then
   some (.inl (r39, ((v36 ++ ([(ix x0.Nodes v38.1)] : List Int)), (v37 ++ ([v40.1] : List api_Write)))))
   else none
   else none
   else none
theorem cycle_Close_L8_sound (x0 : api_Capture) (x1 : Int) (v12 : List Bool) (v32 : List api_Write × Int) (v33 : List Int × Unit) (v34 : List Int × Unit) (v35 : List Int × Unit) (s : List (Int × api_Write × Unit) × (List Int × List api_Write)) {Φ : api_Capture × api_Cycle × Int → Prop} {rec1 : (Int) → Prop} {rec2 : (Int × List Int) → Prop} {rec3 : (Int × List Int × List Bool) → Prop} {rec4 : (Int) → Prop} {rec7 : (List (Int × api_Write × Unit) × List api_Write) → Prop} {rec8 : (List (Int × api_Write × Unit) × (List Int × List api_Write)) → Prop} {o} (h : Z131 x0 x1 v12 v32 v33 v34 v35 s = some o) (hK : (orK rec8 (orK rec7 (orK rec4 (orK rec3 (orK rec2 (orK rec1 Φ)))))) o) : Z36 x0 x1 v12 v32 v33 v34 v35 Φ s rec8 := by
  obtain ⟨lst, v36, v37⟩ := s
  unfold Z131 at h
  unfold Z36
  cases lst with
  | nil => exact have t := lfS h hK; t
  | cons _ _ => exact adS h fun h => adS h fun h => blS h fun _ hv h => ⟨_, cycle_division_later_sound _ _ _ hv rfl, adS h fun h => have t := lfS h hK; t⟩
def Z132 (x0 : api_Capture) (x1 : Int) (x2 : List Int) (v12 : List Bool) : (List (Int × api_Write × Unit) × List api_Write) → Option ((List (Int × api_Write × Unit) × List api_Write) ⊕ ((Int) ⊕ ((Int × List Int × List Bool) ⊕ ((Int × List Int) ⊕ ((Int) ⊕ (api_Capture × api_Cycle × Int))))))
 | (lst, v29) =>
  match lst with
  | [] =>
   Option.bind (Z103 v29) fun v32 =>
   if ¬ (v32.2 = 0) then
    some (.inr (.inr (.inr (.inr (.inr ((api_Capture.mk 0 ([] : List Int) ([] : List Int) ([] : List Int) ([] : List api_Write)), (api_Cycle.mk 0 0 0 ([] : List Int) ([] : List api_Write)), v32.2))))))
   else
    if inI (x0.Number + 1) then
    Option.bind (Z109 x2) fun z =>
    let v33 : List Int × Unit := (z, ())
    if inI (x0.Number + 1) then
    Option.bind (Z109 x0.Sizes) fun z =>
    let v34 : List Int × Unit := (z, ())
    Option.bind (Z109 x2) fun z =>
    let v35 : List Int × Unit := (z, ())
    Option.bind (Z124 (cycle_division.mk x0 v12) false) fun l41 =>
    loopS (Z131 x0 x1 v12 v32 v33 v34 v35) 100000 (l41, (([] : List Int), ([] : List api_Write)))
    else none
    else none
  | v30 :: r31 =>
   if lenOk (v29 ++ ([v30.2.1] : List api_Write)).length 40 then
   some (.inl (r31, (v29 ++ ([v30.2.1] : List api_Write))))
   else none
theorem cycle_Close_L7_sound (x0 : api_Capture) (x1 : Int) (x2 : List Int) (v12 : List Bool) (s : List (Int × api_Write × Unit) × List api_Write) {Φ : api_Capture × api_Cycle × Int → Prop} {rec1 : (Int) → Prop} {rec2 : (Int × List Int) → Prop} {rec3 : (Int × List Int × List Bool) → Prop} {rec4 : (Int) → Prop} {rec7 : (List (Int × api_Write × Unit) × List api_Write) → Prop} {o} (h : Z132 x0 x1 x2 v12 s = some o) (hK : (orK rec7 (orK rec4 (orK rec3 (orK rec2 (orK rec1 Φ))))) o) : Z37 x0 x1 x2 v12 Φ s rec7 := by
  obtain ⟨lst, v29⟩ := s
  unfold Z132 at h
  unfold Z37
  cases lst with
  | nil => exact blS h fun _ hv h => coalesce_Fold_sound _ hv (ifS h (fun h => have t := lfS h hK; t) fun h => adS h fun h => blS h fun _ hv h => ⟨_, slices_Clone_int_int_sound _ hv rfl, adS h fun h => blS h fun _ hv h => ⟨_, slices_Clone_int_int_sound _ hv rfl, blS h fun _ hv h => ⟨_, slices_Clone_int_int_sound _ hv rfl, blS h fun _ hv h => ⟨_, cycle_division_writes_1_sound _ _ hv, LoopW.of_S (fun s q rec hs hq => cycle_Close_L8_sound _ _ _ _ _ _ _ s hs hq) _ _ h hK⟩⟩⟩⟩)
  | cons _ _ => exact adS h fun h => have t := lfS h hK; t
def Z133 (x0 : api_Capture) (x1 : Int) (x2 : List Int) (v11 : List Int) (v12 : List Bool) : (Int) → Option ((Int) ⊕ ((Int × List Int × List Bool) ⊕ ((Int × List Int) ⊕ ((Int) ⊕ (api_Capture × api_Cycle × Int)))))
 | v13 =>
  if v13 < (v11.length : Int) then
   if inX v13 v11.length then
   Option.bind (Z122 (ix v11 v13)) fun v14 =>
   if v14 = true then
    if ¬ (¬ (0 ≤ v13)) then
     some (.inr (.inr (.inr (.inr ((api_Capture.mk 0 ([] : List Int) ([] : List Int) ([] : List Int) ([] : List api_Write)), (api_Cycle.mk 0 0 0 ([] : List Int) ([] : List api_Write)), 2)))))
    else
     Option.bind (Z124 (cycle_division.mk x0 v12) true) fun l28 =>
     loopS (Z130 x0 x1 x2 v12) 100000 (l28, ([] : List api_Write))
   else
    if inI (v13 + 1) then
    some (.inl (v13 + 1))
    else none
   else none
  else
   if ¬ (¬ (0 ≤ ((-1) : Int))) then
    some (.inr (.inr (.inr (.inr ((api_Capture.mk 0 ([] : List Int) ([] : List Int) ([] : List Int) ([] : List api_Write)), (api_Cycle.mk 0 0 0 ([] : List Int) ([] : List api_Write)), 2)))))
   else
    Option.bind (Z124 (cycle_division.mk x0 v12) true) fun l42 =>
    loopS (Z132 x0 x1 x2 v12) 100000 (l42, ([] : List api_Write))
theorem cycle_Close_L4_sound (x0 : api_Capture) (x1 : Int) (x2 : List Int) (v11 : List Int) (v12 : List Bool) (s : Int) {Φ : api_Capture × api_Cycle × Int → Prop} {rec1 : (Int) → Prop} {rec2 : (Int × List Int) → Prop} {rec3 : (Int × List Int × List Bool) → Prop} {rec4 : (Int) → Prop} {o} (h : Z133 x0 x1 x2 v11 v12 s = some o) (hK : (orK rec4 (orK rec3 (orK rec2 (orK rec1 Φ)))) o) : Z38 x0 x1 x2 v11 v12 Φ s rec4 := by
  unfold Z133 at h
  unfold Z38
  exact ifS h (fun h => adS h fun h => blS h fun _ hv h => cycle_divide_1_sound _ hv (ifS h (fun h => ifS h (fun h => have t := lfS h hK; t) fun h => blS h fun _ hv h => ⟨_, cycle_division_writes_1_sound _ _ hv, LoopW.of_S (fun s q rec hs hq => cycle_Close_L5_sound _ _ _ _ s hs hq) _ _ h hK⟩) fun h => adS h fun h => have t := lfS h hK; t)) fun h => ifS h (fun h => have t := lfS h hK; t) fun h => blS h fun _ hv h => ⟨_, cycle_division_writes_1_sound _ _ hv, LoopW.of_S (fun s q rec hs hq => cycle_Close_L7_sound _ _ _ _ s hs hq) _ _ h hK⟩
def Z134 (x0 : api_Capture) (x1 : Int) (x2 : List Int) : (Int × List Int × List Bool) → Option ((Int × List Int × List Bool) ⊕ ((Int × List Int) ⊕ ((Int) ⊕ (api_Capture × api_Cycle × Int))))
 | (v10, v11, v12) =>
  if v10 < (x0.Nodes.length : Int) then
   if inX v10 x0.Nodes.length then
   if inX (ix x0.Nodes v10) v11.length then
   if lenOk (v12 ++ ([decide (0 < (ix v11 (ix x0.Nodes v10)))] : List Bool)).length 1 then
   if inX (ix x0.Nodes v10) v11.length then
   if inI ((ix v11 (ix x0.Nodes v10)) - 1) then
   if inX (ix x0.Nodes v10) v11.length then
   if inI (v10 + 1) then
   some (.inl ((v10 + 1), (put v11 (ix x0.Nodes v10) (if ((ix v11 (ix x0.Nodes v10)) - 1) < 0 then 0 else ((ix v11 (ix x0.Nodes v10)) - 1))), (v12 ++ ([decide (0 < (ix v11 (ix x0.Nodes v10)))] : List Bool))))
   else none
   else none
   else none
   else none
   else none
   else none
   else none
  else
   loopS (Z133 x0 x1 x2 v11 v12) 100000 0
theorem cycle_Close_L3_sound (x0 : api_Capture) (x1 : Int) (x2 : List Int) (s : Int × List Int × List Bool) {Φ : api_Capture × api_Cycle × Int → Prop} {rec1 : (Int) → Prop} {rec2 : (Int × List Int) → Prop} {rec3 : (Int × List Int × List Bool) → Prop} {o} (h : Z134 x0 x1 x2 s = some o) (hK : (orK rec3 (orK rec2 (orK rec1 Φ))) o) : Z39 x0 x1 x2 Φ s rec3 := by
  obtain ⟨v10, v11, v12⟩ := s
  unfold Z134 at h
  unfold Z39
  exact ifS h (fun h => adS h fun h => adS h fun h => adS h fun h => adS h fun h => adS h fun h => adS h fun h => adS h fun h => have t := lfS h hK; t) fun h => LoopW.of_S (fun s q rec hs hq => cycle_Close_L4_sound _ _ _ _ _ s hs hq) _ _ h hK
def Z135 (x0 : api_Capture) (x1 : Int) (x2 : List Int) : (Int × List Int) → Option ((Int × List Int) ⊕ ((Int) ⊕ (api_Capture × api_Cycle × Int)))
 | (v8, v9) =>
  if v8 < (x2.length : Int) then
   if inX v8 x2.length then
   if inX v8 x0.Positions.length then
   if inI ((ix x2 v8) - (ix x0.Positions v8)) then
   if inX v8 v9.length then
   if inX v8 (put v9 v8 ((ix x2 v8) - (ix x0.Positions v8))).length then
   if ¬ (0 ≤ (ix (put v9 v8 ((ix x2 v8) - (ix x0.Positions v8))) v8)) then
    some (.inr (.inr ((api_Capture.mk 0 ([] : List Int) ([] : List Int) ([] : List Int) ([] : List api_Write)), (api_Cycle.mk 0 0 0 ([] : List Int) ([] : List api_Write)), 2)))
   else
    if inI (v8 + 1) then
    some (.inl ((v8 + 1), (put v9 v8 ((ix x2 v8) - (ix x0.Positions v8)))))
    else none
   else none
   else none
   else none
   else none
   else none
  else
   loopS (Z134 x0 x1 x2) 100000 (0, v9, ([] : List Bool))
theorem cycle_Close_L2_sound (x0 : api_Capture) (x1 : Int) (x2 : List Int) (s : Int × List Int) {Φ : api_Capture × api_Cycle × Int → Prop} {rec1 : (Int) → Prop} {rec2 : (Int × List Int) → Prop} {o} (h : Z135 x0 x1 x2 s = some o) (hK : (orK rec2 (orK rec1 Φ)) o) : Z40 x0 x1 x2 Φ s rec2 := by
  obtain ⟨v8, v9⟩ := s
  unfold Z135 at h
  unfold Z40
  exact ifS h (fun h => adS h fun h => adS h fun h => adS h fun h => adS h fun h => adS h fun h => ifS h (fun h => have t := lfS h hK; t) fun h => adS h fun h => have t := lfS h hK; t) fun h => LoopW.of_S (fun s q rec hs hq => cycle_Close_L3_sound _ _ _ s hs hq) _ _ h hK
def Z136 (x0 : api_Capture) (x1 : Int) (x2 : List Int) (v1 : List (List Sec) × Int) : (Int) → Option ((Int) ⊕ (api_Capture × api_Cycle × Int))
 | v4 =>
  if v4 < (x0.Writes.length : Int) then
   if inX v4 x0.Writes.length then
   if inX v4 x0.Nodes.length then
   if inI ((x0.Positions.length : Int) - 1) then
   Option.bind (cycle_in_S (ix x0.Nodes v4) 0 ((x0.Positions.length : Int) - 1)) fun v5 =>
   if ¬ (v5 = true) then
    some (.inr ((api_Capture.mk 0 ([] : List Int) ([] : List Int) ([] : List Int) ([] : List api_Write)), (api_Cycle.mk 0 0 0 ([] : List Int) ([] : List api_Write)), 7))
   else
    Option.bind (image_Fits_S v1.1 (ix x0.Writes v4)) fun v6 =>
    if ¬ (v6 = 0) then
     some (.inr ((api_Capture.mk 0 ([] : List Int) ([] : List Int) ([] : List Int) ([] : List api_Write)), (api_Cycle.mk 0 0 0 ([] : List Int) ([] : List api_Write)), v6))
    else
     if inI (v4 + 1) then
     some (.inl (v4 + 1))
     else none
   else none
   else none
   else none
  else
   Option.bind (cycle_in_S x1 0 1073741824) fun v7 =>
   if ¬ (v7 = true) then
    some (.inr ((api_Capture.mk 0 ([] : List Int) ([] : List Int) ([] : List Int) ([] : List api_Write)), (api_Cycle.mk 0 0 0 ([] : List Int) ([] : List api_Write)), 24))
   else
    if ¬ ((x2.length : Int) = (x0.Positions.length : Int)) then
     some (.inr ((api_Capture.mk 0 ([] : List Int) ([] : List Int) ([] : List Int) ([] : List api_Write)), (api_Cycle.mk 0 0 0 ([] : List Int) ([] : List api_Write)), 6))
    else
     if 0 ≤ (x2.length : Int) then
     if lenOk (x2.length : Int).toNat 8 then
     loopS (Z135 x0 x1 x2) 100000 (0, (List.replicate (x2.length : Int).toNat (0 : Int)))
     else none
     else none
theorem cycle_Close_L1_sound (x0 : api_Capture) (x1 : Int) (x2 : List Int) (v1 : List (List Sec) × Int) (s : Int) {Φ : api_Capture × api_Cycle × Int → Prop} {rec1 : (Int) → Prop} {o} (h : Z136 x0 x1 x2 v1 s = some o) (hK : (orK rec1 Φ) o) : Z41 x0 x1 x2 v1 Φ s rec1 := by
  unfold Z136 at h
  unfold Z41
  exact ifS h (fun h => adS h fun h => adS h fun h => adS h fun h => blS h fun _ hv h => cycle_in_sound _ _ _ hv (ifS h (fun h => have t := lfS h hK; t) fun h => blS h fun _ hv h => image_Fits_sound _ _ hv (ifS h (fun h => have t := lfS h hK; t) fun h => adS h fun h => have t := lfS h hK; t))) fun h => blS h fun _ hv h => cycle_in_sound _ _ _ hv (ifS h (fun h => have t := lfS h hK; t) fun h => ifS h (fun h => have t := lfS h hK; t) fun h => adS h fun h => adS h fun h => LoopW.of_S (fun s q rec hs hq => cycle_Close_L2_sound _ _ _ s hs hq) _ _ h hK)
def cycle_Close_S (x0 : api_Capture) (x1 : Int) (x2 : List Int) : Option (api_Capture × api_Cycle × Int) :=
 Option.bind (image_New_S x0.Sizes) fun v1 =>
 if ¬ (v1.2 = 0) then
  some (((api_Capture.mk 0 ([] : List Int) ([] : List Int) ([] : List Int) ([] : List api_Write)), (api_Cycle.mk 0 0 0 ([] : List Int) ([] : List api_Write)), v1.2))
 else
  Option.bind (cycle_in_S x0.Number 0 1073741823) fun v2 =>
  if ¬ (v2 = true) then
   some (((api_Capture.mk 0 ([] : List Int) ([] : List Int) ([] : List Int) ([] : List api_Write)), (api_Cycle.mk 0 0 0 ([] : List Int) ([] : List api_Write)), 2))
  else
   Option.bind (Z113 x0.Positions 1) fun v3 =>
   if ¬ (v3 = 0) then
    some (((api_Capture.mk 0 ([] : List Int) ([] : List Int) ([] : List Int) ([] : List api_Write)), (api_Cycle.mk 0 0 0 ([] : List Int) ([] : List api_Write)), v3))
   else
    if (x0.Nodes.length : Int) = (x0.Writes.length : Int) then
     if ¬ ((x0.Writes.length : Int) ≤ 4096) then
      some (((api_Capture.mk 0 ([] : List Int) ([] : List Int) ([] : List Int) ([] : List api_Write)), (api_Cycle.mk 0 0 0 ([] : List Int) ([] : List api_Write)), 6))
     else
      loopS (Z136 x0 x1 x2 v1) 100000 0
    else
     some (((api_Capture.mk 0 ([] : List Int) ([] : List Int) ([] : List Int) ([] : List api_Write)), (api_Cycle.mk 0 0 0 ([] : List Int) ([] : List api_Write)), 6))
theorem cycle_Close_sound (x0 : api_Capture) (x1 : Int) (x2 : List Int) {Φ : api_Capture × api_Cycle × Int → Prop} {o} (h : cycle_Close_S x0 x1 x2 = some o) (hK : Φ o) : cycle_Close_W x0 x1 x2 Φ := by
  unfold cycle_Close_S at h
  unfold cycle_Close_W
  exact blS h fun _ hv h => image_New_sound _ hv (ifS h (fun h => have t := lfS h hK; t) fun h => blS h fun _ hv h => cycle_in_sound _ _ _ hv (ifS h (fun h => have t := lfS h hK; t) fun h => blS h fun _ hv h => cycle_positions_sound _ _ hv (ifS h (fun h => have t := lfS h hK; t) fun h => ifS h (fun h => ifS h (fun h => have t := lfS h hK; t) fun h => LoopW.of_S (fun s q rec hs hq => cycle_Close_L1_sound _ _ _ _ s hs hq) _ _ h hK) fun h => have t := lfS h hK; t)))
def Z137 (x0 : List Sec) (x1 : List Sec) : (Int) → Option ((Int) ⊕ (Bool))
 | v1 =>
  if v1 < (x0.length : Int) then
   if inX v1 x0.length then
   if inX v1 x1.length then
   if (ix x0 v1) ≠ (ix x1 v1) then
    some (.inr false)
   else
    if inI (v1 + 1) then
    some (.inl (v1 + 1))
    else none
   else none
   else none
  else
   some (.inr true)
theorem ref03_SameSectors_L1_sound (x0 : List Sec) (x1 : List Sec) (s : Int) {Φ : Bool → Prop} {rec1 : (Int) → Prop} {o} (h : Z137 x0 x1 s = some o) (hK : (orK rec1 Φ) o) : Z42 x0 x1 Φ s rec1 := by
  unfold Z137 at h
  unfold Z42
  exact ifS h (fun h => adS h fun h => adS h fun h => ifS h (fun h => have t := lfS h hK; t) fun h => adS h fun h => have t := lfS h hK; t) fun h => have t := lfS h hK; t
def Z138 (x0 : List Sec) (x1 : List Sec) : Option (Bool) :=
 if (x0.length : Int) ≠ (x1.length : Int) then
  some (false)
 else
  loopS (Z137 x0 x1) 100000 0
theorem ref03_SameSectors_sound (x0 : List Sec) (x1 : List Sec) {Φ : Bool → Prop} {o} (h : Z138 x0 x1 = some o) (hK : Φ o) : Z43 x0 x1 Φ := by
  unfold Z138 at h
  unfold Z43
  exact ifS h (fun h => have t := lfS h hK; t) fun h => LoopW.of_S (fun s q rec hs hq => ref03_SameSectors_L1_sound _ _ s hs hq) _ _ h hK
def Z139 (x0 : List api_Write) (x1 : List api_Write) : (Int) → Option ((Int) ⊕ (Bool))
 | v1 =>
  if v1 < (x0.length : Int) then
   if inX v1 x0.length then
   if inX v1 x1.length then
   if ((ix x0 v1).Volume) ≠ ((ix x1 v1).Volume) then
    some (.inr false)
   else
    if inX v1 x0.length then
    if inX v1 x1.length then
    if ((ix x0 v1).Start) ≠ ((ix x1 v1).Start) then
     some (.inr false)
    else
     if inX v1 x0.length then
     if inX v1 x1.length then
     Option.bind (Z138 ((ix x0 v1).Data) ((ix x1 v1).Data)) fun z =>
     let v2 : Bool × Unit := (z, ())
     if ¬ (v2.1 = true) then
      some (.inr false)
     else
      if inI (v1 + 1) then
      some (.inl (v1 + 1))
      else none
     else none
     else none
    else none
    else none
   else none
   else none
  else
   some (.inr true)
theorem ref03_SameWrites_L1_sound (x0 : List api_Write) (x1 : List api_Write) (s : Int) {Φ : Bool → Prop} {rec1 : (Int) → Prop} {o} (h : Z139 x0 x1 s = some o) (hK : (orK rec1 Φ) o) : Z44 x0 x1 Φ s rec1 := by
  unfold Z139 at h
  unfold Z44
  exact ifS h (fun h => adS h fun h => adS h fun h => ifS h (fun h => have t := lfS h hK; t) fun h => adS h fun h => adS h fun h => ifS h (fun h => have t := lfS h hK; t) fun h => adS h fun h => adS h fun h => blS h fun _ hv h => ⟨_, ref03_SameSectors_sound _ _ hv rfl, ifS h (fun h => have t := lfS h hK; t) fun h => adS h fun h => have t := lfS h hK; t⟩) fun h => have t := lfS h hK; t
def Z140 (x0 : List api_Write) (x1 : List api_Write) : Option (Bool) :=
 if (x0.length : Int) ≠ (x1.length : Int) then
  some (false)
 else
  loopS (Z139 x0 x1) 100000 0
theorem ref03_SameWrites_sound (x0 : List api_Write) (x1 : List api_Write) {Φ : Bool → Prop} {o} (h : Z140 x0 x1 = some o) (hK : Φ o) : Z45 x0 x1 Φ := by
  unfold Z140 at h
  unfold Z45
  exact ifS h (fun h => have t := lfS h hK; t) fun h => LoopW.of_S (fun s q rec hs hq => ref03_SameWrites_L1_sound _ _ s hs hq) _ _ h hK
def ref22_Same_S (x0 : List api_Write) (x1 : List api_Write) : Option (Bool) :=
 Option.bind (Z140 x0 x1) fun v1 =>
 some (v1)
theorem ref22_Same_sound (x0 : List api_Write) (x1 : List api_Write) {Φ : Bool → Prop} {o} (h : ref22_Same_S x0 x1 = some o) (hK : Φ o) : ref22_Same_W x0 x1 Φ := by
  unfold ref22_Same_S at h
  unfold ref22_Same_W
  exact blS h fun _ hv h => ref03_SameWrites_sound _ _ hv (have t := lfS h hK; t)
def Z141 (x0 : BitVec 64) (x1 : BitVec 64) : Option (BitVec 64 × BitVec 64) :=
 some ((((((x0 >>> ((32#64).toNat : Int).toNat) * (x1 >>> ((32#64).toNat : Int).toNat)) + ((((x0 >>> ((32#64).toNat : Int).toNat) * (x1 &&& (4294967295#64))) + (((x0 &&& (4294967295#64)) * (x1 &&& (4294967295#64))) >>> ((32#64).toNat : Int).toNat)) >>> ((32#64).toNat : Int).toNat)) + ((((((x0 >>> ((32#64).toNat : Int).toNat) * (x1 &&& (4294967295#64))) + (((x0 &&& (4294967295#64)) * (x1 &&& (4294967295#64))) >>> ((32#64).toNat : Int).toNat)) &&& (4294967295#64)) + ((x0 &&& (4294967295#64)) * (x1 >>> ((32#64).toNat : Int).toNat))) >>> ((32#64).toNat : Int).toNat)), (x0 * x1)))
theorem math_bits_Mul64_sound (x0 : BitVec 64) (x1 : BitVec 64) {Φ : BitVec 64 × BitVec 64 → Prop} {o} (h : Z141 x0 x1 = some o) (hK : Φ o) : Z46 x0 x1 Φ := by
  unfold Z141 at h
  unfold Z46
  exact have t := lfS h hK; t
def Z142 (x0 : BitVec 64) (x1 : BitVec 64) : Option (BitVec 64 × BitVec 64) :=
 Option.bind (Z141 x0 x1) fun v1 =>
 some ((v1.1, v1.2))
theorem math_bits_Mul_sound (x0 : BitVec 64) (x1 : BitVec 64) {Φ : BitVec 64 × BitVec 64 → Prop} {o} (h : Z142 x0 x1 = some o) (hK : Φ o) : Z47 x0 x1 Φ := by
  unfold Z142 at h
  unfold Z47
  exact blS h fun _ hv h => math_bits_Mul64_sound _ _ hv (have t := lfS h hK; t)
def Z143 : (Int × List Int) → Option ((Int × List Int) ⊕ (List Int))
 | (v3, v4) =>
  if v3 < (v4.length : Int) then
   if inS v3 (v4.length : Int) v4.length then
   if inS 0 v3 v4.length then
   if inI (v3 + ((min (sub v4 0 v3).length (v4.length - (v3 : Int).toNat) : Nat) : Int)) then
   some (.inl ((v3 + ((min (sub v4 0 v3).length (v4.length - (v3 : Int).toNat) : Nat) : Int)), (paste v4 v3 (sub v4 0 v3))))
   else none
   else none
   else none
  else
   some (.inr v4)
theorem slices_Repeat_int_int_L2_sound (s : Int × List Int) {Φ : List Int → Prop} {rec2 : (Int × List Int) → Prop} {o} (h : Z143 s = some o) (hK : (orK rec2 Φ) o) : Z48 Φ s rec2 := by
  obtain ⟨v3, v4⟩ := s
  unfold Z143 at h
  unfold Z48
  exact ifS h (fun h => adS h fun h => adS h fun h => adS h fun h => have t := lfS h hK; t) fun h => have t := lfS h hK; t
def Z144 (x0 : List Int) (v1 : BitVec 64 × BitVec 64) : (Bool) → Option (List Int)
 | v2 =>
  if v2 = true then
   none
  else
   if 0 ≤ v1.2.toInt then
   if lenOk v1.2.toInt.toNat 8 then
   loopS (Z143) 100000 (((min x0.length ((List.replicate v1.2.toInt.toNat (0 : Int)).length - (0 : Int).toNat) : Nat) : Int), (paste (List.replicate v1.2.toInt.toNat (0 : Int)) 0 x0))
   else none
   else none
theorem slices_Repeat_int_int_J1_sound (x0 : List Int) (v1 : BitVec 64 × BitVec 64) (s : Bool) {Φ : List Int → Prop} {o} (h : Z144 x0 v1 s = some o) (hK : Φ o) : Z49 x0 v1 Φ s := by
  unfold Z144 at h
  unfold Z49
  exact ifS h (fun h => (by cases h)) fun h => adS h fun h => adS h fun h => LoopW.of_S (fun s q rec hs hq => slices_Repeat_int_int_L2_sound s hs hq) _ _ h hK
def Z145 (x0 : List Int) (x1 : Int) : Option (List Int) :=
 if x1 < 0 then
  none
 else
  Option.bind (Z142 (BitVec.ofInt 64 (x0.length : Int)) (BitVec.ofInt 64 x1)) fun v1 =>
  if (0#64) < v1.1 then
   Z144 x0 v1 true
  else
   Z144 x0 v1 (decide ((9223372036854775807#64) < v1.2))
theorem slices_Repeat_int_int_sound (x0 : List Int) (x1 : Int) {Φ : List Int → Prop} {o} (h : Z145 x0 x1 = some o) (hK : Φ o) : Z50 x0 x1 Φ := by
  unfold Z145 at h
  unfold Z50
  exact ifS h (fun h => (by cases h)) fun h => blS h fun _ hv h => math_bits_Mul_sound _ _ hv (ifS h (fun h => slices_Repeat_int_int_J1_sound _ _ _ h hK) fun h => slices_Repeat_int_int_J1_sound _ _ _ h hK)
def Z146 : Option (List Int) :=
 Option.bind (Z145 ([4096] : List Int) 8) fun v1 =>
 some (v1)
theorem cycle_largest_sound {Φ : List Int → Prop} {o} (h : Z146 = some o) (hK : Φ o) : Z51 Φ := by
  unfold Z146 at h
  unfold Z51
  exact blS h fun _ hv h => slices_Repeat_int_int_sound _ _ hv (have t := lfS h hK; t)
def Z147 (x0 : List api_Write) (v1 : List (List Sec) × Int) : (Int) → Option ((Int) ⊕ (Int))
 | v2 =>
  if v2 < (x0.length : Int) then
   if inX v2 x0.length then
   Option.bind (image_Fits_S v1.1 (ix x0 v2)) fun v3 =>
   if v3 ≠ 0 then
    some (.inr v3)
   else
    if v2 = 0 then
     if inI (v2 + 1) then
     some (.inl (v2 + 1))
     else none
    else
     if inI (v2 - 1) then
     if inX (v2 - 1) x0.length then
     if ((ix x0 v2).Volume) < ((ix x0 (v2 - 1)).Volume) then
      some (.inr 3)
     else
      if ((ix x0 v2).Volume) = ((ix x0 (v2 - 1)).Volume) then
       if inI (((ix x0 (v2 - 1)).Start) + (((ix x0 (v2 - 1)).Data).length : Int)) then
       if ((ix x0 v2).Start) ≤ (((ix x0 (v2 - 1)).Start) + (((ix x0 (v2 - 1)).Data).length : Int)) then
        some (.inr 3)
       else
        if inI (v2 + 1) then
        some (.inl (v2 + 1))
        else none
       else none
      else
       if inI (v2 + 1) then
       some (.inl (v2 + 1))
       else none
     else none
     else none
   else none
  else
   some (.inr 0)
theorem coalesce_Check_L1_sound (x0 : List api_Write) (v1 : List (List Sec) × Int) (s : Int) {Φ : Int → Prop} {rec1 : (Int) → Prop} {o} (h : Z147 x0 v1 s = some o) (hK : (orK rec1 Φ) o) : Z52 x0 v1 Φ s rec1 := by
  unfold Z147 at h
  unfold Z52
  exact ifS h (fun h => adS h fun h => blS h fun _ hv h => image_Fits_sound _ _ hv (ifS h (fun h => have t := lfS h hK; t) fun h => ifS h (fun h => adS h fun h => have t := lfS h hK; t) fun h => adS h fun h => adS h fun h => ifS h (fun h => have t := lfS h hK; t) fun h => ifS h (fun h => adS h fun h => ifS h (fun h => have t := lfS h hK; t) fun h => adS h fun h => have t := lfS h hK; t) fun h => adS h fun h => have t := lfS h hK; t)) fun h => have t := lfS h hK; t
def Z148 (x0 : List api_Write) (x1 : List Int) : Option (Int) :=
 Option.bind (image_New_S x1) fun v1 =>
 if v1.2 ≠ 0 then
  some (v1.2)
 else
  loopS (Z147 x0 v1) 100000 0
theorem coalesce_Check_sound (x0 : List api_Write) (x1 : List Int) {Φ : Int → Prop} {o} (h : Z148 x0 x1 = some o) (hK : Φ o) : Z53 x0 x1 Φ := by
  unfold Z148 at h
  unfold Z53
  exact blS h fun _ hv h => image_New_sound _ hv (ifS h (fun h => have t := lfS h hK; t) fun h => LoopW.of_S (fun s q rec hs hq => coalesce_Check_L1_sound _ _ s hs hq) _ _ h hK)
def Z149 (x0 : api_Cycle) (x1 : List Int) : (Bool) → Option (Int)
 | v2 =>
  if v2 = true then
   some (2)
  else
   Option.bind (cycle_in_S x0.Time 0 1073741824) fun v3 =>
   if ¬ (v3 = true) then
    some (24)
   else
    Option.bind (Z113 x0.Positions 0) fun v4 =>
    if v4 ≠ 0 then
     some (v4)
    else
     Option.bind (Z148 x0.Writes x1) fun v5 =>
     some (v5)
theorem cycle_Check_J1_sound (x0 : api_Cycle) (x1 : List Int) (s : Bool) {Φ : Int → Prop} {o} (h : Z149 x0 x1 s = some o) (hK : Φ o) : Z54 x0 x1 Φ s := by
  unfold Z149 at h
  unfold Z54
  exact ifS h (fun h => have t := lfS h hK; t) fun h => blS h fun _ hv h => cycle_in_sound _ _ _ hv (ifS h (fun h => have t := lfS h hK; t) fun h => blS h fun _ hv h => cycle_positions_sound _ _ hv (ifS h (fun h => have t := lfS h hK; t) fun h => blS h fun _ hv h => coalesce_Check_sound _ _ hv (have t := lfS h hK; t)))
def cycle_Check_S (x0 : api_Cycle) (x1 : List Int) : Option (Int) :=
 Option.bind (image_New_S x1) fun v1 =>
 if v1.2 ≠ 0 then
  some (v1.2)
 else
  if x0.Base < 0 then
   Z149 x0 x1 true
  else
   if x0.Number ≤ x0.Base then
    Z149 x0 x1 true
   else
    Z149 x0 x1 (decide (1073741824 < x0.Number))
theorem cycle_Check_sound (x0 : api_Cycle) (x1 : List Int) {Φ : Int → Prop} {o} (h : cycle_Check_S x0 x1 = some o) (hK : Φ o) : cycle_Check_W x0 x1 Φ := by
  unfold cycle_Check_S at h
  unfold cycle_Check_W
  exact blS h fun _ hv h => image_New_sound _ hv (ifS h (fun h => have t := lfS h hK; t) fun h => ifS h (fun h => cycle_Check_J1_sound _ _ _ h hK) fun h => ifS h (fun h => cycle_Check_J1_sound _ _ _ h hK) fun h => cycle_Check_J1_sound _ _ _ h hK)
def Z150 (x0 : api_Cycle) (x1 : api_Cycle) : (Int) → Option ((Int) ⊕ ((Int) ⊕ (api_Cycle × Int)))
 | v4 =>
  if v4 < (x0.Positions.length : Int) then
   if inX v4 x0.Positions.length then
   if inX v4 x1.Positions.length then
   if (ix x1.Positions v4) < (ix x0.Positions v4) then
    some (.inr (.inr ((api_Cycle.mk 0 0 0 ([] : List Int) ([] : List api_Write)), 2)))
   else
    if inI (v4 + 1) then
    some (.inl (v4 + 1))
    else none
   else none
   else none
  else
   Option.bind (Z104 x0.Writes x1.Writes) fun v5 =>
   if v5.2 ≠ 0 then
    some (.inr (.inr ((api_Cycle.mk 0 0 0 ([] : List Int) ([] : List api_Write)), v5.2)))
   else
    Option.bind (Z109 x1.Positions) fun z =>
    let v6 : List Int × Unit := (z, ())
    some (.inr (.inr ((api_Cycle.mk x0.Base x1.Number x1.Time v6.1 v5.1), 0)))
theorem cycle_Compose_L2_sound (x0 : api_Cycle) (x1 : api_Cycle) (s : Int) {Φ : api_Cycle × Int → Prop} {rec1 : (Int) → Prop} {rec2 : (Int) → Prop} {o} (h : Z150 x0 x1 s = some o) (hK : (orK rec2 (orK rec1 Φ)) o) : Z68 x0 x1 Φ s rec2 := by
  unfold Z150 at h
  unfold Z68
  exact ifS h (fun h => adS h fun h => adS h fun h => ifS h (fun h => have t := lfS h hK; t) fun h => adS h fun h => have t := lfS h hK; t) fun h => blS h fun _ hv h => coalesce_Merge_sound _ _ hv (ifS h (fun h => have t := lfS h hK; t) fun h => blS h fun _ hv h => ⟨_, slices_Clone_int_int_sound _ hv rfl, have t := lfS h hK; t⟩)
def Z151 (x0 : api_Cycle) (x1 : api_Cycle) : (Int) → Option ((Int) ⊕ (api_Cycle × Int))
 | v1 =>
  if v1 < (([x0, x1] : List api_Cycle).length : Int) then
   if inX v1 ([x0, x1] : List api_Cycle).length then
   Option.bind (Z146) fun z =>
   let v2 : List Int × Unit := (z, ())
   Option.bind (cycle_Check_S (ix ([x0, x1] : List api_Cycle) v1) v2.1) fun z =>
   let v3 : Int × Unit := (z, ())
   if v3.1 ≠ 0 then
    some (.inr ((api_Cycle.mk 0 0 0 ([] : List Int) ([] : List api_Write)), v3.1))
   else
    if inI (v1 + 1) then
    some (.inl (v1 + 1))
    else none
   else none
  else
   if x1.Base ≠ x0.Number then
    some (.inr ((api_Cycle.mk 0 0 0 ([] : List Int) ([] : List api_Write)), 15))
   else
    if (x0.Positions.length : Int) ≠ (x1.Positions.length : Int) then
     some (.inr ((api_Cycle.mk 0 0 0 ([] : List Int) ([] : List api_Write)), 6))
    else
     if x1.Time < x0.Time then
      some (.inr ((api_Cycle.mk 0 0 0 ([] : List Int) ([] : List api_Write)), 24))
     else
      loopS (Z150 x0 x1) 100000 0
theorem cycle_Compose_L1_sound (x0 : api_Cycle) (x1 : api_Cycle) (s : Int) {Φ : api_Cycle × Int → Prop} {rec1 : (Int) → Prop} {o} (h : Z151 x0 x1 s = some o) (hK : (orK rec1 Φ) o) : Z69 x0 x1 Φ s rec1 := by
  unfold Z151 at h
  unfold Z69
  exact ifS h (fun h => adS h fun h => blS h fun _ hv h => ⟨_, cycle_largest_sound hv rfl, blS h fun _ hv h => ⟨_, cycle_Check_sound _ _ hv rfl, ifS h (fun h => have t := lfS h hK; t) fun h => adS h fun h => have t := lfS h hK; t⟩⟩) fun h => ifS h (fun h => have t := lfS h hK; t) fun h => ifS h (fun h => have t := lfS h hK; t) fun h => ifS h (fun h => have t := lfS h hK; t) fun h => LoopW.of_S (fun s q rec hs hq => cycle_Compose_L2_sound _ _ s hs hq) _ _ h hK
def Z152 (x0 : api_Cycle) (x1 : api_Cycle) : Option (api_Cycle × Int) :=
 loopS (Z151 x0 x1) 100000 0
theorem cycle_Compose_sound (x0 : api_Cycle) (x1 : api_Cycle) {Φ : api_Cycle × Int → Prop} {o} (h : Z152 x0 x1 = some o) (hK : Φ o) : Z70 x0 x1 Φ := by
  unfold Z152 at h
  unfold Z70
  exact LoopW.of_S (fun s q rec hs hq => cycle_Compose_L1_sound _ _ s hs hq) _ _ h hK
def Z153 (v8 : api_Capture × api_Cycle × Int) : (Unit) → Option (Bool)
 | _ =>
  Option.bind (cycle_Close_S v8.1 6 ([2, 1] : List Int)) fun v9 =>
  Option.bind (Z152 v8.2.1 v9.2.1) fun v10 =>
  Option.bind (law23_write_S 0 1 ([98#8, 99#8] : List (BitVec 8))) fun v11 =>
  if v9.2.2 = 0 then
   if v10.2 = 0 then
    Option.bind (ref22_Same_S v9.2.1.Writes ([v11] : List api_Write)) fun v12 =>
    if v12 = true then
     if v10.1.Base = 0 then
      if v10.1.Number = 2 then
       Option.bind (ref22_Same_S v10.1.Writes ([v11] : List api_Write)) fun v13 =>
       some (v13)
      else
       some (false)
     else
      some (false)
    else
     some (false)
   else
    some (false)
  else
   some (false)
theorem law23_awake_J1_sound (v8 : api_Capture × api_Cycle × Int) (s : Unit) {Φ : Bool → Prop} {o} (h : Z153 v8 s = some o) (hK : Φ o) : Z71 v8 Φ s := by
  unfold Z153 at h
  unfold Z71
  exact blS h fun _ hv h => cycle_Close_sound _ _ _ hv (blS h fun _ hv h => cycle_Compose_sound _ _ hv (blS h fun _ hv h => law23_write_sound _ _ _ hv (ifS h (fun h => ifS h (fun h => blS h fun _ hv h => ref22_Same_sound _ _ hv (ifS h (fun h => ifS h (fun h => ifS h (fun h => blS h fun _ hv h => ref22_Same_sound _ _ hv (have t := lfS h hK; t)) fun h => have t := lfS h hK; t) fun h => have t := lfS h hK; t) fun h => have t := lfS h hK; t)) fun h => have t := lfS h hK; t) fun h => have t := lfS h hK; t)))
def law23_awake_S : Option (Bool) :=
 Option.bind (cycle_Open_S ([4] : List Int) 2 0) fun v1 =>
 Option.bind (law23_write_S 0 1 ([97#8] : List (BitVec 8))) fun z =>
 let v2 : api_Write × Unit := (z, ())
 Option.bind (cycle_Add_S v1.1 0 v2.1) fun z =>
 let v3 : api_Capture × Int × Unit := (z.1, z.2, ())
 Option.bind (law23_write_S 0 1 ([98#8] : List (BitVec 8))) fun z =>
 let v4 : api_Write × Unit := (z, ())
 Option.bind (cycle_Add_S v3.1 1 v4.1) fun z =>
 let v5 : api_Capture × Int × Unit := (z.1, z.2, ())
 Option.bind (law23_write_S 0 2 ([99#8] : List (BitVec 8))) fun z =>
 let v6 : api_Write × Unit := (z, ())
 Option.bind (cycle_Add_S v5.1 0 v6.1) fun z =>
 let v7 : api_Capture × Int × Unit := (z.1, z.2, ())
 Option.bind (cycle_Close_S v7.1 5 ([0, 1] : List Int)) fun v8 =>
 if inI (v1.2 + v3.2.1) then
 if inI ((v1.2 + v3.2.1) + v5.2.1) then
 if inI (((v1.2 + v3.2.1) + v5.2.1) + v7.2.1) then
 if inI ((((v1.2 + v3.2.1) + v5.2.1) + v7.2.1) + v8.2.2) then
 if ((((v1.2 + v3.2.1) + v5.2.1) + v7.2.1) + v8.2.2) ≠ 0 then
  some (false)
 else
  if v8.2.1.Base ≠ 0 then
   some (false)
  else
   if v8.2.1.Number ≠ 1 then
    some (false)
   else
    Option.bind (law23_write_S 0 1 ([98#8] : List (BitVec 8))) fun z =>
    let v14 : api_Write × Unit := (z, ())
    Option.bind (ref22_Same_S v8.2.1.Writes ([v14.1] : List api_Write)) fun z =>
    let v15 : Bool × Unit := (z, ())
    if ¬ (v15.1 = true) then
     some (false)
    else
     Option.bind (law23_write_S 0 1 ([98#8] : List (BitVec 8))) fun z =>
     let v16 : api_Write × Unit := (z, ())
     Option.bind (law23_write_S 0 2 ([99#8] : List (BitVec 8))) fun z =>
     let v17 : api_Write × Unit := (z, ())
     Option.bind (ref22_Same_S v8.1.Writes ([v16.1, v17.1] : List api_Write)) fun z =>
     let v18 : Bool × Unit := (z, ())
     if ¬ (v18.1 = true) then
      some (false)
     else
      Z153 v8 ()
 else none
 else none
 else none
 else none
theorem law23_awake_sound {Φ : Bool → Prop} {o} (h : law23_awake_S = some o) (hK : Φ o) : law23_awake_W Φ := by
  unfold law23_awake_S at h
  unfold law23_awake_W
  exact blS h fun _ hv h => cycle_Open_sound _ _ _ hv (blS h fun _ hv h => ⟨_, law23_write_sound _ _ _ hv rfl, blS h fun _ hv h => ⟨_, cycle_Add_sound _ _ _ hv rfl, blS h fun _ hv h => ⟨_, law23_write_sound _ _ _ hv rfl, blS h fun _ hv h => ⟨_, cycle_Add_sound _ _ _ hv rfl, blS h fun _ hv h => ⟨_, law23_write_sound _ _ _ hv rfl, blS h fun _ hv h => ⟨_, cycle_Add_sound _ _ _ hv rfl, blS h fun _ hv h => cycle_Close_sound _ _ _ hv (adS h fun h => adS h fun h => adS h fun h => adS h fun h => ifS h (fun h => have t := lfS h hK; t) fun h => ifS h (fun h => have t := lfS h hK; t) fun h => ifS h (fun h => have t := lfS h hK; t) fun h => blS h fun _ hv h => ⟨_, law23_write_sound _ _ _ hv rfl, blS h fun _ hv h => ⟨_, ref22_Same_sound _ _ hv rfl, ifS h (fun h => have t := lfS h hK; t) fun h => blS h fun _ hv h => ⟨_, law23_write_sound _ _ _ hv rfl, blS h fun _ hv h => ⟨_, law23_write_sound _ _ _ hv rfl, blS h fun _ hv h => ⟨_, ref22_Same_sound _ _ hv rfl, ifS h (fun h => have t := lfS h hK; t) fun h => law23_awake_J1_sound _ _ h hK⟩⟩⟩⟩⟩)⟩⟩⟩⟩⟩⟩)
theorem law23_awake_ok {Φ : Bool → Prop} (h : Φ true) : law23_awake_W Φ := law23_awake_sound (o := true) (by kernel_rfl) h
def mostL : List Int := List.replicate 8 4096
def cyc0 : api_Cycle := ⟨0, 0, 0, [], []⟩
def backE (a b : api_Cycle) : Int := firstN (fun k => if ix b.Positions (k : Int) < ix a.Positions (k : Int) then 2 else 0) a.Positions.length
def comE (a b : api_Cycle) : Int :=
  if cycE a mostL ≠ 0 then cycE a mostL else if cycE b mostL ≠ 0 then cycE b mostL else if b.Base ≠ a.Number then 15 else if a.Positions.length ≠ b.Positions.length then 6 else if b.Time < a.Time then 24 else if backE a b ≠ 0 then backE a b else (mergeR a.Writes b.Writes).2
def comR (a b : api_Cycle) : api_Cycle × Int := if comE a b ≠ 0 then (cyc0, comE a b) else (⟨a.Base, b.Number, b.Time, b.Positions, (mergeR a.Writes b.Writes).1⟩, 0)
theorem cycle_largest_ok {Φ : List Int → Prop} (hΦ : Φ mostL) : Z51 Φ := cycle_largest_sound (o := mostL) (by kernel_rfl) hΦ
theorem comE_a {a b : api_Cycle} (h : comE a b = 0) : cycE a mostL = 0 := Classical.byContradiction fun t => by unfold comE at h; rw [if_pos t] at h; exact t h
theorem comE_b {a b : api_Cycle} (h : comE a b = 0) : cycE b mostL = 0 := Classical.byContradiction fun t => by unfold comE at h; rw [if_neg (fun q => q (comE_a h)), if_pos t] at h; exact t h
theorem most_sizes : sizesE mostL = 0 := by decide
theorem FewC.small {c : api_Cycle} (h : FewC c) : ∀ w ∈ c.Writes, w.Data.length ≤ 1000000 := fun w hw => by have := h.data w hw; omega
theorem cycle_Compose_ok {a b : api_Cycle} {Φ : api_Cycle × Int → Prop} (ha : FewC a) (hb : FewC b) (hΦ : Φ (comR a b)) : Z70 a b Φ := by
  have a1 := ha.pos
  have a2 := ha.len
  have b1 := hb.pos
  have b2 := hb.len
  have er : ∀ e, comE a b = e → e ≠ 0 → Φ (cyc0, e) := fun e h1 h2 => by unfold comR at hΦ; rw [h1, if_pos h2] at hΦ; exact hΦ
  refine LoopW.upI 2 (fun k => (k : Int)) (fun k => (0 < k → cycE a mostL = 0) ∧ (1 < k → cycE b mostL = 0)) rfl ⟨fun h => absurd h (Nat.lt_irrefl 0), fun h => absurd h (by omega)⟩ (fun k rec hk hI hr => ⟨fun _ => ⟨iX (by omega) (by show (k : Int) < ((2 : Nat) : Int); omega), (mostL, ()), cycle_largest_ok rfl, ?_⟩, fun q => absurd (show (k : Int) < ((2 : Nat) : Int) by omega) q⟩) fun rec hI => ⟨fun q => absurd q (by show ¬ (((2 : Nat) : Int) < ((2 : Nat) : Int)); omega), fun _ => ?_⟩
  · rcases Nat.lt_or_ge k 1 with q | q
    · obtain rfl : k = 0 := by omega
      exact ⟨(cycE a mostL, ()), cycle_Check_ok (c := a) (by omega) (by omega) ha.small rfl, fun t => er _ (by unfold comE; rw [if_pos t]) t, fun t => ⟨iI (by omega) (by omega), hr ⟨fun _ => Classical.not_not.1 t, fun h => absurd h (by omega)⟩ _ rfl⟩⟩
    · obtain rfl : k = 1 := by omega
      have h0 := hI.1 (by omega)
      exact ⟨(cycE b mostL, ()), cycle_Check_ok (c := b) (by omega) (by omega) hb.small rfl, fun t => er _ (by unfold comE; rw [if_neg (fun q => q h0), if_pos t]) t, fun t => ⟨iI (by omega) (by omega), hr ⟨fun _ => h0, fun _ => Classical.not_not.1 t⟩ _ rfl⟩⟩
  · have e1 := hI.1 (by omega)
    have e2 := hI.2 (by omega)
    have ce : comE a b = if b.Base ≠ a.Number then 15 else if a.Positions.length ≠ b.Positions.length then 6 else if b.Time < a.Time then 24 else if backE a b ≠ 0 then backE a b else (mergeR a.Writes b.Writes).2 := by unfold comE; rw [if_neg (fun q => q e1), if_neg (fun q => q e2)]
    refine ⟨fun q => er 15 (by rw [ce, if_pos q]) (by omega), fun q => ⟨fun r => er 6 (by rw [ce, if_neg q, if_pos (by omega)]) (by omega), fun r => ⟨fun s => er 24 (by rw [ce, if_neg q, if_neg (by omega), if_pos s]) (by omega), fun s => ?_⟩⟩⟩
    rw [if_neg q, if_neg (by omega), if_neg s] at ce
    refine LoopW.errI a.Positions.length (fun k => (k : Int)) (fun k => if ix b.Positions (k : Int) < ix a.Positions (k : Int) then 2 else 0) (Ψ := fun o => o = backE a b) rfl rfl (fun k rec hk hj g1 g2 => ⟨fun _ => ⟨iX (by omega) (by omega), iX (by omega) (by omega), fun t => ?_, fun t => ⟨iI (by omega) (by omega), g2 (if_neg t) _ rfl⟩⟩, fun _ => by omega⟩) fun rec _ c0 => ⟨fun _ => by omega, fun _ => ?_⟩
    · rw [if_pos t] at g1
      have := g1 (by omega)
      exact er 2 (by rw [ce, ← this, if_pos (by omega)]) (by omega)
    · rw [← c0, if_neg (fun t => t rfl)] at ce
      refine coalesce_Merge_ok (by omega) (by omega) ha.small hb.small ⟨fun t => er _ ce t, fun t => ⟨(b.Positions, ()), slices_Clone_int_ok (by omega) rfl, ?_⟩⟩
      unfold comR at hΦ
      rw [if_neg (by rw [ce]; exact t)] at hΦ
      exact hΦ
def appR (im : List (List Sec)) (c : api_Cycle) : List (List Sec) × Int := if imgE im ≠ 0 then ([], imgE im) else if cycE c (szs im) ≠ 0 then ([], cycE c (szs im)) else (appL im c.Writes, 0)
theorem cycE_wrs {c : api_Cycle} {sizes : List Int} (h : cycE c sizes = 0) : wrsE sizes c.Writes = 0 := by
  unfold cycE at h
  split at h
  · next q => exact absurd h q
  split at h
  · omega
  split at h
  · omega
  split at h
  · next q => exact absurd h q
  exact h
theorem wrs_fit {sizes : List Int} {l : List api_Write} (h : wrsE sizes l = 0) : ∀ w ∈ l, fitW sizes w = 0 := fun w hw => by
  obtain ⟨k, hk, rfl⟩ := List.getElem_of_mem hw
  have := ordW_fit (firstN_zero.1 h k hk)
  rwa [ix_get hk] at this
theorem cycle_Apply_ok {im : List (List Sec)} {c : api_Cycle} {Φ : List (List Sec) × Int → Prop} (hi : im.length ≤ 100000) (hp : c.Positions.length ≤ 100000) (hl : c.Writes.length ≤ 100000) (hd : ∀ w ∈ c.Writes, w.Data.length ≤ 1000000) (hΦ : Φ (appR im c)) : cycle_Apply_W im c Φ := by
  unfold appR at hΦ
  refine image_Check_ok hi ⟨fun q => by rw [if_pos q] at hΦ; exact hΦ, fun q => ?_⟩
  rw [if_neg q] at hΦ
  refine LoopW.upT im.length (fun k => ((k : Int), (im.take k).map fun v => (v.length : Int))) rfl (fun k rec hk hr => ⟨fun _ => ⟨iX (by omega) (by omega), iL (by rw [len_snoc, List.length_map, lenT (by omega)]; omega) (by omega), iI (by omega) (by omega), hr _ (by rw [map_take_snoc _ hk]; rfl)⟩, fun _ => by omega⟩) fun rec => ⟨fun _ => by omega, fun _ => ?_⟩
  rw [take_all]
  show cycle_Check_W c (szs im) _
  refine cycle_Check_ok hp hl hd ⟨fun t => by rw [if_pos t] at hΦ; exact hΦ, fun t => ?_⟩
  rw [if_neg t] at hΦ
  exact image_Apply_ok (by omega) (Classical.not_not.1 q) (wrs_fit (cycE_wrs (Classical.not_not.1 t))) hΦ
theorem ref07_Few_by {im : List (List Sec)} {Φ : Bool → Prop} (h0 : Φ false) (h1 : im.length ≤ 9 → Φ true) : ref07_Few_W im Φ := by
  refine ⟨fun _ => h0, fun q => LoopW.upT im.length (fun k => (k : Int)) rfl (fun k rec hk hr => ⟨fun _ => ⟨iX (by omega) (by omega), fun _ => h0, fun _ => ⟨iI (by omega) (by omega), hr _ rfl⟩⟩, fun _ => by omega⟩) fun rec => ⟨fun _ => by omega, fun _ => h1 (by omega)⟩⟩
theorem ref07_SameVolume_refl {l : List Sec} {Φ : Bool → Prop} (hl : l.length ≤ 1000000) (hΦ : Φ true) : Z100 l l Φ :=
  ⟨fun h => absurd rfl h, fun _ => LoopW.upT l.length (fun k => (k : Int)) rfl (fun k rec hk hr => ⟨fun hlt => ⟨iX (by omega) hlt, iX (by omega) hlt, fun q => absurd rfl q, fun _ => ⟨iI (by omega) (by omega), hr _ rfl⟩⟩, fun q => absurd (show (k : Int) < (l.length : Int) by omega) q⟩) fun rec => ⟨fun q => absurd q (by omega), fun _ => hΦ⟩⟩
theorem ref07_Same_refl {im : List (List Sec)} {Φ : Bool → Prop} (hi : im = [] ∨ imgE im = 0) (hΦ : Φ true) : ref07_Same_W im im Φ := by
  have hs : im.length ≤ 1000000 ∧ ∀ k : Nat, k < im.length → (ix im (k : Int)).length ≤ 1000000 := by
    rcases hi with rfl | hi
    · exact ⟨Nat.zero_le _, fun k hk => absurd hk (Nat.not_lt_zero k)⟩
    · have := sizesE_len hi
      rw [szs_len] at this
      exact ⟨by omega, fun k hk => by have := szs_small hi k hk; omega⟩
  have h1 := hs.1
  exact ⟨fun h => absurd rfl h, fun _ => LoopW.upT im.length (fun k => (k : Int)) rfl (fun k rec hk hr => ⟨fun hlt => ⟨iX (by omega) hlt, iX (by omega) hlt, (true, ()), ref07_SameVolume_refl (hs.2 k hk) rfl, fun q => absurd rfl q, fun _ => ⟨iI (by omega) (by omega), hr _ rfl⟩⟩, fun q => absurd (show (k : Int) < (im.length : Int) by omega) q⟩) fun rec => ⟨fun q => absurd q (by omega), fun _ => hΦ⟩⟩
theorem secN_bound {c : Nat} : ∀ l : List api_Write, (∀ w ∈ l, w.Data.length ≤ c) → secN l ≤ l.length * c
  | [], _ => Nat.zero_le _
  | w :: l, h => by
    have h1 := secN_bound l fun x hx => h x (List.mem_cons_of_mem _ hx)
    have h2 := h w (List.mem_cons_self ..)
    have : secN (w :: l) = w.Data.length + secN l := by simp [secN]
    rw [this, List.length_cons, Nat.succ_mul]; omega
theorem secN_each {l : List api_Write} : ∀ w ∈ l, w.Data.length ≤ secN l := fun w hw => by
  obtain ⟨a, b, rfl⟩ := List.append_of_mem hw
  rw [secN_append, show w :: b = [w] ++ b from rfl, secN_append, secN_one]; omega
theorem FewC.secs {c : api_Cycle} (h : FewC c) : secN c.Writes ≤ 1000 := by
  have h1 := secN_bound c.Writes h.data
  have h2 := Nat.mul_le_mul_right 24 h.len
  omega
theorem can_len {m : List (coalesce_place × Sec)} {ws : List api_Write} (c : Can m ws) : ws.length ≤ m.length := by
  rw [← c.sum]
  have : ∀ l : List api_Write, (∀ w ∈ l, 0 < w.Data.length) → l.length ≤ secN l := by
    intro l
    induction l with
    | nil => intro _; exact Nat.zero_le _
    | cons w l ih =>
      intro h
      have h1 := ih fun x hx => h x (List.mem_cons_of_mem _ hx)
      have h2 := h w (List.mem_cons_self ..)
      have : secN (w :: l) = w.Data.length + secN l := by simp [secN]
      rw [this, List.length_cons]; omega
  exact this ws c.ne
theorem com_parts {a b : api_Cycle} (h : comE a b = 0) : comR a b = (⟨a.Base, b.Number, b.Time, b.Positions, canL (effM (a.Writes ++ b.Writes))⟩, 0) ∧ b.Base = a.Number := by
  have h1 := comE_a h
  have h2 := comE_b h
  refine ⟨?_, ?_⟩
  · unfold comR
    rw [if_neg (fun t => t h)]
    unfold comE at h
    rw [if_neg (fun q => q h1), if_neg (fun q => q h2)] at h
    split at h
    · omega
    split at h
    · omega
    split at h
    · omega
    split at h
    · next q => exact absurd h q
    unfold mergeR at h ⊢
    split at h
    · next q => exact absurd h q
    split at h
    · next q => exact absurd h q
    next q1 q2 => rw [if_neg q1, if_neg q2]
  · unfold comE at h
    rw [if_neg (fun q => q h1), if_neg (fun q => q h2)] at h
    split at h
    · omega
    · next q => exact Classical.not_not.1 q
structure Can0 (m : List (coalesce_place × Sec)) (ws : List api_Write) : Prop where
  ne : ∀ w ∈ ws, 0 < w.Data.length
  gap : ws.Pairwise gapW
  mem : ∀ w ∈ ws, ∀ j : Nat, j < w.Data.length → mfind m ⟨w.Volume, w.Start + (j : Int)⟩ = some (ix w.Data (j : Int))
  cov : ∀ p d, mfind m p = some d → ∃ w ∈ ws, w.Volume = p.volume ∧ w.Start ≤ p.sector ∧ p.sector < w.Start + (w.Data.length : Int)
theorem Can.to0 {m : List (coalesce_place × Sec)} {ws : List api_Write} (c : Can m ws) : Can0 m ws := ⟨c.ne, c.gap, c.mem, c.cov⟩
def CvW (ws : List api_Write) (p : coalesce_place) (d : Sec) : Prop := ∃ w ∈ ws, ∃ j : Nat, j < w.Data.length ∧ p = ⟨w.Volume, w.Start + (j : Int)⟩ ∧ d = ix w.Data (j : Int)
theorem Can0.cv {m : List (coalesce_place × Sec)} {ws : List api_Write} (c : Can0 m ws) (p : coalesce_place) (d : Sec) : CvW ws p d ↔ mfind m p = some d := by
  constructor
  · rintro ⟨w, hw, j, hj, rfl, rfl⟩; exact c.mem w hw j hj
  · intro h
    obtain ⟨w, hw, h1, h2, h3⟩ := c.cov p d h
    obtain ⟨j, hj⟩ := Int.eq_ofNat_of_zero_le (show 0 ≤ p.sector - w.Start by omega)
    have e : p = ⟨w.Volume, w.Start + (j : Int)⟩ := place_ext h1.symm (by show p.sector = w.Start + (j : Int); omega)
    have := c.mem w hw j (by omega)
    rw [← e, h] at this
    exact ⟨w, hw, j, by omega, e, Option.some.inj this⟩
theorem cv_first {w : api_Write} {r : List api_Write} (hg : (w :: r).Pairwise gapW) {p : coalesce_place} {d : Sec} (h : CvW (w :: r) p d) : w.Volume < p.volume ∨ w.Volume = p.volume ∧ w.Start ≤ p.sector := by
  obtain ⟨x, hx, j, hj, rfl, rfl⟩ := h
  show w.Volume < x.Volume ∨ w.Volume = x.Volume ∧ w.Start ≤ x.Start + (j : Int)
  rcases List.mem_cons.1 hx with rfl | hx
  · exact .inr ⟨rfl, by omega⟩
  · have := (List.pairwise_cons.1 hg).1 x hx
    unfold gapW at this
    omega
theorem cv_len {w w' : api_Write} {r r' : List api_Write} (hg : (w :: r).Pairwise gapW) (hv : w'.Volume = w.Volume) (hs : w'.Start = w.Start) (h : ∀ p d, CvW (w' :: r') p d → CvW (w :: r) p d) : w'.Data.length ≤ w.Data.length := by
  refine Nat.le_of_not_lt fun hlt => ?_
  obtain ⟨x, hx, j, hj, e, _⟩ := h ⟨w'.Volume, w'.Start + (w.Data.length : Int)⟩ _ ⟨w', List.mem_cons_self .., w.Data.length, hlt, rfl, rfl⟩
  have e1 : w'.Volume = x.Volume := congrArg coalesce_place.volume e
  have e2 : w'.Start + (w.Data.length : Int) = x.Start + (j : Int) := congrArg coalesce_place.sector e
  rcases List.mem_cons.1 hx with rfl | hx
  · omega
  · have := (List.pairwise_cons.1 hg).1 x hx
    unfold gapW at this
    omega
theorem cv_uniq : ∀ (a b : List api_Write), (∀ w ∈ a, 0 < w.Data.length) → a.Pairwise gapW → (∀ w ∈ b, 0 < w.Data.length) → b.Pairwise gapW → (∀ p d, CvW a p d ↔ CvW b p d) → a = b
  | [], [], _, _, _, _, _ => rfl
  | [], w :: r, _, _, nb, _, h => by
    obtain ⟨x, hx, _⟩ := (h _ _).2 ⟨w, List.mem_cons_self .., 0, nb w (List.mem_cons_self ..), rfl, rfl⟩
    exact absurd hx List.not_mem_nil
  | w :: r, [], na, _, _, _, h => by
    obtain ⟨x, hx, _⟩ := (h _ _).1 ⟨w, List.mem_cons_self .., 0, na w (List.mem_cons_self ..), rfl, rfl⟩
    exact absurd hx List.not_mem_nil
  | w :: r, w' :: r', na, ga, nb, gb, h => by
    have h1 := na w (List.mem_cons_self ..)
    have h2 := nb w' (List.mem_cons_self ..)
    have f1 := cv_first ga ((h _ _).2 ⟨w', List.mem_cons_self .., 0, h2, rfl, rfl⟩)
    have f2 := cv_first gb ((h _ _).1 ⟨w, List.mem_cons_self .., 0, h1, rfl, rfl⟩)
    simp only at f1 f2
    have hv : w'.Volume = w.Volume := by omega
    have hs : w'.Start = w.Start := by omega
    have hl : w'.Data.length = w.Data.length := Nat.le_antisymm (cv_len ga hv hs fun p d q => (h p d).2 q) (cv_len gb hv.symm hs.symm fun p d q => (h p d).1 q)
    have g1 := List.pairwise_cons.1 ga
    have g2 := List.pairwise_cons.1 gb
    have hd : w.Data = w'.Data := by
      refine ext_ix hl.symm fun j hj => ?_
      obtain ⟨x, hx, i, hi, e, ed⟩ := (h _ _).1 ⟨w, List.mem_cons_self .., j, hj, rfl, rfl⟩
      have e1 : w.Volume = x.Volume := congrArg coalesce_place.volume e
      have e2 : w.Start + (j : Int) = x.Start + (i : Int) := congrArg coalesce_place.sector e
      rcases List.mem_cons.1 hx with rfl | hx
      · obtain rfl : j = i := by omega
        exact ed
      · have := g2.1 x hx
        unfold gapW at this
        omega
    have hw : w = w' := by
      cases w; cases w'
      simp only at hv hs hd
      subst hv hs hd; rfl
    subst hw
    rw [cv_uniq r r' (fun x hx => na x (List.mem_cons_of_mem _ hx)) g1.2 (fun x hx => nb x (List.mem_cons_of_mem _ hx)) g2.2 fun p d => ?_]
    have one : ∀ {s t : List api_Write}, (∀ x ∈ s, gapW w x) → (∀ p d, CvW (w :: s) p d → CvW (w :: t) p d) → CvW s p d → CvW t p d := fun {s t} gs hst hc => by
      obtain ⟨x, hx, i, hi, e, ed⟩ := hc
      obtain ⟨y, hy, k, hk, e', ed'⟩ := hst p d ⟨x, List.mem_cons_of_mem _ hx, i, hi, e, ed⟩
      rcases List.mem_cons.1 hy with rfl | hy
      · rw [e] at e'
        have e1 : x.Volume = y.Volume := congrArg coalesce_place.volume e'
        have e2 : x.Start + (i : Int) = y.Start + (k : Int) := congrArg coalesce_place.sector e'
        have := gs x hx
        unfold gapW at this
        omega
      · exact ⟨y, hy, k, hk, e', ed'⟩
    exact ⟨one g1.1 fun p d q => (h p d).1 q, one g2.1 fun p d q => (h p d).2 q⟩
theorem Can0.uniq {m : List (coalesce_place × Sec)} {a b : List api_Write} (ca : Can0 m a) (cb : Can0 m b) : a = b :=
  cv_uniq a b ca.ne ca.gap cb.ne cb.gap fun p d => (ca.cv p d).trans (cb.cv p d).symm
theorem PlL.at {l : List api_Write} (hp : PlL l) {k : Nat} (hk : k < l.length) : 0 ≤ (ix l (k : Int)).Volume ∧ (ix l (k : Int)).Volume < 8 ∧ 0 < (ix l (k : Int)).Data.length ∧ 0 ≤ (ix l (k : Int)).Start ∧ (ix l (k : Int)).Start + ((ix l (k : Int)).Data.length : Int) ≤ 4096 := placed0 (hp _ (ix_mem (iX (by omega) (by omega))))
theorem eff_take {l : List api_Write} {k : Nat} (hk : k < l.length) (q : coalesce_place) : mfind (effM (l.take (k + 1))) q = if q.volume = (ix l (k : Int)).Volume ∧ (ix l (k : Int)).Start ≤ q.sector ∧ q.sector < (ix l (k : Int)).Start + ((ix l (k : Int)).Data.length : Int) then some (ix (ix l (k : Int)).Data (q.sector - (ix l (k : Int)).Start)) else mfind (effM (l.take k)) q := by
  rw [take_ix hk, effM_snoc, wrM_find]
theorem ref22_holds_ok {w : api_Write} {v s : Int} {Φ : Int × Bool → Prop} (hw : 0 < w.Data.length ∧ 0 ≤ w.Start ∧ w.Start ≤ 4096) (hd : w.Data.length ≤ 1000000) (hs : 0 ≤ s ∧ s ≤ 1000000) (h1 : v = w.Volume ∧ w.Start ≤ s ∧ s < w.Start + (w.Data.length : Int) → Φ (s - w.Start, true)) (h0 : ¬ (v = w.Volume ∧ w.Start ≤ s ∧ s < w.Start + (w.Data.length : Int)) → ∀ n, Φ (n, false)) : ref22_holds_W w v s Φ := by
  refine ⟨fun q => ⟨fun _ => h0 (fun t => q t.1.symm) 0, fun r => absurd rfl r⟩, fun q => ⟨fun r => by omega, fun r => ?_⟩⟩
  by_cases hh : s < w.Start
  · rw [decide_eq_true hh]; exact ⟨fun _ => h0 (by omega) 0, fun r => absurd rfl r⟩
  · rw [decide_eq_false hh]
    refine ⟨fun r => Bool.noConfusion r, fun _ => ⟨fun r => by omega, fun _ => ⟨fun r => Bool.noConfusion r, fun _ => ⟨iI (by omega) (by omega), ?_⟩⟩⟩⟩
    by_cases hc : s - w.Start < (w.Data.length : Int)
    · rw [decide_eq_true hc]; exact h1 ⟨by have := Classical.not_not.1 q; exact this.symm, by omega, by omega⟩
    · rw [decide_eq_false hc]; exact h0 (by omega) _
theorem ref22_Lookup_ok {l : List api_Write} {v s : Int} {Φ : Sec × Bool → Prop} (hl : l.length ≤ 1000000) (hp : PlL l) (hs : 0 ≤ s ∧ s ≤ 1000000) (hΦ : Φ (mget (effM l) ⟨v, s⟩ sec0, mhas (effM l) ⟨v, s⟩)) : Z84 l v s Φ := by
  refine ⟨iI (by omega) (by omega), ?_⟩
  refine LoopW.of_inv (fun i => ∃ k : Nat, i = (k : Int) - 1 ∧ k ≤ l.length ∧ mfind (effM l) ⟨v, s⟩ = mfind (effM (l.take k)) ⟨v, s⟩) (fun i => (i + 1).toNat) ?_ ⟨l.length, rfl, Nat.le_refl _, by rw [take_all]⟩
  rintro _ rec ⟨k, rfl, hk, he⟩ hrec
  cases k with
  | zero =>
    refine ⟨fun q => by omega, fun _ => ?_⟩
    have e : mfind (effM l) ⟨v, s⟩ = none := he
    unfold mget mhas at hΦ
    rw [e] at hΦ
    exact hΦ
  | succ k =>
    rw [show ((k + 1 : Nat) : Int) - 1 = (k : Int) by omega]
    have hw := hp.at (show k < l.length by omega)
    rw [eff_take (by omega)] at he
    refine ⟨fun _ => ⟨iX (by omega) (by omega), ref22_holds_ok (by omega) (by omega) hs (fun c => ?_) fun c n => ?_⟩, fun q => by omega⟩
    · rw [if_pos c] at he
      refine ⟨fun _ => ⟨iX (by omega) (by omega), iX (by show 0 ≤ s - _; omega) (by show s - _ < _; omega), ?_⟩, fun q => absurd rfl q⟩
      unfold mget mhas at hΦ
      rw [he] at hΦ
      exact hΦ
    · rw [if_neg c] at he
      refine ⟨fun q => Bool.noConfusion q, fun _ => ⟨iI (by omega) (by omega), hrec _ ⟨k, rfl, by omega, he⟩ ?_⟩⟩
      omega
def extsL (p : Nat → Bool) : Nat → List api_Extent
  | 0 => []
  | k + 1 => if p k = false then extsL p k else if 0 < k ∧ p (k - 1) = true then put (extsL p k) (((extsL p k).length : Int) - 1) ⟨(ix (extsL p k) (((extsL p k).length : Int) - 1)).Start, (ix (extsL p k) (((extsL p k).length : Int) - 1)).Count + 1⟩ else extsL p k ++ [⟨(k : Int), 1⟩]
theorem put_last {α : Type} [Dt α] (xs : List α) (x y : α) : put (xs ++ [x]) (((xs ++ [x]).length : Int) - 1) y = xs ++ [y] := by
  have e : (((xs ++ [x]).length : Nat) : Int) - 1 = (xs.length : Int) := by rw [len_snoc]; omega
  rw [e]
  show (xs ++ [x]).set xs.length _ = _
  rw [List.set_append_right _ _ (Nat.le_refl _), Nat.sub_self]; rfl
theorem ix_last {α : Type} [Dt α] (xs : List α) (x : α) : ix (xs ++ [x]) (((xs ++ [x]).length : Int) - 1) = x := by
  have e : (((xs ++ [x]).length : Nat) : Int) - 1 = (xs.length : Int) := by rw [len_snoc]; omega
  rw [e, ix_snoc _ _ _ (by rw [len_snoc]; omega), if_pos rfl]
structure ExtP (p : Nat → Bool) (k : Nat) (E : List api_Extent) : Prop where
  ne : ∀ e ∈ E, 0 ≤ e.Start ∧ 0 < e.Count
  gap : E.Pairwise fun e f => e.Start + e.Count < f.Start
  cov : ∀ i : Nat, (i < k ∧ p i = true) ↔ ∃ e ∈ E, e.Start ≤ (i : Int) ∧ (i : Int) < e.Start + e.Count
  top : ∀ e ∈ E, e.Start + e.Count ≤ (k : Int)
  last : 0 < k → p (k - 1) = true → ∃ F e, E = F ++ [e] ∧ e.Start + e.Count = (k : Int)
  len : E.length ≤ k
theorem ExtP.below {p : Nat → Bool} {k : Nat} {E : List api_Extent} (g : ExtP p k E) (h : ¬ (0 < k ∧ p (k - 1) = true)) : ∀ e ∈ E, e.Start + e.Count < (k : Int) := fun e he => by
  have h1 := g.ne e he
  have h2 := g.top e he
  by_cases q : e.Start + e.Count = (k : Int)
  · exact absurd ⟨by omega, ((g.cov (k - 1)).2 ⟨e, he, by omega, by omega⟩).2⟩ h
  · omega
theorem exts_ok (p : Nat → Bool) : ∀ k, ExtP p k (extsL p k)
  | 0 => ⟨fun e he => absurd he List.not_mem_nil, List.Pairwise.nil, fun i => ⟨fun h => absurd h.1 (Nat.not_lt_zero i), fun ⟨e, he, _⟩ => absurd he List.not_mem_nil⟩, fun e he => absurd he List.not_mem_nil, fun h => absurd h (Nat.lt_irrefl 0), Nat.le_refl _⟩
  | k + 1 => by
    have g := exts_ok p k
    unfold extsL
    by_cases h0 : p k = false
    · rw [if_pos h0]
      refine ⟨g.ne, g.gap, fun i => Iff.trans ⟨fun h => ⟨?_, h.2⟩, fun h => ⟨by omega, h.2⟩⟩ (g.cov i), fun e he => (by have := g.top e he; omega), fun _ h => (by rw [show k + 1 - 1 = k by omega, h0] at h; exact Bool.noConfusion h), (by have := g.len; omega)⟩
      have : i ≠ k := by rintro rfl; rw [h0] at h; exact Bool.noConfusion h.2
      omega
    · rw [if_neg h0]
      have h0 : p k = true := by cases hq : p k with
        | true => rfl
        | false => exact absurd hq h0
      by_cases h1 : 0 < k ∧ p (k - 1) = true
      · rw [if_pos h1]
        obtain ⟨F, e, hE, he⟩ := g.last h1.1 h1.2
        rw [hE, put_last, ix_last]
        rw [hE] at g
        have gp := List.pairwise_append.1 g.gap
        have ge := g.ne e (by simp)
        refine ⟨fun x hx => ?_, List.pairwise_append.2 ⟨gp.1, by simp, fun x hx y hy => ?_⟩, fun i => ?_, fun x hx => ?_, fun _ _ => ⟨F, _, rfl, by show e.Start + (e.Count + 1) = _; omega⟩, by have := g.len; rw [len_snoc] at *; omega⟩
        · rcases List.mem_append.1 hx with hx | hx
          · exact g.ne x (List.mem_append_left _ hx)
          · obtain rfl := List.mem_singleton.1 hx
            exact ⟨ge.1, by show 0 < e.Count + 1; omega⟩
        · obtain rfl := List.mem_singleton.1 hy
          exact gp.2.2 x hx e (by simp)
        · constructor
          · rintro ⟨h2, h3⟩
            by_cases hi : i = k
            · exact ⟨⟨e.Start, e.Count + 1⟩, by simp, by show e.Start ≤ _; omega, by show (i : Int) < e.Start + (e.Count + 1); omega⟩
            · obtain ⟨x, hx, h4, h5⟩ := (g.cov i).1 ⟨by omega, h3⟩
              rcases List.mem_append.1 hx with hx | hx
              · exact ⟨x, List.mem_append_left _ hx, h4, h5⟩
              · obtain rfl := List.mem_singleton.1 hx
                exact ⟨⟨x.Start, x.Count + 1⟩, by simp, h4, by show (i : Int) < x.Start + (x.Count + 1); omega⟩
          · rintro ⟨x, hx, h4, h5⟩
            rcases List.mem_append.1 hx with hx | hx
            · have := (g.cov i).2 ⟨x, List.mem_append_left _ hx, h4, h5⟩
              exact ⟨by omega, this.2⟩
            · obtain rfl := List.mem_singleton.1 hx
              have h4 : e.Start ≤ (i : Int) := h4
              have h5 : (i : Int) < e.Start + (e.Count + 1) := h5
              by_cases hi : i = k
              · rw [hi]; exact ⟨by omega, h0⟩
              · have := (g.cov i).2 ⟨e, by simp, h4, by omega⟩
                exact ⟨by omega, this.2⟩
        · rcases List.mem_append.1 hx with hx | hx
          · have := g.top x (List.mem_append_left _ hx); omega
          · obtain rfl := List.mem_singleton.1 hx
            show e.Start + (e.Count + 1) ≤ _; omega
      · rw [if_neg h1]
        have hb := g.below h1
        refine ⟨fun x hx => ?_, List.pairwise_append.2 ⟨g.gap, by simp, fun x hx y hy => ?_⟩, fun i => ?_, fun x hx => ?_, fun _ _ => ⟨_, _, rfl, by show (k : Int) + 1 = _; omega⟩, by have := g.len; rw [len_snoc]; omega⟩
        · rcases List.mem_append.1 hx with hx | hx
          · exact g.ne x hx
          · obtain rfl := List.mem_singleton.1 hx
            exact ⟨by show 0 ≤ (k : Int); omega, by show (0 : Int) < 1; omega⟩
        · obtain rfl := List.mem_singleton.1 hy
          exact hb x hx
        · constructor
          · rintro ⟨h2, h3⟩
            by_cases hi : i = k
            · exact ⟨⟨(k : Int), 1⟩, by simp, by show (k : Int) ≤ _; omega, by show (i : Int) < (k : Int) + 1; omega⟩
            · obtain ⟨x, hx, h4, h5⟩ := (g.cov i).1 ⟨by omega, h3⟩
              exact ⟨x, List.mem_append_left _ hx, h4, h5⟩
          · rintro ⟨x, hx, h4, h5⟩
            rcases List.mem_append.1 hx with hx | hx
            · have := (g.cov i).2 ⟨x, hx, h4, h5⟩
              exact ⟨by omega, this.2⟩
            · obtain rfl := List.mem_singleton.1 hx
              have h4 : (k : Int) ≤ (i : Int) := h4
              have h5 : (i : Int) < (k : Int) + 1 := h5
              obtain rfl : i = k := by omega
              exact ⟨by omega, h0⟩
        · rcases List.mem_append.1 hx with hx | hx
          · have := g.top x hx; omega
          · obtain rfl := List.mem_singleton.1 hx
            show (k : Int) + 1 ≤ _; omega
theorem extsL_succ (p : Nat → Bool) (k : Nat) : extsL p (k + 1) = if p k = false then extsL p k else if 0 < k ∧ p (k - 1) = true then put (extsL p k) (((extsL p k).length : Int) - 1) ⟨(ix (extsL p k) (((extsL p k).length : Int) - 1)).Start, (ix (extsL p k) (((extsL p k).length : Int) - 1)).Count + 1⟩ else extsL p k ++ [⟨(k : Int), 1⟩] := rfl
theorem pairE {α β : Type} {a a' : α} {b b' : β} (h1 : a = a') (h2 : b = b') : (a, b) = (a', b') := by rw [h1, h2]
def marksL (p : Nat → Bool) (n : Nat) : List Bool := (List.range n).map p
theorem marks_len (p : Nat → Bool) (n : Nat) : (marksL p n).length = n := by unfold marksL; rw [List.length_map, List.length_range]
theorem ix_marks {p : Nat → Bool} {n i : Nat} (h : i < n) : ix (marksL p n) (i : Int) = p i := by
  rw [ix_get (by rw [marks_len]; exact h)]; unfold marksL; simp
theorem marks_congr {p q : Nat → Bool} {n : Nat} (h : ∀ i, i < n → p i = q i) : marksL p n = marksL q n := by
  unfold marksL; exact List.map_congr_left fun i hi => h i (List.mem_range.1 hi)
theorem put_marks {p : Nat → Bool} {n a : Nat} (h : a < n) : put (marksL p n) (a : Int) true = marksL (fun i => decide (i = a) || p i) n := by
  refine ext_ix (by rw [put_len, marks_len, marks_len]) fun i hi => ?_
  rw [put_len, marks_len] at hi
  rw [ix_put _ _ (by rw [marks_len]; exact h), ix_marks hi, ix_marks hi]
  by_cases e : i = a
  · rw [if_pos e, decide_eq_true e, Bool.true_or]
  · rw [if_neg e, decide_eq_false e, Bool.false_or]
theorem ref01_List_ok {p : Nat → Bool} {n : Nat} {Φ : List api_Extent → Prop} (hn : n ≤ 100000) (hΦ : Φ (extsL p n)) : ref01_List_W (marksL p n) Φ := by
  refine LoopW.upT n (fun k => ((k : Int), extsL p k)) rfl (fun k rec hk hr => ⟨fun _ => ⟨iX (by omega) (by rw [marks_len]; omega), ?_⟩, fun q => absurd (show (k : Int) < ((marksL p n).length : Int) by rw [marks_len]; omega) q⟩) fun rec => ⟨fun q => absurd q (by rw [marks_len]; omega), fun _ => hΦ⟩
  rw [ix_marks hk]
  have g := exts_ok p k
  have gl := g.len
  refine ⟨fun q => ⟨iI (by omega) (by omega), hr _ ?_⟩, fun q => ?_⟩
  · show (_, _) = (_, extsL p (k + 1))
    rw [extsL_succ, if_pos (by cases hq : p k with
      | true => exact absurd hq q
      | false => rfl)]; rfl
  · have q : p k = true := Classical.not_not.1 q
    have J1 : 0 < k ∧ p (k - 1) = true → ref01_List_J2 (k : Int) (extsL p k) rec Φ true := fun h1 => by
      obtain ⟨F, e, hE, he⟩ := g.last h1.1 h1.2
      have hlen : 0 < (extsL p k).length := by rw [hE, len_snoc]; omega
      have ge := g.ne e (by rw [hE]; simp)
      have el : ix (extsL p k) (((extsL p k).length : Int) - 1) = e := by rw [hE, ix_last]
      refine ⟨fun _ => ⟨iI (by omega) (by omega), iX (by omega) (by omega), by rw [el]; exact iI (by omega) (by omega), iX (by omega) (by omega), iI (by omega) (by omega), hr _ ?_⟩, fun r => absurd rfl r⟩
      show (_, _) = (_, extsL p (k + 1))
      rw [extsL_succ, if_neg (by rw [q]; simp), if_pos h1]; rfl
    have J0 : ¬ (0 < k ∧ p (k - 1) = true) → ref01_List_J2 (k : Int) (extsL p k) rec Φ false := fun h1 => by
      refine ⟨fun r => Bool.noConfusion r, fun _ => ⟨iL (by rw [len_snoc]; omega) (by omega), iI (by omega) (by omega), hr _ ?_⟩⟩
      show (_, _) = (_, extsL p (k + 1))
      rw [extsL_succ, if_neg (by rw [q]; simp), if_neg h1]; rfl
    refine ⟨fun r => ⟨iI (by omega) (by omega), iX (by omega) (by rw [marks_len]; omega), ?_⟩, fun r => J0 (by omega)⟩
    rw [show (k : Int) - 1 = ((k - 1 : Nat) : Int) by omega, ix_marks (by omega)]
    cases hp : p (k - 1) with
    | true => exact J1 ⟨by omega, hp⟩
    | false => exact J0 fun t => by rw [hp] at t; exact Bool.noConfusion t.2
def effB (l : List api_Write) (v : Int) (i : Nat) : Bool := mhas (effM l) ⟨v, (i : Int)⟩
theorem effB_take {l : List api_Write} {k : Nat} (hk : k < l.length) (v : Int) (i : Nat) : effB (l.take (k + 1)) v i = (decide (v = (ix l (k : Int)).Volume ∧ (ix l (k : Int)).Start ≤ (i : Int) ∧ (i : Int) < (ix l (k : Int)).Start + ((ix l (k : Int)).Data.length : Int)) || effB (l.take k) v i) := by
  unfold effB mhas
  rw [eff_take hk]
  by_cases h : v = (ix l (k : Int)).Volume ∧ (ix l (k : Int)).Start ≤ (i : Int) ∧ (i : Int) < (ix l (k : Int)).Start + ((ix l (k : Int)).Data.length : Int)
  · rw [if_pos h, decide_eq_true h]; rfl
  · rw [if_neg h, decide_eq_false h]; rfl
theorem ref22_Extents_ok {l : List api_Write} {v : Int} {Φ : List api_Extent → Prop} (hl : l.length ≤ 1000000) (hp : PlL l) (hΦ : Φ (extsL (effB l v) 4096)) : Z80 l v Φ := by
  refine ⟨by omega, iL (by show 4096 ≤ 1000000; omega) (by omega), ?_⟩
  refine LoopW.upT l.length (fun k => ((k : Int), marksL (effB (l.take k) v) 4096)) (by
    refine pairE rfl ?_
    refine ext_ix (by rw [marks_len, List.length_replicate]; rfl) fun i hi => ?_
    have hi : i < 4096 := by rw [List.length_replicate] at hi; exact hi
    rw [ix_marks hi, ix_get (by rw [List.length_replicate]; exact hi), List.getElem_replicate]; rfl) (fun k rec hk hr => ⟨fun _ => ⟨iX (by omega) (by omega), ?_⟩, fun q => by omega⟩) fun rec => ⟨fun q => by omega, fun _ => by rw [take_all]; exact ref01_List_ok (by omega) hΦ⟩
  have hw := hp.at hk
  refine ⟨fun q => ⟨iX (by omega) (by omega), iX (by omega) (by omega), fun r => by omega, fun r => ⟨fun s => by rw [marks_len] at s; omega, fun s => ⟨fun t => by omega, fun t => ?_⟩⟩⟩, fun q => ⟨iI (by omega) (by omega), hr _ ?_⟩⟩
  · obtain ⟨a, ha⟩ := Int.eq_ofNat_of_zero_le hw.2.2.2.1
    have e1 : (if 4096 < ((ix l (k : Int)).Data.length : Int) then 4096 else ((ix l (k : Int)).Data.length : Int)) = ((ix l (k : Int)).Data.length : Int) := if_neg (by omega)
    have e2 : (if (ix l (k : Int)).Start + ((ix l (k : Int)).Data.length : Int) < ((marksL (effB (l.take k) v) 4096).length : Int) then (ix l (k : Int)).Start + ((ix l (k : Int)).Data.length : Int) else ((marksL (effB (l.take k) v) 4096).length : Int)) = (ix l (k : Int)).Start + ((ix l (k : Int)).Data.length : Int) := by
      rw [marks_len]; split <;> omega
    rw [e1, e2]
    refine ⟨iI (by omega) (by omega), ?_⟩
    refine LoopW.upT (ix l (k : Int)).Data.length (fun j => (((a + j : Nat) : Int), marksL (fun i => decide (a ≤ i ∧ i < a + j) || effB (l.take k) v i) 4096)) ?_ (fun j rec2 hj hr2 => ⟨fun _ => ⟨iX (by omega) (by rw [marks_len]; omega), iI (by omega) (by omega), hr2 _ ?_⟩, fun u => by omega⟩) fun rec2 => ⟨fun u => by omega, fun _ => ⟨iI (by omega) (by omega), hr _ ?_⟩⟩
    · refine pairE (by rw [ha]; rfl) ?_
      exact marks_congr fun i _ => by rw [decide_eq_false (by omega), Bool.false_or]
    · refine pairE (by omega) ?_
      rw [put_marks (by omega)]
      refine marks_congr fun i _ => ?_
      rw [← Bool.or_assoc]
      congr 1
      rw [Bool.eq_iff_iff]
      simp only [Bool.or_eq_true, decide_eq_true_eq]
      omega
    · refine pairE rfl ?_
      refine marks_congr fun i _ => ?_
      rw [effB_take hk]
      congr 1
      rw [Bool.eq_iff_iff]
      simp only [decide_eq_true_eq]
      omega
  · refine pairE rfl ?_
    refine marks_congr fun i _ => ?_
    rw [effB_take hk, decide_eq_false (fun t => q t.1.symm), Bool.false_or]
def mkW (l : List api_Write) (v : Int) (e : api_Extent) : api_Write := ⟨v, e.Start, (List.range e.Count.toNat).map fun j : Nat => mget (effM l) ⟨v, e.Start + (j : Int)⟩ sec0⟩
def pickW (l : List api_Write) (v : Int) : List api_Write := (extsL (effB l v) 4096).map (mkW l v)
theorem range_snoc_map {β : Type} (f : Nat → β) (k : Nat) : (List.range (k + 1)).map f = (List.range k).map f ++ [f k] := by rw [List.range_succ, List.map_append]; rfl
theorem ref22_pick_ok {l : List api_Write} {v : Int} {Φ : List api_Write → Prop} (hl : l.length ≤ 1000000) (hp : PlL l) (hΦ : Φ (pickW l v)) : ref22_pick_W l v (extsL (effB l v) 4096) Φ := by
  have g := exts_ok (effB l v) 4096
  have gl := g.len
  unfold pickW at hΦ
  generalize extsL (effB l v) 4096 = E at g gl hΦ
  refine LoopW.upT E.length (fun k => ((k : Int), (E.take k).map (mkW l v))) rfl (fun k rec hk hr => ⟨fun _ => ⟨iX (by omega) (by omega), ?_⟩, fun q => by omega⟩) fun rec => ⟨fun q => by omega, fun _ => by rw [take_all]; exact hΦ⟩
  have hm : ix E (k : Int) ∈ E := ix_mem (iX (by omega) (by omega))
  have h1 := g.ne _ hm
  have h2 := g.top _ hm
  refine LoopW.upT (ix E (k : Int)).Count.toNat (fun j => ((j : Int), (List.range j).map fun j : Nat => mget (effM l) ⟨v, (ix E (k : Int)).Start + (j : Int)⟩ sec0)) rfl (fun j rec2 hj hr2 => ⟨iX (by omega) (by omega), fun _ => ⟨iX (by omega) (by omega), iI (by omega) (by omega), ref22_Lookup_ok hl hp (by omega) ⟨iL (by rw [len_snoc, List.length_map, List.length_range]; omega) (by omega), iI (by omega) (by omega), hr2 _ ?_⟩⟩, fun q => by omega⟩) fun rec2 => ⟨iX (by omega) (by omega), fun q => by omega, fun _ => ⟨iL (by rw [len_snoc, List.length_map, lenT (by omega)]; omega) (by omega), iI (by omega) (by omega), hr _ ?_⟩⟩
  · show (_, _) = (_, _)
    rw [range_snoc_map]; rfl
  · show (_, _) = (_, _)
    rw [map_take_snoc _ hk]; rfl
def refF (l : List api_Write) : List api_Write := (List.range 8).flatMap fun v : Nat => pickW l (v : Int)
theorem pick_len (l : List api_Write) (v : Int) : (pickW l v).length ≤ 4096 := by
  unfold pickW; rw [List.length_map]; exact (exts_ok (effB l v) 4096).len
theorem flat_len (l : List api_Write) : ∀ k : Nat, ((List.range k).flatMap fun v : Nat => pickW l (v : Int)).length ≤ k * 4096
  | 0 => Nat.le_refl _
  | k + 1 => by
    rw [List.range_succ, List.flatMap_append, List.length_append]
    have h1 := flat_len l k
    have h2 := pick_len l (k : Int)
    simp only [List.flatMap_cons, List.flatMap_nil, List.append_nil]
    omega
theorem eff_has {l : List api_Write} {v : Int} {i : Nat} (h : effB l v i = true) : mfind (effM l) ⟨v, (i : Int)⟩ = some (mget (effM l) ⟨v, (i : Int)⟩ sec0) := by
  unfold effB mhas at h
  unfold mget
  cases hm : mfind (effM l) ⟨v, (i : Int)⟩ with
  | none => rw [hm] at h; exact Bool.noConfusion h
  | some d => rfl
theorem refF_can {l : List api_Write} (hp : PlL l) : Can0 (effM l) (refF l) := by
  have mm : ∀ w ∈ refF l, ∃ v : Nat, v < 8 ∧ ∃ e ∈ extsL (effB l (v : Int)) 4096, w = mkW l (v : Int) e := fun w hw => by
    unfold refF at hw
    obtain ⟨v, hv, hw⟩ := List.mem_flatMap.1 hw
    unfold pickW at hw
    obtain ⟨e, he, rfl⟩ := List.mem_map.1 hw
    exact ⟨v, List.mem_range.1 hv, e, he, rfl⟩
  have ml : ∀ v e, (mkW l v e).Data.length = e.Count.toNat := fun v e => by unfold mkW; simp
  refine ⟨fun w hw => ?_, ?_, fun w hw j hj => ?_, fun p d h => ?_⟩
  · obtain ⟨v, hv, e, he, rfl⟩ := mm w hw
    rw [ml]
    have := (exts_ok _ _).ne e he
    omega
  · unfold refF
    refine List.pairwise_flatMap.2 ⟨fun v hv => ?_, List.pairwise_lt_range.imp fun {a b} hab x hx y hy => ?_⟩
    · unfold pickW
      refine List.pairwise_map.2 (List.Pairwise.imp_of_mem (fun {e f} he hf h => .inr ⟨rfl, ?_⟩) (exts_ok _ _).gap)
      rw [ml]
      have := (exts_ok _ _).ne e he
      show e.Start + (e.Count.toNat : Int) < f.Start
      omega
    · unfold pickW at hx hy
      obtain ⟨e, _, rfl⟩ := List.mem_map.1 hx
      obtain ⟨f, _, rfl⟩ := List.mem_map.1 hy
      exact .inl (by show (a : Int) < (b : Int); omega)
  · obtain ⟨v, hv, e, he, rfl⟩ := mm w hw
    rw [ml] at hj
    have h1 := (exts_ok _ _).ne e he
    obtain ⟨s, hs⟩ := Int.eq_ofNat_of_zero_le h1.1
    have hc := ((exts_ok (effB l (v : Int)) 4096).cov (s + j)).2 ⟨e, he, by omega, by omega⟩
    have := eff_has hc.2
    show mfind (effM l) ⟨(v : Int), e.Start + (j : Int)⟩ = some (ix ((List.range e.Count.toNat).map fun j : Nat => mget (effM l) ⟨(v : Int), e.Start + (j : Int)⟩ sec0) (j : Int))
    rw [ix_get (by simpa using hj)]
    simp only [List.getElem_map, List.getElem_range]
    rw [show e.Start + (j : Int) = ((s + j : Nat) : Int) by omega]
    exact this
  · obtain ⟨q, hq, rfl⟩ := mkey_of h
    have hq := effM_place hp q hq
    obtain ⟨v, hv⟩ := Int.eq_ofNat_of_zero_le hq.1
    obtain ⟨i, hi⟩ := Int.eq_ofNat_of_zero_le hq.2.2.1
    have hb : effB l (v : Int) i = true := by
      unfold effB mhas
      rw [show (⟨(v : Int), (i : Int)⟩ : coalesce_place) = q.1 from place_ext hv.symm hi.symm, h]
    obtain ⟨e, he, h1, h2⟩ := ((exts_ok (effB l (v : Int)) 4096).cov i).1 ⟨by omega, hb⟩
    have hn := (exts_ok _ _).ne e he
    refine ⟨mkW l (v : Int) e, ?_, hv.symm, by show e.Start ≤ _; omega, by rw [ml]; show _ < e.Start + _; omega⟩
    unfold refF
    exact List.mem_flatMap.2 ⟨v, List.mem_range.2 (by omega), List.mem_map.2 ⟨e, he, rfl⟩⟩
theorem refF_eq {l : List api_Write} (hp : PlL l) : refF l = canL (effM l) := (refF_can hp).uniq (canL_can (effM_nodup l) fun q hq => (effM_place hp q hq).1).to0
theorem ref22_Most_ok {Φ : List Int → Prop} (hΦ : Φ mostL) : ref22_Most_W Φ := by
  refine LoopW.upT 8 (fun k => ((k : Int), List.replicate k (4096 : Int))) rfl (fun k rec hk hr => ⟨fun _ => ⟨iL (by rw [len_snoc, List.length_replicate]; omega) (by omega), iI (by omega) (by omega), hr _ ?_⟩, fun q => by omega⟩) fun rec => ⟨fun q => by omega, fun _ => hΦ⟩
  show (_, _) = (_, List.replicate (k + 1) (4096 : Int))
  rw [List.replicate_succ']; rfl
theorem fit_placed (w : api_Write) : fitW mostL w = placedR w := by
  unfold fitW placedR
  by_cases h : w.Volume < 0 ∨ 8 ≤ w.Volume
  · rw [if_pos h, if_pos (by rcases h with h | h; exact .inl h; exact .inr h)]
  · rw [if_neg h, if_neg (by show ¬ (w.Volume < 0 ∨ ((8 : Nat) : Int) ≤ w.Volume); omega)]
    obtain ⟨v, hv⟩ := Int.eq_ofNat_of_zero_le (show 0 ≤ w.Volume by omega)
    have e : ix mostL w.Volume = 4096 := by
      rw [hv, ix_get (show v < mostL.length by show v < 8; omega)]
      unfold mostL; rw [List.getElem_replicate]
    rw [e]
    by_cases h0 : w.Data.length = 0
    · rw [if_pos (by omega), if_pos h0]
    · rw [if_neg (by omega), if_neg h0]
      by_cases h2 : w.Start < 0 ∨ 4096 - (w.Data.length : Int) < w.Start
      · rw [if_pos h2, if_pos (by omega)]
      · rw [if_neg h2, if_neg (by omega)]
theorem ref22_Fold_ok {l : List api_Write} {Φ : List api_Write × Int → Prop} (hl : l.length ≤ 20000) (hd : ∀ w ∈ l, w.Data.length ≤ 1000000) (hΦ : Φ (foldR l)) : ref22_Fold_W l Φ := by
  unfold foldR at hΦ
  have er : ∀ e, firstN (fun k => placedR (ix l (k : Int))) l.length = e → e ≠ 0 → Φ ([], e) := fun e h1 h2 => by rw [h1, if_pos h2] at hΦ; exact hΦ
  refine LoopW.errI l.length (fun k => (k : Int)) (fun k => placedR (ix l (k : Int))) (Ψ := fun o => o = firstN (fun k => placedR (ix l (k : Int))) l.length) rfl rfl (fun k rec hk hj g1 g2 => ⟨fun _ => ⟨(mostL, ()), ref22_Most_ok rfl, iX (by omega) (by omega), (placedR (ix l (k : Int)), ()), ref07_FitsSizes_ok (hd _ (ix_mem (iX (by omega) (by omega)))) (fun j hj => by have := sizesE_ix most_sizes hj; show ix mostL (j : Int) ≤ 1000000; omega) (by rw [fit_placed]), fun q => er _ (g1 q).symm q, fun q => ⟨iI (by omega) (by omega), g2 (Classical.not_not.1 q) _ rfl⟩⟩, fun q => by omega⟩) fun rec hz c0 => ⟨fun q => by omega, fun _ => ?_⟩
  have hp : PlL l := fun w hw => by
    obtain ⟨k, hk, rfl⟩ := List.getElem_of_mem hw
    have := hz k hk
    rwa [ix_get hk] at this
  rw [← c0, if_neg (fun t => t rfl)] at hΦ
  refine LoopW.upT 8 (fun k => ((k : Int), (List.range k).flatMap fun v : Nat => pickW l (v : Int))) rfl (fun k rec hk hr => ⟨fun _ => ref22_Extents_ok (by omega) hp (ref22_pick_ok (by omega) hp ⟨iL ?_ (by omega), iI (by omega) (by omega), hr _ ?_⟩), fun q => by omega⟩) fun rec => ⟨fun q => by omega, fun _ => ?_⟩
  · have h1 := flat_len l k
    have h2 := pick_len l (k : Int)
    rw [List.length_append]
    have := Nat.mul_le_mul_right 4096 (show k ≤ 8 by omega)
    omega
  · show (_, _) = (_, (List.range (k + 1)).flatMap fun v : Nat => pickW l (v : Int))
    rw [List.range_succ, List.flatMap_append]
    simp only [List.flatMap_cons, List.flatMap_nil, List.append_nil]; rfl
  · show Φ (refF l, 0)
    rw [refF_eq hp]; exact hΦ
theorem canE_most (l : List api_Write) : canE l = wrsE mostL l := by
  unfold canE wrsE
  refine firstN_congr fun k _ => ?_
  unfold ordE ordW
  rw [fit_placed]
theorem ref22_Merge_ok {a b : List api_Write} {Φ : List api_Write × Int → Prop} (ha : a.length ≤ 10000) (hb : b.length ≤ 10000) (hda : ∀ w ∈ a, w.Data.length ≤ 1000000) (hdb : ∀ w ∈ b, w.Data.length ≤ 1000000) (hΦ : Φ (mergeR a b)) : ref22_Merge_W a b Φ := by
  unfold mergeR at hΦ
  rw [canE_most, canE_most] at hΦ
  refine ref22_Most_ok (ref22_Check_ok (by omega) hda (fun t => absurd most_sizes t) fun _ => ⟨fun q => by rw [if_pos q] at hΦ; exact hΦ, fun q => ?_⟩)
  rw [if_neg q] at hΦ
  refine ref22_Most_ok (ref22_Check_ok (by omega) hdb (fun t => absurd most_sizes t) fun _ => ⟨fun q => by rw [if_pos q] at hΦ; exact hΦ, fun r => ?_⟩)
  rw [if_neg r] at hΦ
  refine ⟨iL (by omega) (by omega), iL (by rw [List.length_append]; omega) (by omega), ref22_Fold_ok (by rw [List.length_append]; omega) (fun w hw => (List.mem_append.1 hw).elim (hda w) (hdb w)) ?_⟩
  have h1 : canE a = 0 := by rw [canE_most]; exact Classical.not_not.1 q
  have h2 : canE b = 0 := by rw [canE_most]; exact Classical.not_not.1 r
  have hp : PlL (a ++ b) := fun w hw => (List.mem_append.1 hw).elim (canE_pl h1 w) (canE_pl h2 w)
  have e : foldR (a ++ b) = (canL (effM (a ++ b)), 0) := by
    unfold foldR
    rw [if_neg fun t => t (firstN_zero.2 fun k hk => hp _ (ix_mem (iX (by omega) (by omega))))]
  rw [e]; exact hΦ
theorem ref07_SizesOf_ok {im : List (List Sec)} {Φ : List Int → Prop} (hl : im.length ≤ 100000) (hΦ : Φ (szs im)) : Z93 im Φ := by
  refine LoopW.upT im.length (fun k => ((k : Int), (im.take k).map fun v => (v.length : Int))) rfl (fun k rec hk hr => ?_) fun rec => ⟨fun _ => by omega, fun _ => by rw [take_all]; exact hΦ⟩
  refine ⟨fun _ => ⟨iX (by omega) (by omega), iL (by rw [len_snoc, List.length_map, lenT (by omega)]; omega) (by omega), iI (by omega) (by omega), hr _ (by rw [map_take_snoc _ hk]; rfl)⟩, fun _ => by omega⟩
theorem ref07_Check_ok {im : List (List Sec)} {Φ : Int → Prop} (hl : im.length ≤ 100000) (hΦ : Φ (imgE im)) : ref07_Check_W im Φ := ref07_SizesOf_ok hl (ref07_Sizes_ok hΦ)
theorem ref07_CopyE_ok {im : List (List Sec)} {Φ : List (List Sec) → Prop} (h : imgE im = 0) (hΦ : Φ im) : ref07_CopyE_W im Φ := by
  have hl := sizesE_len h
  rw [szs_len] at hl
  refine LoopW.upT im.length (fun k => (im.take k, (k : Int))) rfl (fun k rec hk hr => ?_) fun rec => ⟨fun r => absurd r (by omega), fun _ => by rw [take_all]; exact hΦ⟩
  have := szs_small h k hk
  exact ⟨fun _ => ⟨iX (by omega) (by omega), iL (by rw [List.nil_append]; omega) (by omega), iL (by rw [len_snoc, lenT (by omega)]; omega) (by omega), iI (by omega) (by omega), hr _ (by rw [take_ix hk]; rfl)⟩, fun r => absurd (show (k : Int) < (im.length : Int) by omega) r⟩
theorem ref07_Fits_ok {im : List (List Sec)} {w : api_Write} {Φ : Int → Prop} (hs : imgE im = 0) (hd : w.Data.length ≤ 1000000) (hΦ : Φ (fitW (szs im) w)) : ref07_Fits_W im w Φ := by
  have hl := sizesE_len hs
  rw [szs_len] at hl
  exact ref07_Check_ok (by omega) ⟨fun q => absurd hs q, fun _ => ⟨_, ref07_SizesOf_ok (by omega) rfl, _, ref07_FitsSizes_ok hd (fun k hk => by
    have := sizesE_ix (l := szs im) hs hk
    show ix (szs im) (k : Int) ≤ 1000000; omega) rfl, hΦ⟩⟩
theorem ref07_Apply_ok {im : List (List Sec)} {l : List api_Write} {Φ : List (List Sec) × Int × Int → Prop} (hl : l.length ≤ 1000000) (hs : imgE im = 0) (hf : ∀ w ∈ l, fitW (szs im) w = 0) (hΦ : Φ (appL im l, 0, 0)) : ref07_Apply_W im l Φ := by
  have h8 := sizesE_len hs
  rw [szs_len] at h8
  refine ref07_Check_ok (by omega) ⟨fun q => absurd hs q, fun _ => ref07_CopyE_ok hs ?_⟩
  refine LoopW.upT l.length (fun k => (appL im (l.take k), (k : Int))) rfl (fun k rec hk hr => ?_) fun rec => ⟨fun r => absurd r (by omega), fun _ => by rw [take_all]; exact hΦ⟩
  have hw := hf _ (ix_mem (iX (i := (k : Int)) (n := l.length) (by omega) (by omega)))
  have e := szs_takeL hs hf k
  have hs' : imgE (appL im (l.take k)) = 0 := by unfold imgE; rw [e]; exact hs
  obtain ⟨v, s, hfw⟩ := fitW_of (by rw [show sizesE (szs im) = 0 from hs]; simp) hw
  have hv := hfw.hv
  have hle := hfw.le
  rw [← e, szs_len] at hv
  rw [← e, ix_szs hv] at hle
  have ev := hfw.vol
  have es := hfw.start
  have hsm := szs_small hs' v hv
  refine ⟨fun _ => ⟨iX (by omega) (by omega), ref07_Fits_ok hs (by have := fit_data (show sizesE (szs im) = 0 from hs) hw; omega) ?_⟩, fun r => absurd (show (k : Int) < (l.length : Int) by omega) r⟩
  rw [hw]
  refine ⟨fun q => absurd rfl q, fun _ => ?_⟩
  have happ : appL im (l.take (k + 1)) = put (appL im (l.take k)) (v : Int) (paste (ix (appL im (l.take k)) (v : Int)) (s : Int) (ix l (k : Int)).Data) := by rw [appL_take hk]; unfold apply1; rw [ev, es]
  have hrr : ∀ x, x = appL im (l.take (k + 1)) → rec (x, (k : Int) + 1) := fun x hx => hr _ (by rw [hx]; rfl)
  generalize appL im (l.take k) = X at hv hle happ hsm ⊢
  refine LoopW.upT (ix l (k : Int)).Data.length (fun m => (put X (v : Int) (paste (ix X (v : Int)) (s : Int) ((ix l (k : Int)).Data.take m)), (m : Int))) ?_ (fun m rec2 hm hr2 => ?_) fun rec2 => ⟨fun r => absurd r (by omega), fun _ => ⟨iI (by omega) (by omega), hrr _ ?_⟩⟩
  · rw [show (ix l (k : Int)).Data.take 0 = [] from rfl, paste_nil (by omega), put_ix (iX (by omega) (by omega))]; rfl
  · have hpl : (put X (v : Int) (paste (ix X (v : Int)) (s : Int) ((ix l (k : Int)).Data.take m))).length = X.length := put_len _ _ _
    have hix : ix (put X (v : Int) (paste (ix X (v : Int)) (s : Int) ((ix l (k : Int)).Data.take m))) (v : Int) = paste (ix X (v : Int)) (s : Int) ((ix l (k : Int)).Data.take m) := ix_put_self _ (iX (by omega) (by omega))
    have hpr : (paste (ix X (v : Int)) (s : Int) ((ix l (k : Int)).Data.take m)).length = (ix X (v : Int)).length := paste_len' (by omega)
    unfold Z95
    rw [ev, es]
    refine ⟨fun hmlt => ⟨iX (by omega) (by omega), iI (by omega) (by omega), iX (by omega) hmlt, iX (by omega) (by rw [hix, hpr]; omega), iI (by omega) (by omega), hr2 _ ?_⟩, fun r => absurd (show (m : Int) < ((ix l (k : Int)).Data.length : Int) by omega) r⟩
    rw [hix, put_put, paste_step (by omega) (by omega)]; rfl
  · rw [List.take_length, happ]
theorem ref23_Compose_ok {a b : api_Cycle} {Φ : api_Cycle × Int → Prop} (ha : FewC a) (hb : FewC b) (hΦ : Φ (comR a b)) : Z86 a b Φ := by
  have a1 := ha.pos
  have a2 := ha.len
  have b1 := hb.pos
  have b2 := hb.len
  have er : ∀ e, comE a b = e → e ≠ 0 → Φ (cyc0, e) := fun e h1 h2 => by unfold comR at hΦ; rw [h1, if_pos h2] at hΦ; exact hΦ
  refine ⟨(mostL, ()), ref22_Most_ok rfl, (cycE a mostL, ()), ref23_Check_ok (by omega) (by omega) ha.small rfl, fun t => er _ (by unfold comE; rw [if_pos t]) t, fun t => ⟨(mostL, ()), ref22_Most_ok rfl, (cycE b mostL, ()), ref23_Check_ok (by omega) (by omega) hb.small rfl, fun u => er _ (by unfold comE; rw [if_neg t, if_pos u]) u, fun u => ?_⟩⟩
  have ce : comE a b = if b.Base ≠ a.Number then 15 else if a.Positions.length ≠ b.Positions.length then 6 else if b.Time < a.Time then 24 else if backE a b ≠ 0 then backE a b else (mergeR a.Writes b.Writes).2 := by unfold comE; rw [if_neg t, if_neg u]
  refine ⟨fun q => er 15 (by rw [ce, if_pos (fun r => q r.symm)]) (by omega), fun q => ⟨fun r => er 6 (by rw [ce, if_neg (fun s => q (fun w => s w.symm)), if_pos (by omega)]) (by omega), fun r => ⟨fun s => er 24 (by rw [ce, if_neg (fun s => q (fun w => s w.symm)), if_neg (by omega), if_pos s]) (by omega), fun s => ?_⟩⟩⟩
  rw [if_neg (fun s => q (fun w => s w.symm)), if_neg (by omega), if_neg s] at ce
  refine LoopW.errI a.Positions.length (fun k => (k : Int)) (fun k => if ix b.Positions (k : Int) < ix a.Positions (k : Int) then 2 else 0) (Ψ := fun o => o = backE a b) rfl rfl (fun k rec hk hj g1 g2 => ⟨fun _ => ⟨iX (by omega) (by omega), iX (by omega) (by omega), fun t => ?_, fun t => ⟨iI (by omega) (by omega), g2 (if_neg t) _ rfl⟩⟩, fun _ => by omega⟩) fun rec _ c0 => ⟨fun _ => by omega, fun _ => ?_⟩
  · rw [if_pos t] at g1
    have := g1 (by omega)
    exact er 2 (by rw [ce, ← this, if_pos (by omega)]) (by omega)
  · rw [← c0, if_neg (fun t => t rfl)] at ce
    refine ref22_Merge_ok (by omega) (by omega) ha.small hb.small ⟨(b.Positions, ()), ref23_ints_ok (by omega) rfl, ?_⟩
    have z1 := cycE_wrs (show cycE a mostL = 0 from Classical.not_not.1 t)
    have z2 := cycE_wrs (show cycE b mostL = 0 from Classical.not_not.1 u)
    have m0 : (mergeR a.Writes b.Writes).2 = 0 := by
      unfold mergeR
      rw [canE_most, canE_most, if_neg (fun t => t z1), if_neg (fun t => t z2)]
    unfold comR at hΦ
    rw [if_neg (by rw [ce, m0]; exact fun t => t rfl)] at hΦ
    rw [m0]; exact hΦ
theorem ref23_Apply_ok {im : List (List Sec)} {c : api_Cycle} {Φ : List (List Sec) × Int → Prop} (hi : im.length ≤ 100000) (hp : c.Positions.length ≤ 100000) (hl : c.Writes.length ≤ 100000) (hd : ∀ w ∈ c.Writes, w.Data.length ≤ 1000000) (hΦ : Φ (appR im c)) : ref23_Apply_W im c Φ := by
  unfold appR at hΦ
  refine ref07_Check_ok hi ⟨fun q => by rw [if_pos q] at hΦ; exact hΦ, fun q => ?_⟩
  rw [if_neg q] at hΦ
  refine ⟨(szs im, ()), ref07_SizesOf_ok hi rfl, (cycE c (szs im), ()), ref23_Check_ok hp hl hd rfl, fun t => by rw [if_pos t] at hΦ; exact hΦ, fun t => ?_⟩
  rw [if_neg t] at hΦ
  exact ref07_Apply_ok (by omega) (Classical.not_not.1 q) (wrs_fit (cycE_wrs (Classical.not_not.1 t))) hΦ
theorem ref23_Same_refl {c : api_Cycle} {Φ : Bool → Prop} (hp : c.Positions.length ≤ 1000000) (hl : c.Writes.length ≤ 1000000) (hd : ∀ w ∈ c.Writes, w.Data.length ≤ 1000000) (hΦ : Φ true) : ref23_Same_W c c Φ :=
  ⟨fun _ => ⟨fun _ => ⟨fun _ => ref23_SameInts_refl hp ⟨fun _ => ref03_SameWrites_refl hl hd hΦ, fun q => absurd rfl q⟩, fun q => absurd rfl q⟩, fun q => absurd rfl q⟩, fun q => absurd rfl q⟩
theorem comR_small {a b : api_Cycle} (fa : FewC a) (fb : FewC b) : (comR a b).1.Positions.length ≤ 1000000 ∧ (comR a b).1.Writes.length ≤ 1000000 ∧ ∀ w ∈ (comR a b).1.Writes, w.Data.length ≤ 1000000 := by
  by_cases h : comE a b = 0
  · rw [(com_parts h).1]
    have hf : ∀ w ∈ a.Writes ++ b.Writes, fitW mostL w = 0 := fun w hw => (List.mem_append.1 hw).elim (wrs_fit (cycE_wrs (comE_a h)) w) (wrs_fit (cycE_wrs (comE_b h)) w)
    have c := can_eff (fun t => t most_sizes) hf
    have sa := fa.secs
    have sb := fb.secs
    have se := effM_sum (a.Writes ++ b.Writes)
    rw [secN_append] at se
    have cl := can_len c
    have cs := c.sum
    have bp := fb.pos
    have each : ∀ w ∈ canL (effM (a.Writes ++ b.Writes)), w.Data.length ≤ 1000000 := fun w hw => by have := secN_each w hw; omega
    exact ⟨by show b.Positions.length ≤ _; omega, by show (canL (effM (a.Writes ++ b.Writes))).length ≤ _; omega, each⟩
  · unfold comR
    rw [if_pos h]
    exact ⟨Nat.zero_le _, Nat.zero_le _, fun w hw => absurd hw List.not_mem_nil⟩
theorem appR_some {im : List (List Sec)} {c : api_Cycle} : (appR im c).1 = [] ∨ imgE (appR im c).1 = 0 := by
  unfold appR
  split
  · exact .inl rfl
  split
  · exact .inl rfl
  next q r =>
    refine .inr ?_
    unfold imgE
    show sizesE (szs (appL im c.Writes)) = 0
    rw [szs_appL (fun t => q t) (wrs_fit (cycE_wrs (Classical.not_not.1 r)))]
    exact Classical.not_not.1 q
theorem cycleComposes_law (a b : api_Cycle) (im : List (List Sec)) (_ : Rg.rg a) (_ : Rg.rg b) (_ : Rg.rg im) : Z102 a b im fun y => y = true := by
  have j1 : Z101 a b im (fun y => y = true) true := ⟨fun _ => law23_awake_ok rfl, fun q => absurd rfl q⟩
  refine ref23_Few_ok ⟨fun _ => j1, fun fa => ref23_Few_ok ⟨fun _ => j1, fun fb => ref07_Few_by j1 fun hi => ?_⟩⟩
  have fa := fewC_of (Classical.not_not.1 fa)
  have fb := fewC_of (Classical.not_not.1 fb)
  have a1 := fa.pos
  have a2 := fa.len
  refine ⟨fun q => absurd rfl (of_decide_eq_true q), fun _ => cycle_Compose_ok fa fb (ref23_Compose_ok fa fb (cycle_Apply_ok (by omega) (by omega) (by omega) fa.small (ref23_Apply_ok (by omega) (by omega) (by omega) fa.small (law23_awake_ok ⟨fun _ => ?_, fun q => absurd rfl q⟩))))⟩
  obtain ⟨s1, s2, s3⟩ := comR_small fa fb
  exact ref23_Same_refl s1 s2 s3 ⟨fun _ => ⟨fun _ => ref07_Same_refl appR_some ⟨fun _ => decide_eq_true rfl, fun q => absurd rfl q⟩, fun q => absurd rfl q⟩, fun q => absurd rfl q⟩
end Go.Proofs.YtbnfefbhalpceaaGreat
namespace Go.Proofs.YtbnfefbhalpceaaGreat
open Go.RowKit Go.ChangeShapes Go.WideShapes Go.ChangeAt
set_option maxRecDepth 100000 in
theorem cycleComposes_lifted (os : Os) (started : os.Started) (H : Type) (enc : TypeId × Value → H) :
    ReturnsInHanded {} Tryz.checked os 4 .any (Rows.cycleComposesSpec.pre6 enc Tryz.prog Tryz.f4 Rows.cycleComposesRow.domain false) (Rows.cycleComposesSpec.post enc Tryz.prog Tryz.f4 false true false false) := by
  refine returnsInHanded_of_change (C := Tryz.checked) Tryz.own started (by kernel_rfl) Tryz.func4
    (ChangeSpec.witness6 (enc := enc) (C := Tryz.checked) false ⟨#[], #[.agg #[.int .i64 (0), .int .i64 (0), .int .i64 (0), .slice none 0 0, .slice none 0 0], .agg #[.int .i64 (0), .int .i64 (0), .int .i64 (0), .slice none 0 0, .slice none 0 0], .slice none 0 0], []⟩ 8 (by kernel_rfl) (by kernel_rfl) (by kernel_rfl) (by kernel_rfl)) ?_
  intro W base args ds gs before hval0 hW _ _
  have hval : ∀ (j : Nat) t v, Tryz.f4.params[j]? = some t → args[j]? = some v → Value.okWide Tryz.prog W .any base t v := hval0
  have hW' := hW
  obtain ⟨p, q, hA0, hV, hpq, _, _⟩ := hW
  have hA : DataW.TrodAll enc Tryz.prog W 0 (fun _ => true) true Tryz.f4.params.toList args.toList ds p := hA0
  rw [Tryz.params4] at hA hval
  obtain ⟨v0, v1, v2, d0, d1, d2, p0, p1, p2, rfl, rfl, rfl, h0, h1, h2⟩ := trodAll_three hA
  obtain ⟨rfl, rfl⟩ := trodVars_none hV
  obtain ⟨ks0, x0, rfl, hr0, hg0⟩ := open_strD Tryz.underlying29 rd29 (hval 0 29 v0 rfl rfl) h0
  obtain ⟨ks1, x1, rfl, hr1, hg1⟩ := open_strD Tryz.underlying29 rd29 (hval 1 29 v1 rfl rfl) h1
  obtain ⟨Az2, nz2, cz2, sz2, x2, rfl, hz2, hg2⟩ := open_slD Tryz.underlying39 rd39 (hval 2 39 v2 rfl rfl) h2
  refine Calls.mono ((RetP.toV (y := true) (F := fun z => .bool z) (RetP.mono (ok4 (x0, x1, x2, ()) (fun y => y.1 = true) (cycleComposes_law x0 x1 x2 hg0 hg1 hg2) (HW W) [.agg ks0.toArray, .agg ks1.toArray, .slice Az2 nz2 cz2] trivial ⟨_, ks0, _, rfl, by rw [pkw29], (show Dt.rd (α := api_Cycle) (HW W) _ _ from hr0), ⟨_, ks1, _, rfl, by rw [pkw29], (show Dt.rd (α := api_Cycle) (HW W) _ _ from hr1), ⟨_, [.slice Az2 nz2 cz2], _, rfl, by rw [pkw39], (show Dt.rd (α := List (List Sec)) (HW W) _ _ from ⟨Az2, nz2, cz2, sz2, rfl, hz2⟩), rfl⟩⟩⟩) fun _ _ _ _ ⟨y, hy, hr⟩ => lawRes y hy hr)) W fun b o e => e) ?_
  rintro e W' ⟨v, _, rfl, _, _, _, hb, rfl⟩
  exact ⟨_, rfl, post_law Tryz.laidOut Tryz.underlying4 rfl (by kernel_rfl) hW' rfl rfl hb⟩
theorem cycleComposes_holds : Rows.CycleComposesSaid :=
  OpenClaim.holds_of_wide 4 Tryz.f4 rfl rfl rfl rfl rfl rfl rfl ⟨rfl, rfl, rfl, rfl, rfl⟩ rfl rfl rfl rfl rfl (by kernel_rfl) Tryz.func4 (by kernel_rfl)
    (of_decide_eq_true (by kernel_rfl)) (by unfold Func.isWrapper; first | (rw [if_pos (by decide +kernel)]; kernel_rfl) | (rw [if_neg (by decide +kernel)]; exact ⟨rfl, rfl⟩))
    (fun os started H enc _ => cycleComposes_lifted os started H enc)
end Go.Proofs.YtbnfefbhalpceaaGreat
