/- Proved: the tied card of the statement CycleReturns: for every argument that can be read the law returns true and leaves its arguments as they were. Conditions: the row's own alone. -/
import Derived.Lib.TrailingZeros
import Derived.Test.YtcobdlnefjdhgaaGreatM5
namespace Go.Proofs.YtcobdlnefjdhgaaGreat
open Go.RowKit
theorem numF_ok : ∀ (f i acc : Nat) (l : By), (numF f i acc l).2.2 = 0 → 0 ≤ (numF f i acc l).1 ∧ (numF f i acc l).1 ≤ 9007199254740991 ∧ (numF f i acc l).2.1.length ≤ l.length
  | 0, _, _, _, h => absurd (show (3 : Int) = 0 from h) (by decide)
  | _ + 1, _, _, [], h => absurd (show (10 : Int) = 0 from h) (by decide)
  | f + 1, i, acc, b :: r, h => by
    rw [numF_cons] at h ⊢
    split
    · rename_i h1
      rw [if_pos h1] at h
      have := numF_ok f (i + 1) _ r h
      rw [List.length_cons]; omega
    · rename_i h1
      rw [if_neg h1] at h
      split
      · rename_i h2
        rw [if_pos h2] at h
        exact absurd (show (3 : Int) = 0 from h) (by decide)
      · rw [List.length_cons]
        refine ⟨?_, ?_, ?_⟩
        · show (0 : Int) ≤ ((acc + b.toNat % 128 * 2 ^ (7 * i) : Nat) : Int); omega
        · show ((acc + b.toNat % 128 * 2 ^ (7 * i) : Nat) : Int) ≤ _; omega
        · show r.length ≤ _; omega
theorem numF_err : ∀ (f i acc : Nat) (l : By), (numF f i acc l).2.2 ≠ 0 → numF f i acc l = (0, [], (numF f i acc l).2.2)
  | 0, _, _, _, _ => rfl
  | _ + 1, _, _, [], _ => rfl
  | f + 1, i, acc, b :: r, h => by
    rw [numF_cons] at h ⊢
    by_cases h1 : 128 ≤ b.toNat
    · rw [if_pos h1] at h ⊢
      exact numF_err f (i + 1) _ r h
    · rw [if_neg h1] at h ⊢
      by_cases h2 : (b.toNat = 0 ∧ 0 < i) ∨ 9007199254740991 < acc + b.toNat % 128 * 2 ^ (7 * i)
      · rw [if_pos h2]
      · rw [if_neg h2] at h
        exact absurd rfl h
theorem decN_ok {l : By} (h : (decN l).2.2 = 0) : 0 ≤ (decN l).1 ∧ (decN l).1 ≤ 9007199254740991 ∧ (decN l).2.1.length ≤ l.length := numF_ok 8 0 0 l h
theorem decN_err {l : By} (h : (decN l).2.2 ≠ 0) : decN l = (0, [], (decN l).2.2) := numF_err 8 0 0 l h
theorem trip {α : Type} {q : α × By × Int} (h : q.2.2 = 0) : q = (q.1, q.2.1, 0) := by
  obtain ⟨a, b, c⟩ := q
  rw [show c = 0 from h]
theorem num_ways {x0 : By} {J : Int → Int → By → Prop} (h1 : (decN x0).2.2 ≠ 0 → J 0 (decN x0).2.2 x0) (h2 : (decN x0).2.2 = 0 → J (decN x0).1 0 (decN x0).2.1) : LoopW (NumStep x0 J) (0, 0) := by
  refine num_loop ?_
  by_cases h : (decN x0).2.2 = 0
  · rw [cur_ok (trip h)]; exact h2 h
  · rw [cur_err (decN_err h) h]; exact h1 h
def LenJ (J2 : Int × Int × By → Prop) : Int × Int × By → Prop
  | (a, e, l) => (e = 0 → (65536 < a → J2 (a, 5, l)) ∧ (¬ (65536 < a) → J2 (a, e, l))) ∧ (¬ (e = 0) → J2 (a, e, l))
theorem decLen_ok {l : By} (h : (decLen l).2.2 = 0) : 0 ≤ (decLen l).1 ∧ (decLen l).1 ≤ 65536 ∧ (decLen l).2.1.length ≤ l.length := by
  unfold decLen at h ⊢
  by_cases h1 : (decN l).2.2 = 0
  · rw [if_neg (fun t => t h1)] at h ⊢
    by_cases h2 : 65536 < (decN l).1
    · rw [if_pos h2] at h; exact absurd (show (5 : Int) = 0 from h) (by decide)
    · rw [if_neg h2]
      have := decN_ok h1
      omega
  · rw [if_pos h1] at h; exact absurd h h1
theorem len_ways {x0 : By} {J2 : Int × Int × By → Prop} (h1 : (decLen x0).2.2 ≠ 0 → ∀ n l, J2 (n, (decLen x0).2.2, l)) (h2 : (decLen x0).2.2 = 0 → J2 ((decLen x0).1, 0, (decLen x0).2.1)) : LoopW (NumStep x0 fun n e l => LenJ J2 (n, e, l)) (0, 0) := by
  refine num_ways (fun h => ?_) fun h => ?_
  · have e : decLen x0 = (0, [], (decN x0).2.2) := by unfold decLen; rw [if_pos h]
    rw [e] at h1
    exact ⟨fun t => absurd t h, fun _ => h1 h 0 x0⟩
  · refine ⟨fun _ => ⟨fun t => ?_, fun t => ?_⟩, fun t => absurd rfl t⟩
    · have e : decLen x0 = (0, [], 5) := by unfold decLen; rw [if_neg (fun t => t h), if_pos t]
      rw [e] at h1
      exact h1 (by decide) _ _
    · have e : decLen x0 = decN x0 := by unfold decLen; rw [if_neg (fun t => t h), if_neg t]
      rw [e] at h2
      exact h2 h
theorem decF_loop {α : Type} {one : Dec α} {step : (Int × By × List α) → ((Int × By × List α) → Prop) → Prop} {n : Nat} {l : By} {Ψ : List α × By × Int → Prop} (hshort : ∀ l, (one l).2.2 = 0 → (one l).2.1.length ≤ l.length) (hl : l.length ≤ 1000000)
    (h1 : ∀ (k : Nat) (l : By) (acc : List α) rec, k < n → acc.length = k → l.length ≤ 1000000 → ((one l).2.2 ≠ 0 → Ψ ([], [], (one l).2.2)) → ((one l).2.2 = 0 → rec ((k : Int) + 1, (one l).2.1, acc ++ [(one l).1])) → step ((k : Int), l, acc) rec)
    (h2 : ∀ (l : By) (acc : List α) rec, acc.length = n → l.length ≤ 1000000 → Ψ (acc, l, 0) → step ((n : Int), l, acc) rec)
    (hΨ : Ψ (decF one n [] l)) : LoopW step (0, l, []) := by
  refine LoopW.of_inv (fun s => ∃ (k : Nat) (l : By) (acc : List α), s = ((k : Int), l, acc) ∧ k ≤ n ∧ acc.length = k ∧ l.length ≤ 1000000 ∧ Ψ (decF one (n - k) acc l)) (fun s => n - s.1.toNat) ?_ ⟨0, l, [], rfl, Nat.zero_le _, rfl, hl, hΨ⟩
  rintro _ rec ⟨k, l, acc, rfl, hk, ha, hl, hΨ⟩ hrec
  rcases Nat.lt_or_ge k n with hlt | hge
  · have e : n - k = (n - (k + 1)) + 1 := by omega
    rw [e] at hΨ
    have hΨ : Ψ (if (one l).2.2 ≠ 0 then ([], [], (one l).2.2) else decF one (n - (k + 1)) (acc ++ [(one l).1]) (one l).2.1) := hΨ
    refine h1 k l acc rec hlt ha hl (fun h => by rw [if_pos h] at hΨ; exact hΨ) fun h => ?_
    rw [if_neg (fun t => t h)] at hΨ
    refine hrec _ ⟨k + 1, _, _, rfl, hlt, by rw [len_snoc, ha], by have := hshort l h; omega, hΨ⟩ ?_
    show n - (((k : Int) + 1)).toNat < n - ((k : Int)).toNat
    omega
  · obtain rfl : k = n := by omega
    rw [Nat.sub_self] at hΨ
    exact h2 l acc rec ha hl hΨ
theorem decF_short {α : Type} {one : Dec α} (hshort : ∀ l, (one l).2.2 = 0 → (one l).2.1.length ≤ l.length) : ∀ (n : Nat) (acc : List α) (l : By), (decF one n acc l).2.2 = 0 → (decF one n acc l).2.1.length ≤ l.length
  | 0, _, _, _ => Nat.le_refl _
  | n + 1, acc, l, h => by
    have e : decF one (n + 1) acc l = if (one l).2.2 ≠ 0 then ([], [], (one l).2.2) else decF one n (acc ++ [(one l).1]) (one l).2.1 := rfl
    rw [e] at h ⊢
    by_cases h1 : (one l).2.2 = 0
    · rw [if_neg (fun t => t h1)] at h ⊢
      have := decF_short hshort n _ _ h
      have := hshort l h1
      omega
    · rw [if_pos h1] at h; exact absurd h h1
theorem decF_all {α : Type} {one : Dec α} {P : α → Prop} (hp : ∀ l, (one l).2.2 = 0 → P (one l).1) : ∀ (n : Nat) (acc : List α) (l : By), (∀ x ∈ acc, P x) → (∀ x ∈ (decF one n acc l).1, P x) ∧ (decF one n acc l).1.length ≤ acc.length + n
  | 0, _, _, h => ⟨h, Nat.le_refl _⟩
  | n + 1, acc, l, h => by
    have e : decF one (n + 1) acc l = if (one l).2.2 ≠ 0 then ([], [], (one l).2.2) else decF one n (acc ++ [(one l).1]) (one l).2.1 := rfl
    rw [e]
    by_cases h1 : (one l).2.2 = 0
    · rw [if_neg (fun t => t h1)]
      have := decF_all hp n (acc ++ [(one l).1]) (one l).2.1 fun x hx => by
        rcases List.mem_append.1 hx with hx | hx
        · exact h x hx
        · rw [List.mem_singleton.1 hx]; exact hp l h1
      rw [len_snoc] at this
      exact ⟨this.1, by omega⟩
    · rw [if_pos h1]
      exact ⟨(fun x hx => by cases hx), Nat.zero_le _⟩
theorem decList_short {α : Type} {one : Dec α} (hshort : ∀ l, (one l).2.2 = 0 → (one l).2.1.length ≤ l.length) {l : By} (h : (decList one l).2.2 = 0) : (decList one l).2.1.length ≤ l.length := by
  unfold decList at h ⊢
  by_cases h1 : (decLen l).2.2 = 0
  · rw [if_neg (fun t => t h1)] at h ⊢
    have := decF_short hshort _ _ _ h
    have := decLen_ok h1
    omega
  · rw [if_pos h1] at h; exact absurd h h1
theorem decList_all {α : Type} {one : Dec α} {P : α → Prop} (hp : ∀ l, (one l).2.2 = 0 → P (one l).1) (l : By) : (∀ x ∈ (decList one l).1, P x) ∧ (decList one l).1.length ≤ 65536 := by
  unfold decList
  by_cases h1 : (decLen l).2.2 = 0
  · rw [if_neg (fun t => t h1)]
    have := decF_all hp (decLen l).1.toNat [] (decLen l).2.1 fun x hx => by cases hx
    have := decLen_ok h1
    refine ⟨by simp_all, ?_⟩
    have h3 : (decF one (decLen l).1.toNat [] (decLen l).2.1).1.length ≤ ([] : List α).length + (decLen l).1.toNat := by simp_all
    have h4 : ([] : List α).length = 0 := rfl
    omega
  · rw [if_pos h1]
    exact ⟨(fun x hx => by cases hx), Nat.zero_le _⟩
theorem decSc_short (l : By) : (decSc l).2.1.length ≤ l.length := by
  unfold decSc
  split
  · exact Nat.zero_le _
  · show (l.drop 8).length ≤ _; rw [List.length_drop]; omega
def w0 : api_Write := ⟨0, 0, []⟩
def decW : Dec api_Write := fun l =>
  if (decN l).2.2 ≠ 0 then (w0, [], (decN l).2.2)
  else if (decN (decN l).2.1).2.2 ≠ 0 then (w0, [], (decN (decN l).2.1).2.2)
  else if (decList decSc (decN (decN l).2.1).2.1).2.2 ≠ 0 then (w0, [], (decList decSc (decN (decN l).2.1).2.1).2.2)
  else (⟨(decN l).1, (decN (decN l).2.1).1, (decList decSc (decN (decN l).2.1).2.1).1⟩, (decList decSc (decN (decN l).2.1).2.1).2.1, 0)
theorem decW_ok {l : By} (h : (decW l).2.2 = 0) : (decW l).2.1.length ≤ l.length ∧ (decW l).1.Data.length ≤ 65536 := by
  unfold decW at h ⊢
  by_cases h1 : (decN l).2.2 = 0
  · rw [if_neg (fun t => t h1)] at h ⊢
    by_cases h2 : (decN (decN l).2.1).2.2 = 0
    · rw [if_neg (fun t => t h2)] at h ⊢
      by_cases h3 : (decList decSc (decN (decN l).2.1).2.1).2.2 = 0
      · rw [if_neg (fun t => t h3)]
        have a1 := decN_ok h1
        have a2 := decN_ok h2
        have a3 := decList_short (fun l _ => decSc_short l) h3
        exact ⟨by show (decList decSc (decN (decN l).2.1).2.1).2.1.length ≤ _; omega, (decList_all (P := fun _ => True) (fun _ _ => trivial) _).2⟩
      · rw [if_pos h3] at h; exact absurd h h3
    · rw [if_pos h2] at h; exact absurd h h2
  · rw [if_pos h1] at h; exact absurd h h1
theorem wire_Int_ok {x0 : By} {Φ : Int × By × Int → Prop} (hx : x0.length ≤ 1000000) (hΦ : Φ (decN x0)) : wire_Int_W x0 Φ := by
  show LoopW (wire_Int_L2 x0 (wire_Int_J1 Φ) Φ) (0, 0)
  have e : wire_Int_L2 x0 (wire_Int_J1 Φ) Φ = NumStep x0 (fun n e l => wire_Int_J1 Φ (n, e, l)) := by funext ⟨a, b⟩ rec; rfl
  rw [e]
  refine num_ways (fun h => ⟨fun _ => by rw [decN_err h] at hΦ; exact hΦ, fun t => absurd h t⟩) fun h => ⟨fun t => absurd rfl t, fun _ => clone_by ?_ ?_⟩
  · have := decN_ok h; omega
  · rw [trip h] at hΦ; exact hΦ
theorem dl_err {α : Type} {one : Dec α} {l : By} (h : (decLen l).2.2 ≠ 0) : decList one l = ([], [], (decLen l).2.2) := by unfold decList; rw [if_pos h]
theorem dl_ok {α : Type} {one : Dec α} {l : By} (h : (decLen l).2.2 = 0) : decList one l = decF one (decLen l).1.toNat [] (decLen l).2.1 := by unfold decList; rw [if_neg (fun t => t h)]
theorem wire_Ints_ok {x0 : By} {Φ : List Int × By × Int → Prop} (hx : x0.length ≤ 1000000) (hΦ : Φ (decList decN x0)) : wire_Ints_W x0 Φ := by
  have j1 : ∀ e l, e ≠ 0 → Φ ([], [], e) → wire_Ints_J1 Φ (e, l, []) := fun e l he h => ⟨fun _ => h, fun t => absurd he t⟩
  show LoopW (wire_Ints_L8 x0 (wire_Ints_J7 (wire_Ints_J2 (wire_Ints_J1 Φ) Φ) Φ) Φ) (0, 0)
  generalize hJ : wire_Ints_J2 (wire_Ints_J1 Φ) Φ = J2
  have e : wire_Ints_L8 x0 (wire_Ints_J7 J2 Φ) Φ = NumStep x0 (fun n e l => LenJ J2 (n, e, l)) := by funext ⟨a, b⟩ rec; rfl
  rw [e]
  refine len_ways (fun h n l => ?_) fun h => ?_
  · rw [← hJ]
    rw [dl_err h] at hΦ
    exact ⟨fun _ => j1 _ _ h hΦ, fun t => absurd h t⟩
  · rw [← hJ]
    rw [dl_ok h] at hΦ
    obtain ⟨b0, b1, b2⟩ := decLen_ok h
    refine ⟨fun t => absurd rfl t, fun _ => ?_⟩
    generalize hn : (decLen x0).1.toNat = n at hΦ
    have hn2 : (decLen x0).1 = (n : Int) := by omega
    rw [hn2]
    refine decF_loop (one := decN) (Ψ := Φ) (fun l hl => (decN_ok hl).2.2) (by omega) (fun k l acc rec hk ha hl f1 f2 => ⟨fun _ => ?_, fun t => absurd (show (k : Int) < (n : Int) by omega) t⟩) (fun l acc rec ha hl hf => ⟨fun t => absurd t (by omega), fun _ => ⟨fun t => absurd rfl t, fun _ => clone_by hl hf⟩⟩) hΦ
    show LoopW (wire_Ints_L5 l (wire_Ints_J4 (wire_Ints_J1 Φ) (k : Int) acc rec Φ) Φ) (0, 0)
    have e2 : wire_Ints_L5 l (wire_Ints_J4 (wire_Ints_J1 Φ) (k : Int) acc rec Φ) Φ = NumStep l (fun n e l => wire_Ints_J4 (wire_Ints_J1 Φ) (k : Int) acc rec Φ (n, e, l)) := by funext ⟨a, b⟩ rec; rfl
    rw [e2]
    exact num_ways (fun t => ⟨fun _ => j1 _ _ t (f1 t), fun u => absurd t u⟩) fun t => ⟨fun u => absurd rfl u, fun _ => ⟨iL (by rw [len_snoc]; omega) (by omega), iI (by omega) (by omega), f2 t⟩⟩
theorem sec_at {l : By} (h : 8 ≤ l.length) (k : Nat) (hk : k < 8) : ix (l.take 8) (k : Int) = ix l (k : Int) := by
  rw [ix_get (by rw [List.length_take]; omega), ix_get (by omega), List.getElem_take]
theorem decSc_big {l : By} (h : ¬ (l.length < 8)) : decSc l = (⟨ix l 0, ix l 1, ix l 2, ix l 3, ix l 4, ix l 5, ix l 6, ix l 7⟩, l.drop 8, 0) := by unfold decSc; rw [if_neg h]
theorem wire_Writes_ok {x0 : By} {Φ : List api_Write × By × Int → Prop} (hx : x0.length ≤ 1000000) (hΦ : Φ (decList decW x0)) : wire_Writes_W x0 Φ := by
  have j1 : ∀ e l, e ≠ 0 → Φ ([], [], e) → Z94 Φ (e, l, []) := fun e l he h => ⟨fun _ => h, fun t => absurd he t⟩
  show LoopW (Z113 x0 (Z111 (Z110 (Z94 Φ) Φ) Φ) Φ) (0, 0)
  generalize hJ : Z110 (Z94 Φ) Φ = J2
  have e : Z113 x0 (Z111 J2 Φ) Φ = NumStep x0 (fun n e l => LenJ J2 (n, e, l)) := by funext ⟨a, b⟩ rec; rfl
  rw [e]
  refine len_ways (fun h n l => ?_) fun h => ?_
  · rw [← hJ]
    rw [dl_err h] at hΦ
    exact ⟨fun _ => j1 _ _ h hΦ, fun t => absurd h t⟩
  · rw [← hJ]
    rw [dl_ok h] at hΦ
    obtain ⟨b0, b1, b2⟩ := decLen_ok h
    refine ⟨fun t => absurd rfl t, fun _ => ?_⟩
    generalize hn : (decLen x0).1.toNat = n at hΦ
    have hn2 : (decLen x0).1 = (n : Int) := by omega
    rw [hn2]
    refine decF_loop (one := decW) (Ψ := Φ) (fun l hl => (decW_ok hl).1) (by omega) (fun k l acc rec hk ha hl f1 f2 => ⟨fun _ => ?_, fun t => absurd (show (k : Int) < (n : Int) by omega) t⟩) (fun l acc rec ha hl hf => ⟨fun t => absurd t (by omega), fun _ => ⟨fun t => absurd rfl t, fun _ => clone_by hl hf⟩⟩) hΦ
    generalize hJ4 : Z102 (Z94 Φ) (k : Int) acc rec Φ = J4
    show LoopW (Z108 l (Z106 J4 Φ) Φ) (0, 0)
    have e2 : Z108 l (Z106 J4 Φ) Φ = NumStep l (fun n e l => Z106 J4 Φ (n, e, l)) := by funext ⟨a, b⟩ rec; rfl
    rw [e2]
    have j4 : ∀ a b e l, e ≠ 0 → Φ ([], [], e) → J4 (a, b, e, l) := fun a b e l he h => by
      rw [← hJ4]
      exact ⟨fun _ => ⟨fun _ => j1 _ _ he h, fun t => absurd he t⟩, fun t => absurd he t⟩
    refine num_ways (fun t => ⟨fun _ => j4 _ _ _ _ t ?_, fun u => absurd t u⟩) fun t => ⟨fun u => absurd rfl u, fun _ => ?_⟩
    · have : decW l = (w0, [], (decN l).2.2) := by unfold decW; rw [if_pos t]
      rw [this] at f1
      exact f1 t
    have s1 := decN_ok t
    generalize hl1 : (decN l).2.1 = l1 at s1
    show LoopW (Z105 l1 (Z103 J4 (decN l).1 Φ) Φ) (0, 0)
    rw [show Z105 l1 (Z103 J4 (decN l).1 Φ) Φ = NumStep l1 (fun n e l' => Z103 J4 (decN l).1 Φ (e, n, l')) by funext ⟨a, b⟩ rec; rfl]
    refine num_ways (fun u => j4 _ _ _ _ u ?_) fun u => ?_
    · have : decW l = (w0, [], (decN l1).2.2) := by unfold decW; rw [if_neg (fun q => q t), hl1, if_pos u]
      rw [this] at f1
      exact f1 u
    have s2 := decN_ok u
    generalize hl2 : (decN l1).2.1 = l2 at s2
    show J4 ((decN l).1, (decN l1).1, 0, l2)
    rw [← hJ4]
    refine ⟨fun q => absurd rfl q, fun _ => ?_⟩
    generalize hJ5 : Z95 (Z94 Φ) (k : Int) acc rec (decN l).1 (decN l1).1 Φ = J5
    show LoopW (Z101 l2 (Z99 (Z98 J5 Φ) Φ) Φ) (0, 0)
    rw [show Z101 l2 (Z99 (Z98 J5 Φ) Φ) Φ = NumStep l2 (fun n e l' => LenJ (Z98 J5 Φ) (n, e, l')) by funext ⟨a, b⟩ rec; rfl]
    have d3 : ∀ q, decList decSc l2 = q → q.2.2 ≠ 0 → decW l = (w0, [], q.2.2) := fun q hq hne => by unfold decW; rw [if_neg (fun q => q t), hl1, if_neg (fun q => q u), hl2, hq, if_pos hne]
    have d4 : ∀ q, decList decSc l2 = q → q.2.2 = 0 → decW l = (⟨(decN l).1, (decN l1).1, q.1⟩, q.2.1, 0) := fun q hq hne => by unfold decW; rw [if_neg (fun q => q t), hl1, if_neg (fun q => q u), hl2, hq, if_neg (fun q => q hne)]
    have j5 : ∀ e l', e ≠ 0 → Φ ([], [], e) → J5 (e, l', []) := fun e l' he h => by
      rw [← hJ5]
      exact ⟨fun _ => j1 _ _ he h, fun q => absurd he q⟩
    have fin : ∀ q : List Sec × By × Int, decList decSc l2 = q → (q.2.2 ≠ 0 → Φ ([], [], q.2.2)) ∧ (q.2.2 = 0 → J5 (0, q.2.1, q.1)) := fun q hq => ⟨fun hne => by rw [d3 q hq hne] at f1; exact f1 hne, fun he => by
      rw [d4 q hq he] at f2
      rw [← hJ5]
      exact ⟨fun q => absurd rfl q, fun _ => ⟨iL (by rw [len_snoc]; omega) (by omega), iI (by omega) (by omega), f2 rfl⟩⟩⟩
    refine len_ways (fun v n l' => ?_) fun v => ?_
    · have := (fin _ (dl_err v)).1 v
      exact ⟨fun _ => j5 _ _ v this, fun q => absurd v q⟩
    · obtain ⟨c0, c1, c2⟩ := decLen_ok v
      refine ⟨fun q => absurd rfl q, fun _ => ?_⟩
      have hq := fin _ (dl_ok v)
      generalize hm : (decLen l2).1.toNat = m at hq
      have hm2 : (decLen l2).1 = (m : Int) := by omega
      rw [hm2]
      refine decF_loop (one := decSc) (Ψ := fun q => (q.2.2 ≠ 0 → Φ ([], [], q.2.2)) ∧ (q.2.2 = 0 → J5 (0, q.2.1, q.1))) (fun l _ => decSc_short l) (by omega) (fun j l' ac rec2 hj hac hl' g1 g2 => ⟨fun _ => ⟨fun q => ?_, fun q => ?_⟩, fun q => absurd (show (j : Int) < (m : Int) by omega) q⟩) (fun l' ac rec2 hac hl' hf => ⟨fun q => absurd q (by omega), fun _ => hf.2 rfl⟩) hq
      · have e8 : decSc l' = (sec0, [], 10) := by unfold decSc; rw [if_pos (by omega)]
        rw [e8] at g1
        exact ⟨fun _ => ⟨fun _ => j5 _ _ (by decide) ((g1 (by decide)).1 (by decide)), fun r => absurd (by decide) r⟩, fun r => absurd (by decide) r⟩
      · have h8 : 8 ≤ l'.length := by omega
        have e8 := decSc_big (l := l') (by omega)
        rw [e8] at g2
        have t8 : sub l' 0 8 = l'.take 8 := sub_take (k := 8)
        have r8 : sub l' 8 (l'.length : Int) = l'.drop 8 := sub_drop (k := 8) h8
        rw [t8, r8]
        refine ⟨iS (by omega) (by omega) (by omega), iS (by omega) (by omega) (by omega), fun r => absurd rfl r, fun _ => ⟨by rw [List.length_take]; omega, fun r => absurd rfl r, fun _ => ⟨iL (by rw [len_snoc]; omega) (by omega), iI (by omega) (by omega), ?_⟩⟩⟩
        have a0 := sec_at h8 0 (by omega)
        have a1 := sec_at h8 1 (by omega)
        have a2 := sec_at h8 2 (by omega)
        have a3 := sec_at h8 3 (by omega)
        have a4 := sec_at h8 4 (by omega)
        have a5 := sec_at h8 5 (by omega)
        have a6 := sec_at h8 6 (by omega)
        have a7 := sec_at h8 7 (by omega)
        have : (ix ([(Sec.mk (ix (l'.take 8) 0) (ix (l'.take 8) 1) (ix (l'.take 8) 2) (ix (l'.take 8) 3) (ix (l'.take 8) 4) (ix (l'.take 8) 5) (ix (l'.take 8) 6) (ix (l'.take 8) 7))]) 0) = ⟨ix l' 0, ix l' 1, ix l' 2, ix l' 3, ix l' 4, ix l' 5, ix l' 6, ix l' 7⟩ := by
          show Sec.mk _ _ _ _ _ _ _ _ = _
          exact congr (congr (congr (congr (congr (congr (congr (congrArg Sec.mk a0) a1) a2) a3) a4) a5) a6) a7
        rw [this]
        exact g2 rfl
def wrM (m : List (coalesce_place × Sec)) (v s : Int) : List Sec → List (coalesce_place × Sec)
  | [] => m
  | d :: r => wrM (mput m ⟨v, s⟩ d) v (s + 1) r
theorem wrM_snoc {v : Int} {d : Sec} : ∀ (l : List Sec) (m : List (coalesce_place × Sec)) (s : Int), wrM m v s (l ++ [d]) = mput (wrM m v s l) ⟨v, s + (l.length : Int)⟩ d
  | [], m, s => by
    show mput m ⟨v, s⟩ d = mput m ⟨v, s + 0⟩ d
    rw [Int.add_zero]
  | x :: l, m, s => by
    rw [List.cons_append, wrM, wrM, wrM_snoc l, show s + 1 + (l.length : Int) = s + ((x :: l).length : Int) by rw [List.length_cons]; omega]
def effM (l : List api_Write) : List (coalesce_place × Sec) := l.foldl (fun m w => wrM m w.Volume w.Start w.Data) []
theorem effM_snoc (l : List api_Write) (w : api_Write) : effM (l ++ [w]) = wrM (effM l) w.Volume w.Start w.Data := by simp [effM]
theorem mput_len {κ ν : Type} [DecidableEq κ] (k : κ) (v : ν) : ∀ m : List (κ × ν), (mput m k v).length ≤ m.length + 1
  | [] => by simp [mput]
  | p :: r => by
    unfold mput
    split
    · simp
    · have := mput_len k v r
      simp only [List.length_cons]; omega
theorem wrM_len {v : Int} : ∀ (l : List Sec) (m : List (coalesce_place × Sec)) (s : Int), (wrM m v s l).length ≤ m.length + l.length
  | [], m, s => Nat.le_refl _
  | d :: r, m, s => by
    have h1 := wrM_len (v := v) r (mput m ⟨v, s⟩ d) (s + 1)
    have h2 := mput_len (⟨v, s⟩ : coalesce_place) d m
    rw [wrM, List.length_cons]; omega
theorem effM_len {c : Nat} : ∀ (l : List api_Write) (m : List (coalesce_place × Sec)), (∀ w ∈ l, w.Data.length ≤ c) → (l.foldl (fun m w => wrM m w.Volume w.Start w.Data) m).length ≤ m.length + l.length * c
  | [], m, _ => by simp
  | w :: l, m, h => by
    have h1 := effM_len l (wrM m w.Volume w.Start w.Data) fun x hx => h x (List.mem_cons_of_mem _ hx)
    have h2 := wrM_len (v := w.Volume) w.Data m w.Start
    have h3 := h w (List.mem_cons_self ..)
    rw [List.foldl_cons, List.length_cons, Nat.succ_mul]; omega
theorem mput_all {κ ν : Type} [DecidableEq κ] {p : κ → Prop} {k : κ} {v : ν} (hk : p k) : ∀ {m : List (κ × ν)}, (∀ q ∈ m, p q.1) → ∀ q ∈ mput m k v, p q.1
  | [], _, q, hq => by
    obtain rfl : q = (k, v) := by simpa [mput] using hq
    exact hk
  | a :: r, h, q, hq => by
    unfold mput at hq
    split at hq
    · rcases List.mem_cons.1 hq with rfl | hq
      · exact h a (List.mem_cons_self ..)
      · exact h q (List.mem_cons_of_mem _ hq)
    · rcases List.mem_cons.1 hq with rfl | hq
      · exact h _ (List.mem_cons_self ..)
      · exact mput_all hk (fun q hq => h q (List.mem_cons_of_mem _ hq)) q hq
theorem wrM_all {p : coalesce_place → Prop} {v : Int} : ∀ (l : List Sec) (m : List (coalesce_place × Sec)) (s : Int), (∀ j : Nat, j < l.length → p ⟨v, s + (j : Int)⟩) → (∀ q ∈ m, p q.1) → ∀ q ∈ wrM m v s l, p q.1
  | [], m, s, _, h => h
  | d :: r, m, s, hp, h => by
    refine wrM_all r _ (s + 1) (fun j hj => ?_) (mput_all ?_ h)
    · have := hp (j + 1) (by rw [List.length_cons]; omega)
      rwa [show s + ((j + 1 : Nat) : Int) = s + 1 + (j : Int) by omega] at this
    · have := hp 0 (by rw [List.length_cons]; omega)
      rwa [show s + ((0 : Nat) : Int) = s by omega] at this
def placedR (w : api_Write) : Int := if w.Volume < 0 ∨ 8 ≤ w.Volume then 7 else if w.Data.length = 0 then 1 else if w.Start < 0 ∨ 4096 - (w.Data.length : Int) < w.Start then 2 else 0
theorem placed0 {w : api_Write} (h : placedR w = 0) : 0 ≤ w.Volume ∧ w.Volume < 8 ∧ 0 < w.Data.length ∧ 0 ≤ w.Start ∧ w.Start + (w.Data.length : Int) ≤ 4096 := by
  unfold placedR at h
  split at h
  · omega
  · split at h
    · omega
    · split at h
      · omega
      · omega
theorem placed_W {w : api_Write} (hl : w.Data.length ≤ 1000000) {Φ : Int → Prop} (h : Φ (placedR w)) : Z17 w Φ := by
  unfold placedR at h
  have J : ∀ b : Bool, (b = true ↔ w.Volume < 0 ∨ 8 ≤ w.Volume) → Z16 w Φ b := fun b hb => by
    refine ⟨fun e => by rw [if_pos (hb.1 e)] at h; exact h, fun e => ?_⟩
    rw [if_neg fun q => e (hb.2 q)] at h
    refine ⟨fun q => by rw [if_pos (by omega)] at h; exact h, fun q => ?_⟩
    rw [if_neg (by omega)] at h
    refine ⟨fun r => by rw [if_pos (.inl r)] at h; exact h, fun r => ⟨iI (by omega) (by omega), fun s => by rw [if_pos (.inr s)] at h; exact h, fun s => by rw [if_neg (by omega)] at h; exact h⟩⟩
  exact ⟨fun q => J true ⟨fun _ => .inl q, fun _ => rfl⟩, fun q => J _ (by simp; omega)⟩
def PlL (l : List api_Write) : Prop := ∀ w ∈ l, placedR w = 0
theorem effM_place {l : List api_Write} (h : PlL l) : ∀ q ∈ effM l, 0 ≤ q.1.volume ∧ q.1.volume < 8 ∧ 0 ≤ q.1.sector ∧ q.1.sector < 4096 := by
  have key : ∀ (l : List api_Write) (m : List (coalesce_place × Sec)), PlL l → (∀ q ∈ m, 0 ≤ q.1.volume ∧ q.1.volume < 8 ∧ 0 ≤ q.1.sector ∧ q.1.sector < 4096) → ∀ q ∈ l.foldl (fun m w => wrM m w.Volume w.Start w.Data) m, 0 ≤ q.1.volume ∧ q.1.volume < 8 ∧ 0 ≤ q.1.sector ∧ q.1.sector < 4096 := by
    intro l
    induction l with
    | nil => intro m _ h; exact h
    | cons w l ih =>
      intro m h hm
      have := placed0 (h w (List.mem_cons_self ..))
      exact ih _ (fun x hx => h x (List.mem_cons_of_mem _ hx)) (wrM_all (p := fun c => 0 ≤ c.volume ∧ c.volume < 8 ∧ 0 ≤ c.sector ∧ c.sector < 4096) _ _ _ (fun j hj => ⟨by show 0 ≤ w.Volume; omega, by show w.Volume < 8; omega, by show 0 ≤ w.Start + (j : Int); omega, by show w.Start + (j : Int) < 4096; omega⟩) hm)
  exact key l [] h fun q hq => by cases hq
def clsW (xs : List api_Write) (ys : List Sec) : List api_Write := put xs ((xs.length : Int) - 1) ⟨(ix xs ((xs.length : Int) - 1)).Volume, (ix xs ((xs.length : Int) - 1)).Start, ys⟩
def grpS (m : List (coalesce_place × Sec)) (st : coalesce_place × List api_Write × List Sec) (p : coalesce_place) : coalesce_place × List api_Write × List Sec :=
  if p ≠ st.1 then (⟨p.volume, p.sector + 1⟩, clsW st.2.1 st.2.2 ++ [⟨p.volume, p.sector, []⟩], [] ++ [mget m p sec0]) else (⟨p.volume, p.sector + 1⟩, st.2.1, st.2.2 ++ [mget m p sec0])
def grpL (m : List (coalesce_place × Sec)) (l : List coalesce_place) : coalesce_place × List api_Write × List Sec := l.foldl (grpS m) (⟨-1, 0⟩, [], [])
theorem grpL_snoc (m : List (coalesce_place × Sec)) (l : List coalesce_place) (p : coalesce_place) : grpL m (l ++ [p]) = grpS m (grpL m l) p := by simp [grpL]
def canL (m : List (coalesce_place × Sec)) : List api_Write := clsW (grpL m (sortG pleB (m.map (·.1)))).2.1 (grpL m (sortG pleB (m.map (·.1)))).2.2
theorem clsW_len (xs : List api_Write) (ys : List Sec) : (clsW xs ys).length = xs.length := put_len _ _ _
theorem snocInd {α : Type} {P : List α → Prop} (h0 : P []) (h1 : ∀ l x, P l → P (l ++ [x])) (l : List α) : P l := by
  rw [← List.reverse_reverse l]
  induction l.reverse with
  | nil => exact h0
  | cons x r ih => rw [List.reverse_cons]; exact h1 _ _ ih
theorem nodup_len : ∀ (n : Nat) (l : List Nat), l.Nodup → (∀ i ∈ l, i < n) → l.length ≤ n
  | 0, [], _, _ => Nat.le_refl _
  | 0, i :: _, _, h => absurd (h i (List.mem_cons_self ..)) (Nat.not_lt_zero i)
  | n + 1, l, hd, h => by
    by_cases hn : n ∈ l
    · have h1 := nodup_len n (l.erase n) (hd.erase n) fun i hi => by
        have h2 := (List.Nodup.mem_erase_iff hd).1 hi
        have h3 := h i h2.2
        have := h2.1
        omega
      rw [List.length_erase_of_mem hn] at h1
      omega
    · have h1 := nodup_len n l hd fun i hi => by
        have h3 := h i hi
        have : i ≠ n := by rintro rfl; exact hn hi
        omega
      omega
theorem grpL_len (m : List (coalesce_place × Sec)) : ∀ l : List coalesce_place, (grpL m l).2.1.length ≤ l.length ∧ (grpL m l).2.2.length ≤ l.length ∧ (l ≠ [] → (∀ p ∈ l, p ≠ ⟨-1, 0⟩) → 0 < (grpL m l).2.1.length) := by
  refine snocInd ⟨Nat.le_refl _, Nat.le_refl _, fun h => absurd rfl h⟩ fun l p ih => ?_
  obtain ⟨h1, h2, h3⟩ := ih
  rw [grpL_snoc, len_snoc]
  unfold grpS
  split
  · refine ⟨?_, ?_, fun _ _ => ?_⟩
    · simp only [List.length_append, clsW_len, List.length_singleton]; omega
    · simp only [List.length_append, List.length_nil, List.length_singleton]; omega
    · simp only [List.length_append, clsW_len, List.length_singleton]; omega
  · rename_i hp
    refine ⟨by simp only; omega, by simp only [List.length_append, List.length_singleton]; omega, fun _ hall => ?_⟩
    by_cases hl : l = []
    · subst hl
      exact absurd (Classical.not_not.1 hp) (hall p (by simp))
    · exact h3 hl fun q hq => hall q (List.mem_append_left _ hq)
theorem behind_W {p : coalesce_place} {Φ : coalesce_place → Prop} (h : inI (p.sector + 1)) (hΦ : Φ ⟨p.volume, p.sector + 1⟩) : Z18 p Φ := ⟨h, hΦ⟩
theorem group_W {m : List (coalesce_place × Sec)} {ps : List coalesce_place} {Φ : List api_Write × Int → Prop} (hb : ps.length ≤ 100000000) (hp : ∀ p ∈ ps, 0 ≤ p.volume ∧ p.volume < 8 ∧ 0 ≤ p.sector ∧ p.sector < 4096) (hΦ : Φ (clsW (grpL m ps).2.1 (grpL m ps).2.2, 0)) : LoopW (Z25 m ps Φ) (0, -1, 0, [], []) := by
  have lOk : ∀ {n : Nat}, n ≤ 100000001 → lenOk n 40 := fun h => ⟨by omega, by simp only [maxLen]; omega⟩
  have lOk8 : ∀ {n : Nat}, n ≤ 100000001 → lenOk n 8 := fun h => ⟨by omega, by simp only [maxLen]; omega⟩
  refine LoopW.upT ps.length (fun k => ((k : Int), (grpL m (ps.take k)).1.volume, (grpL m (ps.take k)).1.sector, (grpL m (ps.take k)).2.1, (grpL m (ps.take k)).2.2)) rfl (fun k rec hk hrec => ?_) fun rec => ?_
  · obtain ⟨l1, l2, l3⟩ := grpL_len m (ps.take k)
    rw [lenT (by omega)] at l1 l2
    have hmem : ix ps (k : Int) ∈ ps := ix_mem ⟨by omega, by omega⟩
    have hpl := hp _ hmem
    have hst : grpL m (ps.take (k + 1)) = grpS m (grpL m (ps.take k)) (ix ps (k : Int)) := by rw [take_ix hk, grpL_snoc]
    obtain ⟨n1, n2, n3⟩ := grpL_len m (ps.take (k + 1))
    have n4 := n3 (by rw [take_ix hk]; simp) (fun p hq => by
      have := hp p (List.mem_of_mem_take hq)
      rintro rfl
      simp at this)
    rw [lenT (by omega)] at n1 n2
    have J : ∀ xs ys, (⟨(ix ps (k : Int)).volume, (ix ps (k : Int)).sector + 1⟩, xs, ys ++ [mget m (ix ps (k : Int)) sec0]) = grpL m (ps.take (k + 1)) → Z24 m ps (k : Int) rec Φ (xs, ys) := fun xs ys e => by
      have e1 : xs = (grpL m (ps.take (k + 1))).2.1 := by rw [← e]
      have e2 : ys ++ [mget m (ix ps (k : Int)) sec0] = (grpL m (ps.take (k + 1))).2.2 := by rw [← e]
      refine ⟨iI (by omega) (by rw [e1]; omega), iX (by rw [e1]; omega) (by omega), by omega, lOk8 (by rw [e2]; omega), behind_W (iI (by omega) (by omega)) ⟨iI (by omega) (by omega), hrec _ ?_⟩⟩
      rw [← e]; rfl
    refine ⟨fun _ => ⟨iX (by omega) (by omega), ?_⟩, fun h => absurd (show (k : Int) < (ps.length : Int) by omega) h⟩
    show (ix ps (k : Int) ≠ _ → _) ∧ (¬ (ix ps (k : Int) ≠ _) → _)
    refine ⟨fun h => ⟨lOk ?_, J _ _ ?_⟩, fun h => J _ _ ?_⟩
    · have := clsW_len (grpL m (ps.take k)).2.1 (grpL m (ps.take k)).2.2
      unfold clsW at this
      rw [len_snoc, this]; omega
    · rw [hst]; unfold grpS; rw [if_pos h]; rfl
    · rw [hst]; unfold grpS; rw [if_neg h]
  · refine ⟨fun h => absurd h (by simp), fun _ => ?_⟩
    rw [show ps.take ps.length = ps from take_all ps]
    exact hΦ
theorem gather_W {m : List (coalesce_place × Sec)} {Φ : List api_Write × Int → Prop} (hb : m.length ≤ 100000000) (hp : ∀ q ∈ m, 0 ≤ q.1.volume ∧ q.1.volume < 8 ∧ 0 ≤ q.1.sector ∧ q.1.sector < 4096) (hΦ : Φ (canL m, 0)) : LoopW (Z26 m Φ) ((m.length, []), []) := by
  have hent : ∀ i, i < m.length → ent m i ∈ m := fun i hi => by
    unfold ent
    rw [List.getD_eq_getElem?_getD, List.getElem?_eq_getElem hi]
    exact List.getElem_mem hi
  refine LoopW.of_inv (fun s => s.1.1 = m.length ∧ s.1.2.Nodup ∧ (∀ i ∈ s.1.2, i < m.length) ∧ s.2 = s.1.2.reverse.map fun i => (ent m i).1) (fun s => m.length - s.1.2.length) ?_ ⟨rfl, List.nodup_nil, (fun _ h => by cases h), rfl⟩
  rintro ⟨⟨n, seen⟩, ps⟩ rec ⟨h1, h2, h3, h4⟩ hrec
  simp only at h1 h2 h3 h4
  subst h1 h4
  have hle : seen.length ≤ m.length := nodup_len _ _ h2 h3
  refine ⟨rfl, fun hall => ?_, fun i hi hni => ⟨rfl, hi, ?_, hrec _ ⟨rfl, List.nodup_cons.2 ⟨hni, h2⟩, fun j hj => ?_, ?_⟩ ?_⟩⟩
  · have hperm : seen.Perm (List.range m.length) := (List.perm_ext_iff_of_nodup h2 List.nodup_range).2 fun i => ⟨fun hi => List.mem_range.2 (h3 i hi), fun hi => hall i (List.mem_range.1 hi)⟩
    have hmap : (List.range m.length).map (fun i => (ent m i).1) = m.map (·.1) := by
      apply List.ext_getElem
      · simp
      · intro i hi1 hi2
        have hi : i < m.length := by simpa using hi2
        simp only [List.getElem_map, List.getElem_range]
        unfold ent
        rw [List.getD_eq_getElem?_getD, List.getElem?_eq_getElem hi]
        rfl
    have hp2 : (seen.reverse.map fun i => (ent m i).1).Perm (m.map (·.1)) := by
      rw [← hmap]
      exact ((List.reverse_perm seen).trans hperm).map _
    have hsort : sortG pleB (seen.reverse.map fun i => (ent m i).1) = sortG pleB (m.map (·.1)) := sortG_of ple_total ple_trans ple_anti ((sortG_perm pleB _).trans hp2) (sortG_sorted ple_total ple_trans _)
    refine ⟨by rw [hp2.length_eq, List.length_map]; omega, ?_⟩
    rw [hsort]
    have hlen : (sortG pleB (m.map (·.1))).length = m.length := by rw [(sortG_perm pleB _).length_eq, List.length_map]
    refine group_W (by rw [hlen]; exact hb) (fun p hp' => ?_) hΦ
    obtain ⟨q, hq, rfl⟩ := List.mem_map.1 ((sortG_perm pleB _).mem_iff.1 hp')
    exact hp q hq
  · refine ⟨?_, ?_⟩
    · rw [len_snoc, List.length_map, List.length_reverse]; omega
    · rw [len_snoc, List.length_map, List.length_reverse]; simp only [maxLen]; omega
  · rcases List.mem_cons.1 hj with rfl | hj
    · exact hi
    · exact h3 j hj
  · simp
  · have h6 : (i :: seen).length ≤ m.length := nodup_len _ _ (List.nodup_cons.2 ⟨hni, h2⟩) fun j hj => by
      rcases List.mem_cons.1 hj with rfl | hj
      · exact hi
      · exact h3 j hj
    show m.length - (i :: seen).length < m.length - seen.length
    rw [List.length_cons] at h6 ⊢
    omega
theorem effect_W {l : List api_Write} {Φ : List api_Write × Int → Prop} (hl : l.length ≤ 20000) (hp : PlL l) (hΦ : Φ (canL (effM l), 0)) : LoopW (Z27 l Φ) (0, []) := by
  have hpl : ∀ k, k < l.length → placedR (ix l (k : Int)) = 0 := fun k hk => hp _ (ix_mem ⟨by omega, by omega⟩)
  have hlen : (effM l).length ≤ 100000000 := by
    have := effM_len (c := 4096) l [] fun w hw => by have := placed0 (hp w hw); omega
    have h2 := Nat.mul_le_mul_right 4096 hl
    show (l.foldl _ []).length ≤ _
    simp only [List.length_nil] at this
    omega
  refine LoopW.upT l.length (fun k => ((k : Int), effM (l.take k))) rfl (fun k rec hk hrec => ?_) fun rec => ?_
  · refine ⟨fun _ => ⟨iX (by omega) (by omega), ?_⟩, fun h => absurd (show (k : Int) < (l.length : Int) by omega) h⟩
    obtain ⟨a1, a2, a3, a4, a5⟩ := placed0 (hpl k hk)
    have hrec := hrec _ rfl
    rw [take_ix hk, effM_snoc] at hrec
    refine LoopW.upT (ix l (k : Int)).Data.length (fun j => ((j : Int), (ix l (k : Int)).Volume, (ix l (k : Int)).Start + (j : Int), wrM (effM (l.take k)) (ix l (k : Int)).Volume (ix l (k : Int)).Start ((ix l (k : Int)).Data.take j))) (by simp [wrM]) (fun j rec3 hj h3 => ?_) fun rec3 => ?_
    · refine ⟨fun _ => ⟨iX (by omega) (by omega), behind_W (iI (by show _ ≤ (ix l (k : Int)).Start + (j : Int) + 1; omega) (by show (ix l (k : Int)).Start + (j : Int) + 1 ≤ _; omega)) ⟨iI (by omega) (by omega), h3 _ ?_⟩⟩, fun h => absurd (show (j : Int) < ((ix l (k : Int)).Data.length : Int) by omega) h⟩
      rw [take_ix hj, wrM_snoc, lenT (by omega)]
      rw [show (ix l (k : Int)).Start + ((j + 1 : Nat) : Int) = (ix l (k : Int)).Start + (j : Int) + 1 by omega]
      rfl
    · refine ⟨fun h => absurd h (by simp), fun _ => ⟨iI (by omega) (by omega), ?_⟩⟩
      rw [show (ix l (k : Int)).Data.take (ix l (k : Int)).Data.length = (ix l (k : Int)).Data from take_all _]
      exact hrec
  · refine ⟨fun h => absurd h (by simp), fun _ => ?_⟩
    rw [show l.take l.length = l from take_all l]
    exact ⟨by omega, ⟨by rw [Int.toNat_natCast]; omega, by rw [Int.toNat_natCast]; simp only [maxLen]; omega⟩, gather_W hlen (effM_place hp) hΦ⟩
def foldR (l : List api_Write) : List api_Write × Int := if firstN (fun k => placedR (ix l (k : Int))) l.length ≠ 0 then ([], firstN (fun k => placedR (ix l (k : Int))) l.length) else (canL (effM l), 0)
theorem coalesce_Fold_ok {l : List api_Write} {Φ : List api_Write × Int → Prop} (hl : l.length ≤ 20000) (hd : ∀ w ∈ l, w.Data.length ≤ 1000000) (hΦ : Φ (foldR l)) : Z29 l Φ := by
  unfold foldR at hΦ
  refine LoopW.errI l.length (fun k => (k : Int)) (fun k => placedR (ix l (k : Int))) (Ψ := fun e => Φ (if e ≠ 0 then ([], e) else (canL (effM l), 0))) rfl hΦ (fun k rec hk hI h1 h0 => ?_) fun rec hI h0 => ?_
  · refine ⟨fun _ => ⟨iX (by omega) (by omega), placed_W (hd _ (ix_mem ⟨by omega, by omega⟩)) ⟨fun e => ?_, fun e => ⟨iI (by omega) (by omega), h0 (Classical.not_not.1 e) _ rfl⟩⟩⟩, fun h => absurd (show (k : Int) < (l.length : Int) by omega) h⟩
    have := h1 e
    rwa [if_pos e] at this
  · refine ⟨fun h => absurd h (by simp), fun _ => ?_⟩
    rw [if_neg (by simp)] at h0
    refine effect_W hl (fun w hw => ?_) h0
    obtain ⟨k, hk, rfl⟩ := List.getElem_of_mem hw
    have := hI k hk
    rwa [ix_get hk] at this
def smallL (l : List api_Write) : Bool := decide (l.length ≤ 20000) && l.all fun w => decide (w.Data.length ≤ 1000000)
theorem smallL_ok {l : List api_Write} (h : smallL l = true) : l.length ≤ 20000 ∧ ∀ w ∈ l, w.Data.length ≤ 1000000 := by
  unfold smallL at h
  rw [Bool.and_eq_true] at h
  exact ⟨of_decide_eq_true h.1, fun w hw => of_decide_eq_true (List.all_eq_true.1 h.2 w hw)⟩
def Z118 (l : List api_Write) : Option (List api_Write × Int) := if smallL l = true then some (foldR l) else none
theorem coalesce_Fold_sound (l : List api_Write) {Φ : List api_Write × Int → Prop} {o} (h : Z118 l = some o) (hK : Φ o) : Z29 l Φ := by
  unfold Z118 at h
  split at h
  · rename_i hs
    cases h
    obtain ⟨h1, h2⟩ := smallL_ok hs
    exact coalesce_Fold_ok h1 h2 hK
  · cases h
def ordE (l : List api_Write) (k : Nat) : Int := if placedR (ix l (k : Int)) ≠ 0 then placedR (ix l (k : Int)) else if k = 0 then 0 else if (ix l (k : Int)).Volume < (ix l ((k : Int) - 1)).Volume ∨ (ix l (k : Int)).Volume = (ix l ((k : Int) - 1)).Volume ∧ (ix l (k : Int)).Start ≤ (ix l ((k : Int) - 1)).Start + ((ix l ((k : Int) - 1)).Data.length : Int) then 3 else 0
def canE (l : List api_Write) : Int := firstN (ordE l) l.length
theorem canE_pl {l : List api_Write} (h : canE l = 0) : PlL l := fun w hw => by
  obtain ⟨k, hk, rfl⟩ := List.getElem_of_mem hw
  have := firstN_zero.1 h k hk
  unfold ordE at this
  rw [ix_get hk] at this
  split at this
  · rename_i h1; exact absurd this h1
  · rename_i h1; exact Classical.not_not.1 h1
def mergeR (a b : List api_Write) : List api_Write × Int := if canE a ≠ 0 then ([], canE a) else if canE b ≠ 0 then ([], canE b) else (canL (effM (a ++ b)), 0)
theorem concat_ok {a b : List api_Write} {Φ : List api_Write → Prop} (ha : a.length ≤ 10000) (hb : b.length ≤ 10000) (hΦ : Φ (a ++ b)) : Z58 [a, b] Φ := by
  have J : ∀ v3 : List api_Write, v3 = [] → Z56 [a, b] Φ v3 := by
    rintro _ rfl
    refine ⟨3, ⟨fun _ => ⟨⟨by decide, by simp⟩, iL (by show (([] : List api_Write) ++ a).length ≤ _; rw [List.nil_append]; omega) (by decide), iI (by decide) (by decide), ⟨fun _ => ⟨⟨by decide, by simp⟩, iL (by show ((([] : List api_Write) ++ a) ++ b).length ≤ _; rw [List.nil_append, List.length_append]; omega) (by decide), iI (by decide) (by decide), ⟨fun h => absurd h (by simp), fun _ => hΦ⟩⟩, fun h => absurd (show (0 + 1 : Int) < _ by simp) h⟩⟩, fun h => absurd (show (0 : Int) < _ by simp) h⟩⟩
  refine LoopW.upT 2 (fun k => ((match k with | 0 => (0 : Int) | 1 => (a.length : Int) | _ => (a.length : Int) + (b.length : Int)), (k : Int))) rfl (fun k rec hk hrec => ?_) fun rec => ?_
  · obtain rfl | rfl : k = 0 ∨ k = 1 := by omega
    · have e : (0 : Int) + (a.length : Int) = (a.length : Int) := by omega
      refine ⟨fun _ => ⟨⟨by decide, by simp⟩, iI (by show _ ≤ (0 : Int) + (a.length : Int); omega) (by show (0 : Int) + (a.length : Int) ≤ _; omega), fun h => absurd (show (0 : Int) + (a.length : Int) < 0 from h) (by omega), fun _ => ⟨iI (by decide) (by decide), hrec _ ?_⟩⟩, fun h => absurd (show (0 : Int) < _ by simp) h⟩
      show ((0 : Int) + (a.length : Int), _) = ((a.length : Int), _)
      rw [e]; rfl
    · refine ⟨fun _ => ⟨⟨by decide, by simp⟩, iI (by show _ ≤ (a.length : Int) + (b.length : Int); omega) (by show (a.length : Int) + (b.length : Int) ≤ _; omega), fun h => absurd (show (a.length : Int) + (b.length : Int) < 0 from h) (by omega), fun _ => ⟨iI (by decide) (by decide), hrec _ rfl⟩⟩, fun h => absurd (show (1 : Int) < _ by simp) h⟩
  · refine ⟨fun h => absurd (show (2 : Int) < (2 : Int) from h) (by decide), fun _ => ?_⟩
    refine ⟨fun h => absurd (show (a.length : Int) + (b.length : Int) < 0 from h) (by omega), fun _ => ⟨iI (by decide) (by decide), iI (by show _ ≤ (a.length : Int) + (b.length : Int) - ((0 : Int) - 0); omega) (by show (a.length : Int) + (b.length : Int) - ((0 : Int) - 0) ≤ _; omega), fun h => ⟨rfl, h, ⟨?_, ?_⟩, iS (by decide) (by decide) (by omega), J _ (by simp [sub])⟩, fun _ => J _ rfl⟩⟩
    · show ((a.length : Int) + (b.length : Int) - ((0 : Int) - 0)).toNat * 40 ≤ _
      omega
    · show ((a.length : Int) + (b.length : Int) - ((0 : Int) - 0)).toNat ≤ _
      simp only [maxLen]; omega
theorem canE_W {a b : List api_Write} {i : Int} {l : List api_Write} (hl : ix ([a, b] : List (List api_Write)) i = l) (hn : l.length ≤ 1000000) (hd : ∀ w ∈ l, w.Data.length ≤ 1000000) {rec1 : Int → Prop} {Φ : List api_Write × Int → Prop} (h : Z59 i rec1 Φ (canE l)) : LoopW (Z60 a b i rec1 Φ) 0 := by
  have hdk : ∀ k : Nat, k < l.length → (ix l (k : Int)).Data.length ≤ 1000000 := fun k hk => hd _ (ix_mem ⟨by omega, by omega⟩)
  refine LoopW.errI l.length (fun k => (k : Int)) (ordE l) (Ψ := Z59 i rec1 Φ) rfl h (fun k rec hk hI h1 h0 => ?_) fun rec hI h0 => ?_
  · unfold Z60
    rw [hl]
    refine ⟨fun _ => ⟨iX (by omega) (by omega), placed_W (hdk k hk) ⟨fun e => ?_, fun e => ?_⟩⟩, fun h => absurd (show (k : Int) < (l.length : Int) by omega) h⟩
    · have e2 : ordE l k = placedR (ix l (k : Int)) := by unfold ordE; rw [if_pos e]
      have := h1 (by rw [e2]; exact e)
      rwa [e2] at this
    · refine ⟨fun z => ⟨iI (by omega) (by omega), h0 ?_ _ rfl⟩, fun z => ?_⟩
      · unfold ordE; rw [if_neg e, if_pos (by omega)]
      · have hk1 : ix l ((k : Int) - 1) = ix l ((k - 1 : Nat) : Int) := by rw [show (k : Int) - 1 = ((k - 1 : Nat) : Int) by omega]
        have hp1 := hI (k - 1) (by omega)
        have hpl : placedR (ix l ((k : Int) - 1)) = 0 := by
          rw [hk1]
          unfold ordE at hp1
          split at hp1
          · rename_i q; exact absurd hp1 q
          · rename_i q; exact Classical.not_not.1 q
        obtain ⟨b1, b2, b3, b4, b5⟩ := placed0 hpl
        have bad : ((ix l (k : Int)).Volume < (ix l ((k : Int) - 1)).Volume ∨ (ix l (k : Int)).Volume = (ix l ((k : Int) - 1)).Volume ∧ (ix l (k : Int)).Start ≤ (ix l ((k : Int) - 1)).Start + ((ix l ((k : Int) - 1)).Data.length : Int)) → Z59 i rec1 Φ 3 := fun q => by
          have e2 : ordE l k = 3 := by unfold ordE; rw [if_neg e, if_neg (by omega), if_pos q]
          have := h1 (by rw [e2]; decide)
          rwa [e2] at this
        have good : ¬ ((ix l (k : Int)).Volume < (ix l ((k : Int) - 1)).Volume ∨ (ix l (k : Int)).Volume = (ix l ((k : Int) - 1)).Volume ∧ (ix l (k : Int)).Start ≤ (ix l ((k : Int) - 1)).Start + ((ix l ((k : Int) - 1)).Data.length : Int)) → rec ((k : Int) + 1) := fun q => h0 (by unfold ordE; rw [if_neg e, if_neg (by omega), if_neg q]) _ rfl
        refine ⟨iI (by omega) (by omega), iX (by omega) (by omega), fun q => bad (.inl q), fun q => ⟨fun r => ⟨iI (by omega) (by omega), fun s => bad (.inr ⟨r, s⟩), fun s => ⟨iI (by omega) (by omega), good fun t => ?_⟩⟩, fun r => ⟨iI (by omega) (by omega), good fun t => ?_⟩⟩⟩
        · rcases t with t | t
          · exact q t
          · exact s t.2
        · rcases t with t | t
          · exact q t
          · exact r t.1
  · unfold Z60
    rw [hl]
    exact ⟨fun h => absurd h (by simp), fun _ => h0⟩
theorem coalesce_Merge_ok {a b : List api_Write} {Φ : List api_Write × Int → Prop} (ha : a.length ≤ 10000) (hb : b.length ≤ 10000) (hda : ∀ w ∈ a, w.Data.length ≤ 1000000) (hdb : ∀ w ∈ b, w.Data.length ≤ 1000000) (hΦ : Φ (mergeR a b)) : Z67 a b Φ := by
  unfold mergeR at hΦ
  refine ⟨3, ⟨fun _ => ⟨⟨by decide, by simp⟩, canE_W (l := a) rfl (by omega) hda ⟨fun e => by rw [if_pos e] at hΦ; exact hΦ, fun e => ⟨iI (by decide) (by decide), ?_⟩⟩⟩, fun h => absurd (show (0 : Int) < _ by simp) h⟩⟩
  rw [if_neg e] at hΦ
  refine ⟨fun _ => ⟨⟨by decide, by simp⟩, canE_W (l := b) rfl (by omega) hdb ⟨fun e => by rw [if_pos e] at hΦ; exact hΦ, fun e2 => ⟨iI (by decide) (by decide), ?_⟩⟩⟩, fun h => absurd (show (0 + 1 : Int) < _ by simp) h⟩
  rw [if_neg e2] at hΦ
  refine ⟨fun h => absurd h (by simp), fun _ => concat_ok ha hb ?_⟩
  refine effect_W (by rw [List.length_append]; omega) (fun w hw => ?_) hΦ
  rcases List.mem_append.1 hw with hw | hw
  · exact canE_pl (Classical.not_not.1 e) w hw
  · exact canE_pl (Classical.not_not.1 e2) w hw
def Z119 (a b : List api_Write) : Option (List api_Write × Int) := if (decide (a.length ≤ 10000 ∧ b.length ≤ 10000) && (smallL a && smallL b)) = true then some (mergeR a b) else none
theorem coalesce_Merge_sound (a b : List api_Write) {Φ : List api_Write × Int → Prop} {o} (h : Z119 a b = some o) (hK : Φ o) : Z67 a b Φ := by
  unfold Z119 at h
  split at h
  · rename_i hs
    cases h
    simp only [Bool.and_eq_true] at hs
    have h0 := of_decide_eq_true hs.1
    exact coalesce_Merge_ok h0.1 h0.2 (smallL_ok hs.2.1).2 (smallL_ok hs.2.2).2 hK
  · cases h
def sizesE (l : List Int) : Int := if (l.length : Int) < 1 ∨ 8 < (l.length : Int) then 6 else firstN (fun k => if ix l (k : Int) < 1 ∨ 4096 < ix l (k : Int) then 2 else 0) l.length
def szs (im : List (List Sec)) : List Int := im.map fun v => (v.length : Int)
def imgE (im : List (List Sec)) : Int := sizesE (szs im)
theorem szs_len (im : List (List Sec)) : (szs im).length = im.length := by unfold szs; rw [List.length_map]
theorem ix_szs {im : List (List Sec)} {k : Nat} (h : k < im.length) : ix (szs im) (k : Int) = ((ix im (k : Int)).length : Int) := by
  rw [ix_get (by rw [szs_len]; exact h), ix_get h]; unfold szs; rw [List.getElem_map]
theorem sizesE_len {l : List Int} (h : sizesE l = 0) : 1 ≤ l.length ∧ l.length ≤ 8 := by
  unfold sizesE at h
  by_cases hl : (l.length : Int) < 1 ∨ 8 < (l.length : Int)
  · rw [if_pos hl] at h; cases h
  · omega
theorem sizesE_ix {l : List Int} (h : sizesE l = 0) {k : Nat} (hk : k < l.length) : 1 ≤ ix l (k : Int) ∧ ix l (k : Int) ≤ 4096 := by
  unfold sizesE at h
  by_cases hl : (l.length : Int) < 1 ∨ 8 < (l.length : Int)
  · rw [if_pos hl] at h; cases h
  · rw [if_neg hl] at h
    have := firstN_zero.1 h k hk
    by_cases q : ix l (k : Int) < 1 ∨ 4096 < ix l (k : Int)
    · rw [if_pos q] at this; cases this
    · omega
theorem image_checkSizes_ok {l : List Int} {Φ : Int → Prop} (hΦ : Φ (sizesE l)) : Z2 l Φ := by
  unfold sizesE at hΦ
  by_cases h : (l.length : Int) < 1 ∨ 8 < (l.length : Int)
  · rw [if_pos h] at hΦ
    exact ⟨fun _ => hΦ, fun _ => ⟨fun _ => hΦ, fun _ => by omega⟩⟩
  · rw [if_neg h] at hΦ
    refine ⟨fun _ => by omega, fun _ => ⟨fun _ => by omega, fun _ => ?_⟩⟩
    refine LoopW.errI l.length (fun k => (k : Int)) _ rfl hΦ (fun k rec hk _ h1 h2 => ?_) fun rec _ h0 => ⟨fun _ => by omega, fun _ => ⟨fun _ => by omega, fun _ => h0⟩⟩
    have go : ∀ q : ix l (k : Int) < 1 ∨ 4096 < ix l (k : Int), Φ 2 := fun q => by
      have := h1 (by rw [if_pos q]; omega)
      rw [if_pos q] at this; exact this
    refine ⟨fun _ => ⟨iX (by omega) (by omega), fun q => ⟨fun _ => ⟨fun _ => go (.inl q), fun _ => by omega⟩, fun r => absurd rfl r⟩, fun q => ⟨fun r => ⟨fun _ => go (.inr (of_decide_eq_true r)), fun _ => by omega⟩, fun r => ⟨iI (by omega) (by omega), h2 (if_neg (by have := of_decide_eq_false (Bool.eq_false_iff.2 r); omega)) _ rfl⟩⟩⟩, fun _ => by omega⟩
theorem image_sizes_ok {im : List (List Sec)} {Φ : List Int → Prop} (hl : im.length ≤ 100000) (hΦ : Φ (szs im)) : image_sizes_W im Φ := by
  refine ⟨by omega, iL (by omega) (by omega), ?_⟩
  refine LoopW.upT im.length (fun k => ((k : Int), (im.take k).map fun v => (v.length : Int))) rfl (fun k rec hk hr => ?_) fun rec => ⟨fun _ => by omega, fun _ => by rw [take_all]; exact hΦ⟩
  refine ⟨fun _ => ⟨iX (by omega) (by omega), iL (by rw [len_snoc, List.length_map, lenT (by omega)]; omega) (by omega), iI (by omega) (by omega), hr _ (by rw [map_take_snoc _ hk]; rfl)⟩, fun _ => by omega⟩
theorem image_Check_ok {im : List (List Sec)} {Φ : Int → Prop} (hl : im.length ≤ 100000) (hΦ : Φ (imgE im)) : image_Check_W im Φ := image_sizes_ok hl (image_checkSizes_ok hΦ)
def zeroI (l : List Int) : List (List Sec) := l.map fun n => List.replicate n.toNat sec0
theorem zeroI_len (l : List Int) : (zeroI l).length = l.length := by unfold zeroI; rw [List.length_map]
theorem ix_zeroI {l : List Int} {k : Nat} (h : k < l.length) : ix (zeroI l) (k : Int) = List.replicate (ix l (k : Int)).toNat sec0 := by
  rw [ix_get (by rw [zeroI_len]; exact h), ix_get h]; unfold zeroI; rw [List.getElem_map]
theorem szs_zeroI {l : List Int} (h : sizesE l = 0) : szs (zeroI l) = l := by
  refine ext_ix (by rw [szs_len, zeroI_len]) fun k hk => ?_
  rw [szs_len, zeroI_len] at hk
  have := sizesE_ix h hk
  rw [ix_szs (by rw [zeroI_len]; exact hk), ix_zeroI hk, List.length_replicate]; omega
theorem image_New_ok {l : List Int} {Φ : List (List Sec) × Int → Prop} (h0 : sizesE l = 0 → Φ (zeroI l, 0)) (h1 : sizesE l ≠ 0 → Φ ([], sizesE l)) : image_New_W l Φ := by
  refine image_checkSizes_ok ⟨fun q => h1 q, fun q => ?_⟩
  have q : sizesE l = 0 := Classical.not_not.1 q
  have hl := sizesE_len q
  refine ⟨by omega, iL (by omega) (by omega), ?_⟩
  refine LoopW.upT l.length (fun k => ((k : Int), (l.take k).map fun n => List.replicate n.toNat sec0)) rfl (fun k rec hk hr => ?_) fun rec => ⟨fun _ => by omega, fun _ => by rw [take_all]; exact h0 q⟩
  have := sizesE_ix q hk
  refine ⟨fun _ => ⟨iX (by omega) (by omega), by omega, iL (by omega) (by omega), iL (by rw [len_snoc, List.length_map, lenT (by omega)]; omega) (by omega), iI (by omega) (by omega), hr _ (by rw [map_take_snoc _ hk]; rfl)⟩, fun _ => by omega⟩
def fitW (l : List Int) (w : api_Write) : Int := if w.Volume < 0 ∨ (l.length : Int) ≤ w.Volume then 7 else if (w.Data.length : Int) = 0 then 1 else if w.Start < 0 ∨ ix l w.Volume - w.Start < (w.Data.length : Int) then 2 else 0
theorem image_fits_ok {im : List (List Sec)} {w : api_Write} {Φ : Int → Prop} (hd : w.Data.length ≤ 1000000) (hv : ∀ k : Nat, k < im.length → (ix im (k : Int)).length ≤ 1000000) (hΦ : Φ (fitW (szs im) w)) : image_fits_W im w Φ := by
  unfold fitW at hΦ
  rw [szs_len] at hΦ
  show (_ → image_fits_J1 _ _ _ _) ∧ _
  have tail : ¬ (w.Volume < 0 ∨ (im.length : Int) ≤ w.Volume) → image_fits_J1 im w Φ false := fun q => by
    rw [if_neg q] at hΦ
    refine ⟨fun r => (Bool.noConfusion r), fun _ => ⟨fun r => by rw [if_pos (by omega)] at hΦ; exact hΦ, fun r => ?_⟩⟩
    rw [if_neg (by omega)] at hΦ
    obtain ⟨v, hw⟩ := Int.eq_ofNat_of_zero_le (show 0 ≤ w.Volume by omega)
    have hvl : v < im.length := by omega
    rw [hw, ix_szs hvl] at hΦ
    have := hv v hvl
    refine ⟨fun s => by rw [if_pos (.inl s)] at hΦ; exact hΦ, fun s => ⟨iX (by omega) (by omega), ?_⟩⟩
    rw [hw]
    exact ⟨iI (by omega) (by omega), fun t => by rw [if_pos (by omega)] at hΦ; exact hΦ, fun t => by rw [if_neg (by omega)] at hΦ; exact hΦ⟩
  refine ⟨fun q => ⟨fun _ => by rw [if_pos (.inl q)] at hΦ; exact hΦ, fun r => absurd rfl r⟩, fun q => ?_⟩
  by_cases r : (im.length : Int) ≤ w.Volume
  · rw [decide_eq_true r]
    exact ⟨fun _ => by rw [if_pos (.inr r)] at hΦ; exact hΦ, fun r => absurd rfl r⟩
  · rw [decide_eq_false r]; exact tail (by omega)
theorem szs_small {im : List (List Sec)} (h : imgE im = 0) (k : Nat) (hk : k < im.length) : (ix im (k : Int)).length ≤ 4096 := by
  have := sizesE_ix h (k := k) (by rw [szs_len]; exact hk)
  rw [ix_szs hk] at this; omega
theorem image_Fits_ok {im : List (List Sec)} {w : api_Write} {Φ : Int → Prop} (hd : w.Data.length ≤ 1000000) (h : imgE im = 0) (hΦ : Φ (fitW (szs im) w)) : image_Fits_W im w Φ := by
  have hl := sizesE_len h
  rw [szs_len] at hl
  exact image_Check_ok (by omega) ⟨fun q => absurd h q, fun _ => image_fits_ok hd (fun k hk => Nat.le_trans (szs_small h k hk) (by omega)) hΦ⟩
theorem sizes_ok {l : List Int} (h : ¬ sizesE l ≠ 0) : l.length ≤ 8 ∧ 1 ≤ l.length ∧ ∀ k : Nat, k < l.length → 1 ≤ ix l (k : Int) ∧ ix l (k : Int) ≤ 4096 := by
  have h0 := Classical.not_not.1 h
  unfold sizesE at h0
  split at h0
  · omega
  · refine ⟨by omega, by omega, fun k hk => ?_⟩
    have := firstN_zero.1 h0 k hk
    split at this <;> omega
theorem fitW_zero {sizes : List Int} {w : api_Write} (hs : ¬ sizesE sizes ≠ 0) (h : fitW sizes w = 0) : 0 ≤ w.Volume ∧ w.Volume < (sizes.length : Int) ∧ 1 ≤ w.Data.length ∧ 0 ≤ w.Start ∧ w.Start + (w.Data.length : Int) ≤ ix sizes w.Volume ∧ ix sizes w.Volume ≤ 4096 := by
  unfold fitW at h
  split at h
  · omega
  split at h
  · omega
  split at h
  · omega
  obtain ⟨v, hv⟩ := Int.eq_ofNat_of_zero_le (show 0 ≤ w.Volume by omega)
  have hz := (sizes_ok hs).2.2 v (by omega)
  rw [← hv] at hz
  omega
structure FitW (sizes : List Int) (w : api_Write) (v s : Nat) : Prop where
  vol : w.Volume = (v : Int)
  start : w.Start = (s : Int)
  hv : v < sizes.length
  len : 1 ≤ w.Data.length
  le : ((s + w.Data.length : Nat) : Int) ≤ ix sizes (v : Int)
  top : ix sizes (v : Int) ≤ 4096
theorem fitW_of {sizes : List Int} {w : api_Write} (hs : ¬ sizesE sizes ≠ 0) (h : fitW sizes w = 0) : ∃ v s : Nat, FitW sizes w v s := by
  have := fitW_zero hs h
  obtain ⟨v, hv⟩ := Int.eq_ofNat_of_zero_le this.1
  obtain ⟨s, hst⟩ := Int.eq_ofNat_of_zero_le this.2.2.2.1
  rw [hv, hst] at this
  exact ⟨v, s, hv, hst, by omega, by omega, by omega, by omega⟩
def sec (im : List (List Sec)) (v i : Nat) : Sec := ix (ix im (v : Int)) (i : Int)
theorem cycle_in_ok {x lo hi : Int} {Φ : Bool → Prop} (h : Φ (decide (lo ≤ x ∧ x ≤ hi))) : cycle_in_W x lo hi Φ := by
  refine ⟨fun q => ?_, fun q => ?_⟩
  · rw [show decide (lo ≤ x ∧ x ≤ hi) = decide (x ≤ hi) from by simp [q]] at h; exact h
  · rw [show decide (lo ≤ x ∧ x ≤ hi) = false from decide_eq_false fun r => q r.1] at h; exact h
def fewL (l : List api_Write) : Bool := decide (l.length ≤ 40 ∧ ∀ w ∈ l, w.Data.length ≤ 24)
theorem ref22_Few_ok {l : List api_Write} {Φ : Bool → Prop} (hΦ : Φ (fewL l)) : ref22_Few_W l Φ := by
  have h0 : ¬ (l.length ≤ 40 ∧ ∀ w ∈ l, w.Data.length ≤ 24) → Φ false := fun q => by
    unfold fewL at hΦ; rw [decide_eq_false q] at hΦ; exact hΦ
  have h1 : (l.length ≤ 40 ∧ ∀ w ∈ l, w.Data.length ≤ 24) → Φ true := fun q => by
    unfold fewL at hΦ; rw [decide_eq_true q] at hΦ; exact hΦ
  refine LoopW.upI (min l.length 60) (fun k => (k : Int)) (fun k => ∀ j : Nat, j < k → (ix l (j : Int)).Data.length ≤ 24) rfl (fun j hj => absurd hj (Nat.not_lt_zero j)) (fun k rec hk hI hr => ?_) fun rec hI => ?_
  · refine ⟨fun _ => ?_, fun q => by omega⟩
    rw [decide_eq_true (show (k : Int) < 60 by omega)]
    refine ⟨fun _ => ⟨iX (by omega) (by omega), fun q => h0 fun r => ?_, fun q => ⟨iI (by omega) (by omega), hr (fun j hj => ?_) _ rfl⟩⟩, fun q => absurd rfl q⟩
    · have := r.2 _ (ix_mem (iX (i := (k : Int)) (n := l.length) (by omega) (by omega)))
      omega
    · rcases Nat.lt_or_ge j k with h2 | h2
      · exact hI j h2
      · obtain rfl : j = k := by omega
        omega
  · have fin : Φ (decide ((l.length : Int) ≤ 40)) := by
      by_cases q : l.length ≤ 40
      · rw [decide_eq_true (by omega)]
        refine h1 ⟨q, fun w hw => ?_⟩
        obtain ⟨k, hk, rfl⟩ := List.getElem_of_mem hw
        have := hI k (by omega)
        rwa [ix_get hk] at this
      · rw [decide_eq_false (by omega)]; exact h0 fun r => q r.1
    refine ⟨fun q => ?_, fun _ => ⟨fun r => Bool.noConfusion r, fun _ => fin⟩⟩
    rw [decide_eq_false (show ¬ (((min l.length 60 : Nat) : Int) < 60) by omega)]
    exact ⟨fun r => Bool.noConfusion r, fun _ => fin⟩
def fewC (c : api_Cycle) : Bool := decide (c.Positions.length ≤ 40) && fewL c.Writes
structure FewC (c : api_Cycle) : Prop where
  pos : c.Positions.length ≤ 40
  len : c.Writes.length ≤ 40
  data : ∀ w ∈ c.Writes, w.Data.length ≤ 24
theorem fewC_of {c : api_Cycle} (h : fewC c = true) : FewC c := by
  unfold fewC fewL at h
  simp only [Bool.and_eq_true, decide_eq_true_eq] at h
  exact ⟨h.1, h.2.1, h.2.2⟩
theorem ref23_Few_ok {c : api_Cycle} {Φ : Bool → Prop} (hΦ : Φ (fewC c)) : ref23_Few_W c Φ := by
  refine ⟨fun q => ref22_Few_ok ?_, fun q => ?_⟩
  · unfold fewC at hΦ; rw [decide_eq_true (by omega), Bool.true_and] at hΦ; exact hΦ
  · unfold fewC at hΦ; rw [decide_eq_false (by omega), Bool.false_and] at hΦ; exact hΦ
def posE (l : List Int) : Int := firstN (fun k => if ix l (k : Int) < 0 ∨ 1073741824 < ix l (k : Int) then 2 else 0) l.length
def posR (least : Int) (l : List Int) : Int := if (l.length : Int) < least ∨ 8 < (l.length : Int) then 6 else posE l
theorem cycle_positions_ok {l : List Int} {least : Int} {Φ : Int → Prop} (hl : l.length ≤ 100000) (hΦ : Φ (posR least l)) : Z7 l least Φ := by
  refine cycle_in_ok ⟨fun q => ?_, fun q => ?_⟩
  · have := of_decide_eq_false (Bool.eq_false_iff.2 q)
    unfold posR at hΦ
    rw [if_pos (by omega)] at hΦ; exact hΦ
  · have := of_decide_eq_true (Classical.not_not.1 q)
    unfold posR at hΦ
    rw [if_neg (by omega)] at hΦ
    refine LoopW.errI l.length (fun k => (k : Int)) _ rfl hΦ (fun k rec hk _ h1 h2 => ?_) fun rec _ h0 => ⟨fun _ => by omega, fun _ => ⟨fun _ => by omega, fun _ => h0⟩⟩
    refine ⟨fun _ => ⟨iX (by omega) (by omega), cycle_in_ok ⟨fun r => ?_, fun r => ?_⟩⟩, fun _ => by omega⟩
    · have r := of_decide_eq_true r
      have r : ¬ (0 ≤ ix l (k : Int) ∧ ix l (k : Int) ≤ 1073741824) := fun t => r (decide_eq_true t)
      have c : ix l (k : Int) < 0 ∨ 1073741824 < ix l (k : Int) := by omega
      have := h1 (by rw [if_pos c]; omega)
      rw [if_pos c] at this
      exact ⟨fun _ => this, fun s => by omega⟩
    · have r : ¬ ¬ (decide (0 ≤ ix l (k : Int) ∧ ix l (k : Int) ≤ 1073741824) = true) := fun t => r (decide_eq_true t)
      have r := of_decide_eq_true (Classical.not_not.1 r)
      exact ⟨iI (by omega) (by omega), h2 (if_neg (by omega)) _ rfl⟩
def ordW (sizes : List Int) (l : List api_Write) (k : Nat) : Int :=
  if fitW sizes (ix l (k : Int)) ≠ 0 then fitW sizes (ix l (k : Int)) else if k = 0 then 0 else if (ix l (k : Int)).Volume < (ix l ((k : Int) - 1)).Volume ∨ ((ix l (k : Int)).Volume = (ix l ((k : Int) - 1)).Volume ∧ (ix l (k : Int)).Start ≤ (ix l ((k : Int) - 1)).Start + ((ix l ((k : Int) - 1)).Data.length : Int)) then 3 else 0
def wrsE (sizes : List Int) (l : List api_Write) : Int := firstN (ordW sizes l) l.length
theorem ordW_fit {sizes : List Int} {l : List api_Write} {k : Nat} (h : ordW sizes l k = 0) : fitW sizes (ix l (k : Int)) = 0 := by
  unfold ordW at h
  split at h
  · next q => exact absurd h q
  · next q => exact Classical.not_not.1 q
theorem coalesce_Check_ok {l : List api_Write} {sizes : List Int} {Φ : Int → Prop} (hl : l.length ≤ 100000) (hd : ∀ w ∈ l, w.Data.length ≤ 1000000) (h0 : sizesE sizes ≠ 0 → Φ (sizesE sizes)) (h1 : sizesE sizes = 0 → Φ (wrsE sizes l)) : Z53 l sizes Φ := by
  refine image_New_ok (fun hs => ⟨fun q => absurd rfl q, fun _ => ?_⟩) fun hs => ⟨fun _ => h0 hs, fun q => absurd hs q⟩
  have e := szs_zeroI hs
  refine LoopW.errI l.length (fun k => (k : Int)) _ rfl (h1 hs) (fun k rec hk hj g1 g2 => ⟨fun _ => ⟨iX (by omega) (by omega), ?_⟩, fun _ => by omega⟩) fun rec _ h0 => ⟨fun _ => by omega, fun _ => h0⟩
  have hmem := hd _ (ix_mem (iX (i := (k : Int)) (n := l.length) (by omega) (by omega)))
  refine image_Fits_ok hmem (by unfold imgE; rw [e]; exact hs) ?_
  rw [e]
  unfold ordW at g1 g2
  refine ⟨fun q => ?_, fun q => ?_⟩
  · rw [if_pos q] at g1; exact g1 q
  · rw [if_neg q] at g1 g2
    refine ⟨fun r => ?_, fun r => ?_⟩
    · rw [if_pos (by omega)] at g2
      exact ⟨iI (by omega) (by omega), g2 rfl _ rfl⟩
    · rw [if_neg (by omega)] at g1 g2
      have hp := ordW_fit (hj (k - 1) (by omega))
      obtain ⟨v, s, hf⟩ := fitW_of (by omega) hp
      have z1 := hf.le
      have z2 := hf.top
      have z3 := hf.start
      have ek : ((k - 1 : Nat) : Int) = (k : Int) - 1 := by omega
      rw [ek] at z1 z3
      refine ⟨iI (by omega) (by omega), iX (by omega) (by omega), fun t => ?_, fun t => ⟨fun u => ⟨iI (by omega) (by omega), fun x => ?_, fun x => ?_⟩, fun u => ?_⟩⟩
      · rw [if_pos (.inl t)] at g1; exact g1 (by omega)
      · rw [if_pos (.inr ⟨u, x⟩)] at g1; exact g1 (by omega)
      · rw [if_neg (by omega)] at g2; exact ⟨iI (by omega) (by omega), g2 rfl _ rfl⟩
      · rw [if_neg (by omega)] at g2; exact ⟨iI (by omega) (by omega), g2 rfl _ rfl⟩
def cycE (c : api_Cycle) (sizes : List Int) : Int :=
  if sizesE sizes ≠ 0 then sizesE sizes else if c.Base < 0 ∨ c.Number ≤ c.Base ∨ 1073741824 < c.Number then 2 else if c.Time < 0 ∨ 1073741824 < c.Time then 24 else if posR 0 c.Positions ≠ 0 then posR 0 c.Positions else wrsE sizes c.Writes
theorem cycle_Check_ok {c : api_Cycle} {sizes : List Int} {Φ : Int → Prop} (hp : c.Positions.length ≤ 100000) (hl : c.Writes.length ≤ 100000) (hd : ∀ w ∈ c.Writes, w.Data.length ≤ 1000000) (hΦ : Φ (cycE c sizes)) : cycle_Check_W c sizes Φ := by
  unfold cycE at hΦ
  refine image_New_ok (fun hs => ⟨fun q => absurd rfl q, fun _ => ?_⟩) fun hs => ⟨fun _ => by rw [if_pos hs] at hΦ; exact hΦ, fun q => absurd hs q⟩
  rw [if_neg (by omega)] at hΦ
  have J : ∀ b : Bool, (b = true ↔ c.Base < 0 ∨ c.Number ≤ c.Base ∨ 1073741824 < c.Number) → Z54 c sizes Φ b := fun b hb => by
    refine ⟨fun q => by rw [if_pos (hb.1 q)] at hΦ; exact hΦ, fun q => ?_⟩
    rw [if_neg fun r => q (hb.2 r)] at hΦ
    refine cycle_in_ok ⟨fun r => ?_, fun r => ?_⟩
    · have := of_decide_eq_false (Bool.eq_false_iff.2 r)
      rw [if_pos (by omega)] at hΦ; exact hΦ
    · have := of_decide_eq_true (Classical.not_not.1 r)
      rw [if_neg (by omega)] at hΦ
      refine cycle_positions_ok hp ⟨fun t => by rw [if_pos t] at hΦ; exact hΦ, fun t => ?_⟩
      rw [if_neg t] at hΦ
      exact coalesce_Check_ok hl hd (fun u => absurd hs u) fun _ => hΦ
  exact ⟨fun q => J true ⟨fun _ => .inl q, fun _ => rfl⟩, fun q => ⟨fun r => J true ⟨fun _ => .inr (.inl r), fun _ => rfl⟩, fun r => J _ (by simp; omega)⟩⟩
theorem ref03_SameSectors_refl {l : List Sec} {Φ : Bool → Prop} (hl : l.length ≤ 1000000) (hΦ : Φ true) : Z43 l l Φ :=
  ⟨fun h => absurd rfl h, fun _ => LoopW.upT l.length (fun k => (k : Int)) rfl (fun k rec hk hr => ⟨fun hlt => ⟨iX (by omega) hlt, iX (by omega) hlt, fun q => absurd rfl q, fun _ => ⟨iI (by omega) (by omega), hr _ rfl⟩⟩, fun q => absurd (show (k : Int) < (l.length : Int) by omega) q⟩) fun rec => ⟨fun q => absurd q (by omega), fun _ => hΦ⟩⟩
theorem ref03_SameWrites_refl {l : List api_Write} {Φ : Bool → Prop} (hl : l.length ≤ 1000000) (hd : ∀ w ∈ l, w.Data.length ≤ 1000000) (hΦ : Φ true) : Z45 l l Φ :=
  ⟨fun h => absurd rfl h, fun _ => LoopW.upT l.length (fun k => (k : Int)) rfl (fun k rec hk hr => ⟨fun hlt => ⟨iX (by omega) hlt, iX (by omega) hlt, fun q => absurd rfl q, fun _ => ⟨iX (by omega) hlt, iX (by omega) hlt, fun q => absurd rfl q, fun _ => ⟨iX (by omega) hlt, iX (by omega) hlt, (true, ()), ref03_SameSectors_refl (hd _ (ix_mem (iX (by omega) hlt))) rfl, fun q => absurd rfl q, fun _ => ⟨iI (by omega) (by omega), hr _ rfl⟩⟩⟩⟩, fun q => absurd (show (k : Int) < (l.length : Int) by omega) q⟩) fun rec => ⟨fun q => absurd q (by omega), fun _ => hΦ⟩⟩
theorem ref23_SameInts_refl {l : List Int} {Φ : Bool → Prop} (hl : l.length ≤ 1000000) (hΦ : Φ true) : Z116 l l Φ :=
  ⟨fun h => absurd rfl h, fun _ => LoopW.upT l.length (fun k => (k : Int)) rfl (fun k rec hk hr => ⟨fun hlt => ⟨iX (by omega) hlt, iX (by omega) hlt, fun q => absurd rfl q, fun _ => ⟨iI (by omega) (by omega), hr _ rfl⟩⟩, fun q => absurd (show (k : Int) < (l.length : Int) by omega) q⟩) fun rec => ⟨fun q => absurd q (by omega), fun _ => hΦ⟩⟩
def secN (l : List api_Write) : Nat := (l.map (·.Data.length)).sum
def behW (w : api_Write) : coalesce_place := ⟨w.Volume, w.Start + (w.Data.length : Int)⟩
def stepR (m : List (coalesce_place × Sec)) (R : List api_Write) (p : coalesce_place) : List api_Write :=
  match R with
  | [] => [⟨p.volume, p.sector, [mget m p sec0]⟩]
  | w :: r => if p = behW w then ⟨w.Volume, w.Start, w.Data ++ [mget m p sec0]⟩ :: r else ⟨p.volume, p.sector, [mget m p sec0]⟩ :: w :: r
def ltQ (a b : coalesce_place) : Prop := a.volume < b.volume ∨ a.volume = b.volume ∧ a.sector < b.sector
def gapW (y x : api_Write) : Prop := y.Volume < x.Volume ∨ y.Volume = x.Volume ∧ y.Start + (y.Data.length : Int) < x.Start
structure Grp (m : List (coalesce_place × Sec)) (ps : List coalesce_place) (R : List api_Write) : Prop where
  ne : ∀ w ∈ R, 0 < w.Data.length
  gap : R.Pairwise fun x y => gapW y x
  mem : ∀ w ∈ R, ∀ j : Nat, j < w.Data.length → (⟨w.Volume, w.Start + (j : Int)⟩ : coalesce_place) ∈ ps ∧ ix w.Data (j : Int) = mget m ⟨w.Volume, w.Start + (j : Int)⟩ sec0
  cov : ∀ p ∈ ps, ∃ w ∈ R, w.Volume = p.volume ∧ w.Start ≤ p.sector ∧ p.sector < w.Start + (w.Data.length : Int)
  sum : secN R = ps.length
theorem ix_snoc {α : Type} [Dt α] (xs : List α) (x : α) (j : Nat) (h : j < (xs ++ [x]).length) : ix (xs ++ [x]) (j : Int) = if j = xs.length then x else ix xs (j : Int) := by
  rw [len_snoc] at h
  by_cases e : j = xs.length
  · rw [if_pos e, ix_get (by rw [len_snoc]; omega)]; simp [e]
  · rw [if_neg e, ix_get (by rw [len_snoc]; omega), ix_get (by omega), List.getElem_append_left (by omega)]
theorem Grp.step {m : List (coalesce_place × Sec)} {ps : List coalesce_place} {R : List api_Write} (g : Grp m ps R) {p : coalesce_place} (hp : ∀ q ∈ ps, ltQ q p) : Grp m (ps ++ [p]) (stepR m R p) := by
  have one : ∀ (w : api_Write), w ∈ R → w.Volume < p.volume ∨ w.Volume = p.volume ∧ w.Start + (w.Data.length : Int) ≤ p.sector := fun w hw => by
    have h0 := g.ne w hw
    have h1 := hp _ (g.mem w hw (w.Data.length - 1) (by omega)).1
    unfold ltQ at h1
    simp only at h1
    omega
  have nw : ∀ j : Nat, j < [mget m p sec0].length → (⟨p.volume, p.sector + (j : Int)⟩ : coalesce_place) ∈ ps ++ [p] ∧ ix [mget m p sec0] (j : Int) = mget m ⟨p.volume, p.sector + (j : Int)⟩ sec0 := fun j hj => by
    obtain rfl : j = 0 := by simpa using hj
    have e : (⟨p.volume, p.sector + ((0 : Nat) : Int)⟩ : coalesce_place) = p := place_ext rfl (by show p.sector + ((0 : Nat) : Int) = p.sector; omega)
    rw [e]; exact ⟨by simp, rfl⟩
  have old : ∀ w ∈ R, ∀ j : Nat, j < w.Data.length → (⟨w.Volume, w.Start + (j : Int)⟩ : coalesce_place) ∈ ps ++ [p] ∧ ix w.Data (j : Int) = mget m ⟨w.Volume, w.Start + (j : Int)⟩ sec0 := fun w hw j hj => ⟨List.mem_append_left _ (g.mem w hw j hj).1, (g.mem w hw j hj).2⟩
  have push : (∀ w ∈ R, p ≠ behW w) → Grp m (ps ++ [p]) (⟨p.volume, p.sector, [mget m p sec0]⟩ :: R) := fun hb => by
    refine ⟨fun w hw => ?_, List.pairwise_cons.2 ⟨fun y hy => ?_, g.gap⟩, fun w hw => ?_, fun q hq => ?_, ?_⟩
    · rcases List.mem_cons.1 hw with rfl | hw
      · exact Nat.zero_lt_one
      · exact g.ne w hw
    · have h1 := one y hy
      have h2 := hb y hy
      unfold gapW
      rcases h1 with h1 | h1
      · exact .inl h1
      · refine .inr ⟨h1.1, ?_⟩
        show y.Start + (y.Data.length : Int) < p.sector
        have : y.Start + (y.Data.length : Int) ≠ p.sector := fun t => h2 (place_ext h1.1.symm t.symm)
        omega
    · rcases List.mem_cons.1 hw with rfl | hw
      · exact nw
      · exact old w hw
    · rcases List.mem_append.1 hq with hq | hq
      · obtain ⟨w, hw, h⟩ := g.cov q hq
        exact ⟨w, List.mem_cons_of_mem _ hw, h⟩
      · obtain rfl := List.mem_singleton.1 hq
        exact ⟨_, List.mem_cons_self .., rfl, Int.le_refl _, by show q.sector < q.sector + ((1 : Nat) : Int); omega⟩
    · have := g.sum
      unfold secN at *
      rw [List.map_cons, List.sum_cons, this, len_snoc]
      show 1 + ps.length = _
      omega
  cases R with
  | nil => exact push fun w hw => absurd hw List.not_mem_nil
  | cons w r =>
    have gp := List.pairwise_cons.1 g.gap
    unfold stepR
    by_cases hb : p = behW w
    · simp only [if_pos hb]
      have hv : w.Volume = p.volume := by rw [hb]; rfl
      have hsx : w.Start + (w.Data.length : Int) = p.sector := by rw [hb]; rfl
      refine ⟨fun x hx => ?_, List.pairwise_cons.2 ⟨fun y hy => gp.1 y hy, gp.2⟩, fun x hx => ?_, fun q hq => ?_, ?_⟩
      · rcases List.mem_cons.1 hx with rfl | hx
        · show 0 < (w.Data ++ _).length
          rw [len_snoc]; omega
        · exact g.ne x (List.mem_cons_of_mem _ hx)
      · rcases List.mem_cons.1 hx with rfl | hx
        · intro j hj
          have hj : j < (w.Data ++ [mget m p sec0]).length := hj
          show (⟨w.Volume, w.Start + (j : Int)⟩ : coalesce_place) ∈ ps ++ [p] ∧ ix (w.Data ++ [mget m p sec0]) (j : Int) = _
          rw [ix_snoc _ _ _ hj]
          rw [len_snoc] at hj
          by_cases e : j = w.Data.length
          · have ep : (⟨w.Volume, w.Start + (j : Int)⟩ : coalesce_place) = p := place_ext hv (by show w.Start + (j : Int) = _; omega)
            rw [if_pos e]
            exact ⟨by rw [ep]; simp, by show _ = mget m (⟨w.Volume, w.Start + (j : Int)⟩ : coalesce_place) sec0; rw [ep]⟩
          · rw [if_neg e]
            exact old w (List.mem_cons_self ..) j (by omega)
        · exact old x (List.mem_cons_of_mem _ hx)
      · rcases List.mem_append.1 hq with hq | hq
        · obtain ⟨x, hx, h1, h2, h3⟩ := g.cov q hq
          rcases List.mem_cons.1 hx with rfl | hx
          · exact ⟨_, List.mem_cons_self .., h1, h2, by show q.sector < x.Start + ((x.Data ++ [mget m p sec0]).length : Int); rw [len_snoc]; omega⟩
          · exact ⟨x, List.mem_cons_of_mem _ hx, h1, h2, h3⟩
        · obtain rfl := List.mem_singleton.1 hq
          exact ⟨_, List.mem_cons_self .., hv, by show w.Start ≤ _; omega, by show q.sector < w.Start + ((w.Data ++ [mget m q sec0]).length : Int); rw [len_snoc]; omega⟩
      · have := g.sum
        unfold secN at *
        rw [List.map_cons, List.sum_cons] at *
        rw [len_snoc, len_snoc]
        omega
    · simp only [if_neg hb]
      refine push fun y hy => ?_
      rcases List.mem_cons.1 hy with rfl | hy
      · exact hb
      · rintro rfl
        have h1 := gp.1 y hy
        have h2 := one w (List.mem_cons_self ..)
        have h3 := g.ne w (List.mem_cons_self ..)
        unfold gapW at h1
        unfold behW at h2
        simp only at h2
        omega
def orK {S R : Type} (a : S → Prop) (b : R → Prop) : S ⊕ R → Prop
 | .inl s => a s
 | .inr r => b r
def loopS {S R : Type} (step : S → Option (S ⊕ R)) : Nat → S → Option R
 | 0, _ => none
 | n + 1, s => match step s with
  | none => none
  | some (.inl s') => loopS step n s'
  | some (.inr r) => some r
theorem LoopW.of_S {S R : Type} {step : S → (S → Prop) → Prop} {stepS : S → Option (S ⊕ R)} {K : R → Prop} (hs : ∀ s q rec, stepS s = some q → orK rec K q → step s rec) : ∀ (n : Nat) (s : S) {o : R}, loopS stepS n s = some o → K o → LoopW step s := by
  intro n s o h hK
  refine ⟨n, ?_⟩
  induction n generalizing s with
  | zero => cases h
  | succ n ih =>
    unfold loopS at h
    split at h
    · cases h
    · rename_i s' e
      exact hs s _ _ e (ih s' h)
    · rename_i r e
      cases h
      exact hs s _ _ e hK
theorem ofBind {α β : Type} {x : Option α} {f : α → Option β} {o : β} (h : Option.bind x f = some o) : ∃ v, x = some v ∧ f v = some o := Option.bind_eq_some_iff.1 h
theorem ofIf {α : Type} {p : Prop} [Decidable p] {x : Option α} {o : α} (h : (if p then x else none) = some o) : p ∧ x = some o := by
  by_cases hp : p
  · rw [if_pos hp] at h; exact ⟨hp, h⟩
  · rw [if_neg hp] at h; cases h
theorem ofT {α : Type} {p : Prop} [Decidable p] {x y : Option α} {o : α} (hp : p) (h : (if p then x else y) = some o) : x = some o := by rw [if_pos hp] at h; exact h
theorem ofF {α : Type} {p : Prop} [Decidable p] {x y : Option α} {o : α} (hp : ¬ p) (h : (if p then x else y) = some o) : y = some o := by rw [if_neg hp] at h; exact h
def bothS {α : Type} [DecidableEq α] (b : Bool) (x y : Option α) : Option α := if b = true then (if x = y then x else none) else y
theorem ofBoth {α : Type} [DecidableEq α] {b : Bool} {x y : Option α} {o : α} (h : bothS b x y = some o) : (b = true → x = some o) ∧ y = some o := by
  unfold bothS at h
  by_cases hb : b = true
  · rw [if_pos hb] at h
    by_cases he : x = y
    · rw [if_pos he] at h; exact ⟨fun _ => h, he ▸ h⟩
    · rw [if_neg he] at h; cases h
  · rw [if_neg hb] at h; exact ⟨fun q => absurd q hb, h⟩
theorem lfS {α : Type} {K : α → Prop} {a o : α} (h : some a = some o) (hK : K o) : K a := by
  cases h; exact hK
theorem adS {α : Type} {p : Prop} [Decidable p] {x : Option α} {o : α} {B : Prop} (h : (if p then x else none) = some o) (b : x = some o → B) : p ∧ B := ⟨(ofIf h).1, b (ofIf h).2⟩
theorem ifS {α : Type} {p : Prop} [Decidable p] {x y : Option α} {o : α} {A B : Prop} (h : (if p then x else y) = some o) (a : x = some o → A) (b : y = some o → B) : (p → A) ∧ (¬ p → B) := ⟨fun c => a (ofT c h), fun c => b (ofF c h)⟩
theorem mpS {α β : Type} {g : α → β} {x : Option α} {o : β} {G : Prop} (h : Option.map g x = some o) (k : ∀ v, x = some v → g v = o → G) : G := by
  obtain ⟨v, h1, h2⟩ := Option.map_eq_some_iff.1 h
  exact k v h1 h2
theorem blS {α β : Type} {x : Option α} {f : α → Option β} {o : β} {G : Prop} (h : Option.bind x f = some o) (k : ∀ v, x = some v → f v = some o → G) : G := by
  obtain ⟨v, h1, h2⟩ := ofBind h
  exact k v h1 h2
instance decI (x : Int) : Decidable (inI x) := inferInstanceAs (Decidable (_ ∧ _))
instance decX (i : Int) (n : Nat) : Decidable (inX i n) := inferInstanceAs (Decidable (_ ∧ _))
instance decS (a b : Int) (n : Nat) : Decidable (inS a b n) := inferInstanceAs (Decidable (_ ∧ _))
instance decL (n b : Nat) : Decidable (lenOk n b) := inferInstanceAs (Decidable (_ ∧ _))
theorem nl2S {α : Type} [DecidableEq α] {p : Prop} [Decidable p] {x y : Option α} {o : α} {A B : Prop} (h : bothS (decide p) x y = some o) (a : x = some o → A) (b : y = some o → B) : (p → A) ∧ B := ⟨fun c => a ((ofBoth h).1 (decide_eq_true c)), b (ofBoth h).2⟩
def genS {S Y R : Type} (step : S → Option (List Y × (S ⊕ R))) : Nat → S → Option (List Y × R)
 | 0, _ => none
 | n + 1, s => match step s with
  | none => none
  | some (ys, .inr o) => some (ys, o)
  | some (ys, .inl s') => (genS step n s').map fun q => (ys ++ q.1, q.2)
theorem LoopW.of_G {S Y R : Type} {step : (List Y × S) → ((List Y × S) → Prop) → Prop} {stepS : S → Option (List Y × (S ⊕ R))} {K : List Y → R → Prop} (hs : ∀ s ys q r rec, stepS s = some (ys, q) → orK (fun s => rec (r, s)) (K r) q → step (ys ++ r, s) rec) : ∀ (n : Nat) (s : S) {ys : List Y} {o : R} (r : List Y), genS stepS n s = some (ys, o) → K r o → LoopW step (ys ++ r, s) := by
  intro n s ys o r h hK
  refine ⟨n, ?_⟩
  induction n generalizing s ys with
  | zero => cases h
  | succ n ih =>
    unfold genS at h
    split at h
    · cases h
    · rename_i ys o e
      cases h
      exact hs s _ _ _ (LoopN step n) e hK
    · rename_i ys s' e
      obtain ⟨v, h1, h2⟩ := Option.map_eq_some_iff.1 h
      cases h2
      rw [List.append_assoc]
      exact hs s _ _ _ (LoopN step n) e (show LoopN step n (v.1 ++ r, s') from ih s' h1)
def Z120 (x0 : Int) : Option (Bool) :=
 if x0 < 1 then
  some (true)
 else
  some (decide (4096 < x0))
theorem image_checkSizes_1_sound (x0 : Int) {Φ : Bool → Prop} {o} (h : Z120 x0 = some o) (hK : Φ o) : Z0 x0 Φ := by
  unfold Z120 at h
  unfold Z0
  exact ifS h (fun h => have t := lfS h hK; t) fun h => have t := lfS h hK; t
def Z121 (x0 : List Int) : (Int) → Option ((Int) ⊕ (Int))
 | v1 =>
  if v1 < (x0.length : Int) then
   if inX v1 x0.length then
   Option.bind (Z120 (ix x0 v1)) fun v2 =>
   if v2 = true then
    if 0 ≤ v1 then
     some (.inr 2)
    else
     some (.inr 0)
   else
    if inI (v1 + 1) then
    some (.inl (v1 + 1))
    else none
   else none
  else
   if 0 ≤ ((-1) : Int) then
    some (.inr 2)
   else
    some (.inr 0)
theorem image_checkSizes_L1_sound (x0 : List Int) (s : Int) {Φ : Int → Prop} {rec1 : (Int) → Prop} {o} (h : Z121 x0 s = some o) (hK : (orK rec1 Φ) o) : Z1 x0 Φ s rec1 := by
  unfold Z121 at h
  unfold Z1
  exact ifS h (fun h => adS h fun h => blS h fun _ hv h => image_checkSizes_1_sound _ hv (ifS h (fun h => ifS h (fun h => have t := lfS h hK; t) fun h => have t := lfS h hK; t) fun h => adS h fun h => have t := lfS h hK; t)) fun h => ifS h (fun h => have t := lfS h hK; t) fun h => have t := lfS h hK; t
def Z122 (x0 : List Int) : Option (Int) :=
 if (x0.length : Int) < 1 then
  some (6)
 else
  if 8 < (x0.length : Int) then
   some (6)
  else
   loopS (Z121 x0) 100000 0
theorem image_checkSizes_sound (x0 : List Int) {Φ : Int → Prop} {o} (h : Z122 x0 = some o) (hK : Φ o) : Z2 x0 Φ := by
  unfold Z122 at h
  unfold Z2
  exact ifS h (fun h => have t := lfS h hK; t) fun h => ifS h (fun h => have t := lfS h hK; t) fun h => LoopW.of_S (fun s q rec hs hq => image_checkSizes_L1_sound _ s hs hq) _ _ h hK
def image_New_1_S (x0 : Int) : Option (List Sec) :=
 if 0 ≤ x0 then
 if lenOk x0.toNat 8 then
 some ((List.replicate x0.toNat (sec0 : Sec)))
 else none
 else none
theorem image_New_1_sound (x0 : Int) {Φ : List Sec → Prop} {o} (h : image_New_1_S x0 = some o) (hK : Φ o) : image_New_1_W x0 Φ := by
  unfold image_New_1_S at h
  unfold image_New_1_W
  exact adS h fun h => adS h fun h => have t := lfS h hK; t
def Z123 (x0 : List Int) : (Int × List (List Sec)) → Option ((Int × List (List Sec)) ⊕ (List (List Sec) × Int))
 | (v2, v3) =>
  if v2 < (x0.length : Int) then
   if inX v2 x0.length then
   Option.bind (image_New_1_S (ix x0 v2)) fun v4 =>
   if lenOk (v3 ++ ([v4] : List (List Sec))).length 24 then
   if inI (v2 + 1) then
   some (.inl ((v2 + 1), (v3 ++ ([v4] : List (List Sec)))))
   else none
   else none
   else none
  else
   some (.inr (v3, 0))
theorem image_New_L1_sound (x0 : List Int) (s : Int × List (List Sec)) {Φ : List (List Sec) × Int → Prop} {rec1 : (Int × List (List Sec)) → Prop} {o} (h : Z123 x0 s = some o) (hK : (orK rec1 Φ) o) : image_New_L1 x0 Φ s rec1 := by
  obtain ⟨v2, v3⟩ := s
  unfold Z123 at h
  unfold image_New_L1
  exact ifS h (fun h => adS h fun h => blS h fun _ hv h => image_New_1_sound _ hv (adS h fun h => adS h fun h => have t := lfS h hK; t)) fun h => have t := lfS h hK; t
def image_New_S (x0 : List Int) : Option (List (List Sec) × Int) :=
 Option.bind (Z122 x0) fun v1 =>
 if v1 ≠ 0 then
  some ((([] : List (List Sec)), v1))
 else
  if 0 ≤ (x0.length : Int) then
  if lenOk (x0.length : Int).toNat 24 then
  loopS (Z123 x0) 100000 (0, ([] : List (List Sec)))
  else none
  else none
theorem image_New_sound (x0 : List Int) {Φ : List (List Sec) × Int → Prop} {o} (h : image_New_S x0 = some o) (hK : Φ o) : image_New_W x0 Φ := by
  unfold image_New_S at h
  unfold image_New_W
  exact blS h fun _ hv h => image_checkSizes_sound _ hv (ifS h (fun h => have t := lfS h hK; t) fun h => adS h fun h => adS h fun h => LoopW.of_S (fun s q rec hs hq => image_New_L1_sound _ s hs hq) _ _ h hK)
def cycle_in_S (x0 : Int) (x1 : Int) (x2 : Int) : Option (Bool) :=
 if x1 ≤ x0 then
  some (decide (x0 ≤ x2))
 else
  some (false)
theorem cycle_in_sound (x0 : Int) (x1 : Int) (x2 : Int) {Φ : Bool → Prop} {o} (h : cycle_in_S x0 x1 x2 = some o) (hK : Φ o) : cycle_in_W x0 x1 x2 Φ := by
  unfold cycle_in_S at h
  unfold cycle_in_W
  exact ifS h (fun h => have t := lfS h hK; t) fun h => have t := lfS h hK; t
def Z124 (x0 : List Int) : Option (List Int) :=
 bothS (decide (x0 = [])) (
  some (([] : List Int))) (
  if lenOk (([] : List Int) ++ x0).length 8 then
  some ((([] : List Int) ++ x0))
  else none)
theorem slices_Clone_int_int_sound (x0 : List Int) {Φ : List Int → Prop} {o} (h : Z124 x0 = some o) (hK : Φ o) : Z3 x0 Φ := by
  unfold Z124 at h
  unfold Z3
  exact nl2S h (fun h => have t := lfS h hK; t) fun h => adS h fun h => have t := lfS h hK; t
def cycle_Open_S (x0 : List Int) (x1 : Int) (x2 : Int) : Option (api_Capture × Int) :=
 Option.bind (image_New_S x0) fun v1 =>
 if v1.2 ≠ 0 then
  some (((api_Capture.mk 0 ([] : List Int) ([] : List Int) ([] : List Int) ([] : List api_Write)), v1.2))
 else
  Option.bind (cycle_in_S x1 1 8) fun v2 =>
  if ¬ (v2 = true) then
   some (((api_Capture.mk 0 ([] : List Int) ([] : List Int) ([] : List Int) ([] : List api_Write)), 6))
  else
   Option.bind (cycle_in_S x2 0 1073741823) fun v3 =>
   if ¬ (v3 = true) then
    some (((api_Capture.mk 0 ([] : List Int) ([] : List Int) ([] : List Int) ([] : List api_Write)), 2))
   else
    Option.bind (Z124 x0) fun z =>
    let v4 : List Int × Unit := (z, ())
    if 0 ≤ x1 then
    if lenOk x1.toNat 8 then
    some (((api_Capture.mk x2 v4.1 (List.replicate x1.toNat (0 : Int)) ([] : List Int) ([] : List api_Write)), 0))
    else none
    else none
theorem cycle_Open_sound (x0 : List Int) (x1 : Int) (x2 : Int) {Φ : api_Capture × Int → Prop} {o} (h : cycle_Open_S x0 x1 x2 = some o) (hK : Φ o) : cycle_Open_W x0 x1 x2 Φ := by
  unfold cycle_Open_S at h
  unfold cycle_Open_W
  exact blS h fun _ hv h => image_New_sound _ hv (ifS h (fun h => have t := lfS h hK; t) fun h => blS h fun _ hv h => cycle_in_sound _ _ _ hv (ifS h (fun h => have t := lfS h hK; t) fun h => blS h fun _ hv h => cycle_in_sound _ _ _ hv (ifS h (fun h => have t := lfS h hK; t) fun h => blS h fun _ hv h => ⟨_, slices_Clone_int_int_sound _ hv rfl, adS h fun h => adS h fun h => have t := lfS h hK; t⟩)))
def Z125 (x0 : Int) (x1 : Int) (x2 : List (BitVec 8)) : (Int × List Sec) → Option ((Int × List Sec) ⊕ (api_Write))
 | (v1, v2) =>
  if v1 < (x2.length : Int) then
   if inX v1 x2.length then
   if lenOk (v2 ++ ([(Sec.mk (ix x2 v1) (0#8) (0#8) (0#8) (0#8) (0#8) (0#8) (0#8))] : List Sec)).length 8 then
   if inI (v1 + 1) then
   some (.inl ((v1 + 1), (v2 ++ ([(Sec.mk (ix x2 v1) (0#8) (0#8) (0#8) (0#8) (0#8) (0#8) (0#8))] : List Sec))))
   else none
   else none
   else none
  else
   some (.inr (api_Write.mk x0 x1 v2))
theorem law23_write_L1_sound (x0 : Int) (x1 : Int) (x2 : List (BitVec 8)) (s : Int × List Sec) {Φ : api_Write → Prop} {rec1 : (Int × List Sec) → Prop} {o} (h : Z125 x0 x1 x2 s = some o) (hK : (orK rec1 Φ) o) : Z4 x0 x1 x2 Φ s rec1 := by
  obtain ⟨v1, v2⟩ := s
  unfold Z125 at h
  unfold Z4
  exact ifS h (fun h => adS h fun h => adS h fun h => adS h fun h => have t := lfS h hK; t) fun h => have t := lfS h hK; t
def law23_write_S (x0 : Int) (x1 : Int) (x2 : List (BitVec 8)) : Option (api_Write) :=
 loopS (Z125 x0 x1 x2) 100000 (0, ([] : List Sec))
theorem law23_write_sound (x0 : Int) (x1 : Int) (x2 : List (BitVec 8)) {Φ : api_Write → Prop} {o} (h : law23_write_S x0 x1 x2 = some o) (hK : Φ o) : law23_write_W x0 x1 x2 Φ := by
  unfold law23_write_S at h
  unfold law23_write_W
  exact LoopW.of_S (fun s q rec hs hq => law23_write_L1_sound _ _ _ s hs hq) _ _ h hK
def Z126 (x0 : Int) : Option (Bool) :=
 Option.bind (cycle_in_S x0 0 1073741824) fun v1 =>
 some (decide (¬ (v1 = true)))
theorem cycle_positions_1_sound (x0 : Int) {Φ : Bool → Prop} {o} (h : Z126 x0 = some o) (hK : Φ o) : Z5 x0 Φ := by
  unfold Z126 at h
  unfold Z5
  exact blS h fun _ hv h => cycle_in_sound _ _ _ hv (have t := lfS h hK; t)
def Z127 (x0 : List Int) : (Int) → Option ((Int) ⊕ (Int))
 | v2 =>
  if v2 < (x0.length : Int) then
   if inX v2 x0.length then
   Option.bind (Z126 (ix x0 v2)) fun v3 =>
   if v3 = true then
    if 0 ≤ v2 then
     some (.inr 2)
    else
     some (.inr 0)
   else
    if inI (v2 + 1) then
    some (.inl (v2 + 1))
    else none
   else none
  else
   if 0 ≤ ((-1) : Int) then
    some (.inr 2)
   else
    some (.inr 0)
theorem cycle_positions_L1_sound (x0 : List Int) (s : Int) {Φ : Int → Prop} {rec1 : (Int) → Prop} {o} (h : Z127 x0 s = some o) (hK : (orK rec1 Φ) o) : Z6 x0 Φ s rec1 := by
  unfold Z127 at h
  unfold Z6
  exact ifS h (fun h => adS h fun h => blS h fun _ hv h => cycle_positions_1_sound _ hv (ifS h (fun h => ifS h (fun h => have t := lfS h hK; t) fun h => have t := lfS h hK; t) fun h => adS h fun h => have t := lfS h hK; t)) fun h => ifS h (fun h => have t := lfS h hK; t) fun h => have t := lfS h hK; t
def Z128 (x0 : List Int) (x1 : Int) : Option (Int) :=
 Option.bind (cycle_in_S (x0.length : Int) x1 8) fun v1 =>
 if ¬ (v1 = true) then
  some (6)
 else
  loopS (Z127 x0) 100000 0
theorem cycle_positions_sound (x0 : List Int) (x1 : Int) {Φ : Int → Prop} {o} (h : Z128 x0 x1 = some o) (hK : Φ o) : Z7 x0 x1 Φ := by
  unfold Z128 at h
  unfold Z7
  exact blS h fun _ hv h => cycle_in_sound _ _ _ hv (ifS h (fun h => have t := lfS h hK; t) fun h => LoopW.of_S (fun s q rec hs hq => cycle_positions_L1_sound _ s hs hq) _ _ h hK)
def Z129 (x0 : List Sec) : Option (Int) :=
 some ((x0.length : Int))
theorem image_sizes_1_sound (x0 : List Sec) {Φ : Int → Prop} {o} (h : Z129 x0 = some o) (hK : Φ o) : Z8 x0 Φ := by
  unfold Z129 at h
  unfold Z8
  exact have t := lfS h hK; t
def Z130 (x0 : List (List Sec)) : (Int × List Int) → Option ((Int × List Int) ⊕ (List Int))
 | (v1, v2) =>
  if v1 < (x0.length : Int) then
   if inX v1 x0.length then
   Option.bind (Z129 (ix x0 v1)) fun v3 =>
   if lenOk (v2 ++ ([v3] : List Int)).length 8 then
   if inI (v1 + 1) then
   some (.inl ((v1 + 1), (v2 ++ ([v3] : List Int))))
   else none
   else none
   else none
  else
   some (.inr v2)
theorem image_sizes_L1_sound (x0 : List (List Sec)) (s : Int × List Int) {Φ : List Int → Prop} {rec1 : (Int × List Int) → Prop} {o} (h : Z130 x0 s = some o) (hK : (orK rec1 Φ) o) : Z9 x0 Φ s rec1 := by
  obtain ⟨v1, v2⟩ := s
  unfold Z130 at h
  unfold Z9
  exact ifS h (fun h => adS h fun h => blS h fun _ hv h => image_sizes_1_sound _ hv (adS h fun h => adS h fun h => have t := lfS h hK; t)) fun h => have t := lfS h hK; t
def image_sizes_S (x0 : List (List Sec)) : Option (List Int) :=
 if 0 ≤ (x0.length : Int) then
 if lenOk (x0.length : Int).toNat 8 then
 loopS (Z130 x0) 100000 (0, ([] : List Int))
 else none
 else none
theorem image_sizes_sound (x0 : List (List Sec)) {Φ : List Int → Prop} {o} (h : image_sizes_S x0 = some o) (hK : Φ o) : image_sizes_W x0 Φ := by
  unfold image_sizes_S at h
  unfold image_sizes_W
  exact adS h fun h => adS h fun h => LoopW.of_S (fun s q rec hs hq => image_sizes_L1_sound _ s hs hq) _ _ h hK
def image_Check_S (x0 : List (List Sec)) : Option (Int) :=
 Option.bind (image_sizes_S x0) fun v1 =>
 Option.bind (Z122 v1) fun v2 =>
 some (v2)
theorem image_Check_sound (x0 : List (List Sec)) {Φ : Int → Prop} {o} (h : image_Check_S x0 = some o) (hK : Φ o) : image_Check_W x0 Φ := by
  unfold image_Check_S at h
  unfold image_Check_W
  exact blS h fun _ hv h => image_sizes_sound _ hv (blS h fun _ hv h => image_checkSizes_sound _ hv (have t := lfS h hK; t))
def Z131 (x0 : List (List Sec)) (x1 : api_Write) : (Bool) → Option (Int)
 | v1 =>
  if v1 = true then
   some (7)
  else
   if (x1.Data.length : Int) = 0 then
    some (1)
   else
    if x1.Start < 0 then
     some (2)
    else
     if inX x1.Volume x0.length then
     if inI (((ix x0 x1.Volume).length : Int) - (x1.Data.length : Int)) then
     if (((ix x0 x1.Volume).length : Int) - (x1.Data.length : Int)) < x1.Start then
      some (2)
     else
      some (0)
     else none
     else none
theorem image_fits_J1_sound (x0 : List (List Sec)) (x1 : api_Write) (s : Bool) {Φ : Int → Prop} {o} (h : Z131 x0 x1 s = some o) (hK : Φ o) : image_fits_J1 x0 x1 Φ s := by
  unfold Z131 at h
  unfold image_fits_J1
  exact ifS h (fun h => have t := lfS h hK; t) fun h => ifS h (fun h => have t := lfS h hK; t) fun h => ifS h (fun h => have t := lfS h hK; t) fun h => adS h fun h => adS h fun h => ifS h (fun h => have t := lfS h hK; t) fun h => have t := lfS h hK; t
def image_fits_S (x0 : List (List Sec)) (x1 : api_Write) : Option (Int) :=
 if x1.Volume < 0 then
  Z131 x0 x1 true
 else
  Z131 x0 x1 (decide ((x0.length : Int) ≤ x1.Volume))
theorem image_fits_sound (x0 : List (List Sec)) (x1 : api_Write) {Φ : Int → Prop} {o} (h : image_fits_S x0 x1 = some o) (hK : Φ o) : image_fits_W x0 x1 Φ := by
  unfold image_fits_S at h
  unfold image_fits_W
  exact ifS h (fun h => image_fits_J1_sound _ _ _ h hK) fun h => image_fits_J1_sound _ _ _ h hK
def image_Fits_S (x0 : List (List Sec)) (x1 : api_Write) : Option (Int) :=
 Option.bind (image_Check_S x0) fun v1 =>
 if v1 ≠ 0 then
  some (v1)
 else
  Option.bind (image_fits_S x0 x1) fun v2 =>
  some (v2)
theorem image_Fits_sound (x0 : List (List Sec)) (x1 : api_Write) {Φ : Int → Prop} {o} (h : image_Fits_S x0 x1 = some o) (hK : Φ o) : image_Fits_W x0 x1 Φ := by
  unfold image_Fits_S at h
  unfold image_Fits_W
  exact blS h fun _ hv h => image_Check_sound _ hv (ifS h (fun h => have t := lfS h hK; t) fun h => blS h fun _ hv h => image_fits_sound _ _ hv (have t := lfS h hK; t))
def Z132 (x0 : List Sec) : Option (List Sec) :=
 bothS (decide (x0 = [])) (
  some (([] : List Sec))) (
  if lenOk (([] : List Sec) ++ x0).length 8 then
  some ((([] : List Sec) ++ x0))
  else none)
theorem slices_Clone_api_Sector_api_Sector_sound (x0 : List Sec) {Φ : List Sec → Prop} {o} (h : Z132 x0 = some o) (hK : Φ o) : Z10 x0 Φ := by
  unfold Z132 at h
  unfold Z10
  exact nl2S h (fun h => have t := lfS h hK; t) fun h => adS h fun h => have t := lfS h hK; t
def Z133 (x0 : api_Write) : Option (api_Write) :=
 Option.bind (Z132 x0.Data) fun v1 =>
 some ((api_Write.mk x0.Volume x0.Start v1))
theorem cycle_copied_sound (x0 : api_Write) {Φ : api_Write → Prop} {o} (h : Z133 x0 = some o) (hK : Φ o) : Z11 x0 Φ := by
  unfold Z133 at h
  unfold Z11
  exact blS h fun _ hv h => slices_Clone_api_Sector_api_Sector_sound _ hv (have t := lfS h hK; t)
def Z134 (x0 : api_Capture) (v1 : List Int × Unit) (v2 : List Int × Unit) (v3 : List Int × Unit) : (Int × List api_Write) → Option ((Int × List api_Write) ⊕ (api_Capture))
 | (v4, v5) =>
  if v4 < (x0.Writes.length : Int) then
   if inX v4 x0.Writes.length then
   Option.bind (Z133 (ix x0.Writes v4)) fun v6 =>
   if lenOk (v5 ++ ([v6] : List api_Write)).length 40 then
   if inI (v4 + 1) then
   some (.inl ((v4 + 1), (v5 ++ ([v6] : List api_Write))))
   else none
   else none
   else none
  else
   some (.inr (api_Capture.mk x0.Number v1.1 v2.1 v3.1 v5))
theorem cycle_cloned_L1_sound (x0 : api_Capture) (v1 : List Int × Unit) (v2 : List Int × Unit) (v3 : List Int × Unit) (s : Int × List api_Write) {Φ : api_Capture → Prop} {rec1 : (Int × List api_Write) → Prop} {o} (h : Z134 x0 v1 v2 v3 s = some o) (hK : (orK rec1 Φ) o) : Z12 x0 v1 v2 v3 Φ s rec1 := by
  obtain ⟨v4, v5⟩ := s
  unfold Z134 at h
  unfold Z12
  exact ifS h (fun h => adS h fun h => blS h fun _ hv h => cycle_copied_sound _ hv (adS h fun h => adS h fun h => have t := lfS h hK; t)) fun h => have t := lfS h hK; t
def Z135 (x0 : api_Capture) : Option (api_Capture) :=
 Option.bind (Z124 x0.Sizes) fun z =>
 let v1 : List Int × Unit := (z, ())
 Option.bind (Z124 x0.Positions) fun z =>
 let v2 : List Int × Unit := (z, ())
 Option.bind (Z124 x0.Nodes) fun z =>
 let v3 : List Int × Unit := (z, ())
 loopS (Z134 x0 v1 v2 v3) 100000 (0, ([] : List api_Write))
theorem cycle_cloned_sound (x0 : api_Capture) {Φ : api_Capture → Prop} {o} (h : Z135 x0 = some o) (hK : Φ o) : Z13 x0 Φ := by
  unfold Z135 at h
  unfold Z13
  exact blS h fun _ hv h => ⟨_, slices_Clone_int_int_sound _ hv rfl, blS h fun _ hv h => ⟨_, slices_Clone_int_int_sound _ hv rfl, blS h fun _ hv h => ⟨_, slices_Clone_int_int_sound _ hv rfl, LoopW.of_S (fun s q rec hs hq => cycle_cloned_L1_sound _ _ _ _ s hs hq) _ _ h hK⟩⟩⟩
def Z136 (x0 : api_Capture) (x1 : Int) (x2 : api_Write) (v1 : List (List Sec) × Int) : (Int) → Option ((Int) ⊕ (api_Capture × Int))
 | v4 =>
  if v4 < (x0.Writes.length : Int) then
   if inX v4 x0.Writes.length then
   if inX v4 x0.Nodes.length then
   if inI ((x0.Positions.length : Int) - 1) then
   Option.bind (cycle_in_S (ix x0.Nodes v4) 0 ((x0.Positions.length : Int) - 1)) fun v5 =>
   if ¬ (v5 = true) then
    some (.inr ((api_Capture.mk 0 ([] : List Int) ([] : List Int) ([] : List Int) ([] : List api_Write)), 7))
   else
    Option.bind (image_Fits_S v1.1 (ix x0.Writes v4)) fun v6 =>
    if ¬ (v6 = 0) then
     some (.inr ((api_Capture.mk 0 ([] : List Int) ([] : List Int) ([] : List Int) ([] : List api_Write)), v6))
    else
     if inI (v4 + 1) then
     some (.inl (v4 + 1))
     else none
   else none
   else none
   else none
  else
   if inI ((x0.Positions.length : Int) - 1) then
   Option.bind (cycle_in_S x1 0 ((x0.Positions.length : Int) - 1)) fun v7 =>
   if ¬ (v7 = true) then
    some (.inr ((api_Capture.mk 0 ([] : List Int) ([] : List Int) ([] : List Int) ([] : List api_Write)), 7))
   else
    Option.bind (image_Fits_S v1.1 x2) fun v8 =>
    if ¬ (v8 = 0) then
     some (.inr ((api_Capture.mk 0 ([] : List Int) ([] : List Int) ([] : List Int) ([] : List api_Write)), v8))
    else
     if ¬ ((x0.Writes.length : Int) < 4096) then
      some (.inr ((api_Capture.mk 0 ([] : List Int) ([] : List Int) ([] : List Int) ([] : List api_Write)), 11))
     else
      Option.bind (Z135 x0) fun v9 =>
      if lenOk (v9.Nodes ++ ([x1] : List Int)).length 8 then
      Option.bind (Z133 x2) fun z =>
      let v10 : api_Write × Unit := (z, ())
      if lenOk (v9.Writes ++ ([v10.1] : List api_Write)).length 40 then
      some (.inr ((api_Capture.mk v9.Number v9.Sizes v9.Positions (v9.Nodes ++ ([x1] : List Int)) (v9.Writes ++ ([v10.1] : List api_Write))), 0))
      else none
      else none
   else none
theorem cycle_Add_L1_sound (x0 : api_Capture) (x1 : Int) (x2 : api_Write) (v1 : List (List Sec) × Int) (s : Int) {Φ : api_Capture × Int → Prop} {rec1 : (Int) → Prop} {o} (h : Z136 x0 x1 x2 v1 s = some o) (hK : (orK rec1 Φ) o) : cycle_Add_L1 x0 x1 x2 v1 Φ s rec1 := by
  unfold Z136 at h
  unfold cycle_Add_L1
  exact ifS h (fun h => adS h fun h => adS h fun h => adS h fun h => blS h fun _ hv h => cycle_in_sound _ _ _ hv (ifS h (fun h => have t := lfS h hK; t) fun h => blS h fun _ hv h => image_Fits_sound _ _ hv (ifS h (fun h => have t := lfS h hK; t) fun h => adS h fun h => have t := lfS h hK; t))) fun h => adS h fun h => blS h fun _ hv h => cycle_in_sound _ _ _ hv (ifS h (fun h => have t := lfS h hK; t) fun h => blS h fun _ hv h => image_Fits_sound _ _ hv (ifS h (fun h => have t := lfS h hK; t) fun h => ifS h (fun h => have t := lfS h hK; t) fun h => blS h fun _ hv h => cycle_cloned_sound _ hv (adS h fun h => blS h fun _ hv h => ⟨_, cycle_copied_sound _ hv rfl, adS h fun h => have t := lfS h hK; t⟩)))
def cycle_Add_S (x0 : api_Capture) (x1 : Int) (x2 : api_Write) : Option (api_Capture × Int) :=
 Option.bind (image_New_S x0.Sizes) fun v1 =>
 if ¬ (v1.2 = 0) then
  some (((api_Capture.mk 0 ([] : List Int) ([] : List Int) ([] : List Int) ([] : List api_Write)), v1.2))
 else
  Option.bind (cycle_in_S x0.Number 0 1073741823) fun v2 =>
  if ¬ (v2 = true) then
   some (((api_Capture.mk 0 ([] : List Int) ([] : List Int) ([] : List Int) ([] : List api_Write)), 2))
  else
   Option.bind (Z128 x0.Positions 1) fun v3 =>
   if ¬ (v3 = 0) then
    some (((api_Capture.mk 0 ([] : List Int) ([] : List Int) ([] : List Int) ([] : List api_Write)), v3))
   else
    if (x0.Nodes.length : Int) = (x0.Writes.length : Int) then
     if ¬ ((x0.Writes.length : Int) ≤ 4096) then
      some (((api_Capture.mk 0 ([] : List Int) ([] : List Int) ([] : List Int) ([] : List api_Write)), 6))
     else
      loopS (Z136 x0 x1 x2 v1) 100000 0
    else
     some (((api_Capture.mk 0 ([] : List Int) ([] : List Int) ([] : List Int) ([] : List api_Write)), 6))
theorem cycle_Add_sound (x0 : api_Capture) (x1 : Int) (x2 : api_Write) {Φ : api_Capture × Int → Prop} {o} (h : cycle_Add_S x0 x1 x2 = some o) (hK : Φ o) : cycle_Add_W x0 x1 x2 Φ := by
  unfold cycle_Add_S at h
  unfold cycle_Add_W
  exact blS h fun _ hv h => image_New_sound _ hv (ifS h (fun h => have t := lfS h hK; t) fun h => blS h fun _ hv h => cycle_in_sound _ _ _ hv (ifS h (fun h => have t := lfS h hK; t) fun h => blS h fun _ hv h => cycle_positions_sound _ _ hv (ifS h (fun h => have t := lfS h hK; t) fun h => ifS h (fun h => ifS h (fun h => have t := lfS h hK; t) fun h => LoopW.of_S (fun s q rec hs hq => cycle_Add_L1_sound _ _ _ _ s hs hq) _ _ h hK) fun h => have t := lfS h hK; t)))
def Z137 (x0 : Int) : Option (Bool) :=
 some (decide (0 < x0))
theorem cycle_divide_1_sound (x0 : Int) {Φ : Bool → Prop} {o} (h : Z137 x0 = some o) (hK : Φ o) : Z14 x0 Φ := by
  unfold Z137 at h
  unfold Z14
  exact have t := lfS h hK; t
def Z138 (x0 : cycle_division) (x1 : Bool) : (Int) → Option (List (Int × api_Write × Unit) × ((Int) ⊕ (Unit)))
 | v1 =>
  if v1 < (x0.c.Writes.length : Int) then
   if inX v1 x0.c.Writes.length then
   if inX v1 x0.part.length then
   if (ix x0.part v1) = x1 then
    Option.map (fun q => ((v1, (ix x0.c.Writes v1), ()) :: q.1, q.2)) (
     if inI (v1 + 1) then
     some ([], .inl (v1 + 1))
     else none)
   else
    if inI (v1 + 1) then
    some ([], .inl (v1 + 1))
    else none
   else none
   else none
  else
   some ([], .inr ())
theorem cycle_division_writes_1_L1_sound (x0 : cycle_division) (x1 : Bool) (s : Int) {ys : List (Int × api_Write × Unit)} {q} {r : List (Int × api_Write × Unit)} {rec1 : (List (Int × api_Write × Unit) × Int) → Prop} (h : Z138 x0 x1 s = some (ys, q)) (hr : (orK (fun s => rec1 (r, s)) (fun _ => r = [])) q) : Z15 x0 x1 (ys ++ r, s) rec1 := by
  unfold Z138 at h
  unfold Z15
  exact ifS h (fun h => adS h fun h => adS h fun h => ifS h (fun h => mpS h fun q_ h_ he => (by obtain ⟨_, _⟩ := q_; cases he; exact ⟨rfl, (have h := h_; adS h fun h => (by cases h; exact hr)), trivial⟩)) fun h => adS h fun h => (by cases h; exact hr)) fun h => (by cases h; exact hr)
def cycle_division_writes_1_S0 (x0 : cycle_division) (x1 : Bool) : Option (List (Int × api_Write × Unit) × Unit) :=
 genS (Z138 x0 x1) 100000 0
def Z139 (x0 : cycle_division) (x1 : Bool) : Option (List (Int × api_Write × Unit)) := Option.map Prod.fst (cycle_division_writes_1_S0 x0 x1)
theorem cycle_division_writes_1_sound (x0 : cycle_division) (x1 : Bool) {l : List (Int × api_Write × Unit)} (h : Z139 x0 x1 = some l) : cycle_division_writes_1_I x0 x1 l := by
  obtain ⟨⟨ys, q⟩, h0, h1⟩ := Option.map_eq_some_iff.1 h
  clear h
  have h := h0
  subst h1
  unfold cycle_division_writes_1_S0 at h
  unfold cycle_division_writes_1_I
  have hr : (fun _ => ([] : List (Int × api_Write × Unit)) = []) q := rfl
  rw [← List.append_nil ys]
  exact LoopW.of_G (K := fun r => (fun _ => r = [])) (fun s ys q r rec hs hr => cycle_division_writes_1_L1_sound _ _ s hs hr) _ _ _ h hr
def Z140 (v1 : api_Write) (v2 : List Sec) (v3 : Int × api_Write × Unit) (r4 : List (Int × api_Write × Unit)) : (Int × List Sec) → Option ((Int × List Sec) ⊕ ((List (Int × api_Write × Unit) × List Sec) ⊕ (api_Write)))
 | (v6, v7) =>
  if v6 < (v2.length : Int) then
   if inI (v1.Start + v6) then
   if inI ((v1.Start + v6) - v3.2.1.Start) then
   if inI ((v3.2.1.Data.length : Int) - 1) then
   Option.bind (cycle_in_S ((v1.Start + v6) - v3.2.1.Start) 0 ((v3.2.1.Data.length : Int) - 1)) fun v8 =>
   if v8 = true then
    if inX ((v1.Start + v6) - v3.2.1.Start) v3.2.1.Data.length then
    if inX v6 v7.length then
    if inI (v6 + 1) then
    some (.inl ((v6 + 1), (put v7 v6 (ix v3.2.1.Data ((v1.Start + v6) - v3.2.1.Start)))))
    else none
    else none
    else none
   else
    if inI (v6 + 1) then
    some (.inl ((v6 + 1), v7))
    else none
   else none
   else none
   else none
  else
   some (.inr (.inl (r4, v7)))
theorem cycle_division_later_L3_sound (v1 : api_Write) (v2 : List Sec) (v3 : Int × api_Write × Unit) (r4 : List (Int × api_Write × Unit)) (s : Int × List Sec) {Φ : api_Write → Prop} {rec1 : (List (Int × api_Write × Unit) × List Sec) → Prop} {rec3 : (Int × List Sec) → Prop} {o} (h : Z140 v1 v2 v3 r4 s = some o) (hK : (orK rec3 (orK rec1 Φ)) o) : Z30 v1 v2 rec1 v3 r4 Φ s rec3 := by
  obtain ⟨v6, v7⟩ := s
  unfold Z140 at h
  unfold Z30
  exact ifS h (fun h => adS h fun h => adS h fun h => adS h fun h => blS h fun _ hv h => cycle_in_sound _ _ _ hv (ifS h (fun h => adS h fun h => adS h fun h => adS h fun h => have t := lfS h hK; t) fun h => adS h fun h => have t := lfS h hK; t)) fun h => have t := lfS h hK; t
def Z141 (v1 : api_Write) (v2 : List Sec) (v3 : Int × api_Write × Unit) (r4 : List (Int × api_Write × Unit)) : (Bool) → Option ((List (Int × api_Write × Unit) × List Sec) ⊕ (api_Write))
 | v5 =>
  if v5 = true then
   some (.inl (r4, v2))
  else
   loopS (Z140 v1 v2 v3 r4) 100000 (0, v2)
theorem cycle_division_later_J2_sound (v1 : api_Write) (v2 : List Sec) (v3 : Int × api_Write × Unit) (r4 : List (Int × api_Write × Unit)) (s : Bool) {Φ : api_Write → Prop} {rec1 : (List (Int × api_Write × Unit) × List Sec) → Prop} {o} (h : Z141 v1 v2 v3 r4 s = some o) (hK : (orK rec1 Φ) o) : Z31 v1 v2 rec1 v3 r4 Φ s := by
  unfold Z141 at h
  unfold Z31
  exact ifS h (fun h => have t := lfS h hK; t) fun h => LoopW.of_S (fun s q rec hs hq => cycle_division_later_L3_sound _ _ _ _ s hs hq) _ _ h hK
def Z142 (x1 : Int) (v1 : api_Write) : (List (Int × api_Write × Unit) × List Sec) → Option ((List (Int × api_Write × Unit) × List Sec) ⊕ (api_Write))
 | (lst, v2) =>
  match lst with
  | [] =>
   some (.inr (api_Write.mk v1.Volume v1.Start v2))
  | v3 :: r4 =>
   if v3.1 < x1 then
    Z141 v1 v2 v3 r4 true
   else
    Z141 v1 v2 v3 r4 (decide (v3.2.1.Volume ≠ v1.Volume))
theorem cycle_division_later_L1_sound (x1 : Int) (v1 : api_Write) (s : List (Int × api_Write × Unit) × List Sec) {Φ : api_Write → Prop} {rec1 : (List (Int × api_Write × Unit) × List Sec) → Prop} {o} (h : Z142 x1 v1 s = some o) (hK : (orK rec1 Φ) o) : Z32 x1 v1 Φ s rec1 := by
  obtain ⟨lst, v2⟩ := s
  unfold Z142 at h
  unfold Z32
  cases lst with
  | nil => exact have t := lfS h hK; t
  | cons _ _ => exact ifS h (fun h => cycle_division_later_J2_sound _ _ _ _ _ h hK) fun h => cycle_division_later_J2_sound _ _ _ _ _ h hK
def Z143 (x0 : cycle_division) (x1 : Int) (x2 : api_Write) : Option (api_Write) :=
 Option.bind (Z133 x2) fun v1 =>
 Option.bind (Z139 x0 true) fun l9 =>
 loopS (Z142 x1 v1) 100000 (l9, v1.Data)
theorem cycle_division_later_sound (x0 : cycle_division) (x1 : Int) (x2 : api_Write) {Φ : api_Write → Prop} {o} (h : Z143 x0 x1 x2 = some o) (hK : Φ o) : Z33 x0 x1 x2 Φ := by
  unfold Z143 at h
  unfold Z33
  exact blS h fun _ hv h => cycle_copied_sound _ hv (blS h fun _ hv h => ⟨_, cycle_division_writes_1_sound _ _ hv, LoopW.of_S (fun s q rec hs hq => cycle_division_later_L1_sound _ _ s hs hq) _ _ h hK⟩)
def Z144 (x0 : api_Capture) (x1 : Int) (v12 : List Bool) (v18 : List api_Write × Int) (v19 : List Int × Unit) (v20 : List Int × Unit) (v21 : List Int × Unit) : (List (Int × api_Write × Unit) × (List Int × List api_Write)) → Option ((List (Int × api_Write × Unit) × (List Int × List api_Write)) ⊕ ((List (Int × api_Write × Unit) × List api_Write) ⊕ ((Int) ⊕ ((Int × List Int × List Bool) ⊕ ((Int × List Int) ⊕ ((Int) ⊕ (api_Capture × api_Cycle × Int)))))))
 | (lst, v22, v23) =>
  match lst with
  | [] =>
   some (.inr (.inr (.inr (.inr (.inr (.inr ((api_Capture.mk (x0.Number + 1) v20.1 v21.1 v22 v23), (api_Cycle.mk x0.Number (x0.Number + 1) x1 v19.1 v18.1), 0)))))))
  | v24 :: r25 =>
   if inX v24.1 x0.Nodes.length then
   if lenOk (v22 ++ ([(ix x0.Nodes v24.1)] : List Int)).length 8 then
   Option.bind (Z143 (cycle_division.mk x0 v12) v24.1 v24.2.1) fun z =>
   let v26 : api_Write × Unit := (z, ())
   if lenOk (v23 ++ ([v26.1] : List api_Write)).length 40 then
   some (.inl (r25, ((v22 ++ ([(ix x0.Nodes v24.1)] : List Int)), (v23 ++ ([v26.1] : List api_Write)))))
   else none
   else none
   else none
theorem cycle_Close_L6_sound (x0 : api_Capture) (x1 : Int) (v12 : List Bool) (v18 : List api_Write × Int) (v19 : List Int × Unit) (v20 : List Int × Unit) (v21 : List Int × Unit) (s : List (Int × api_Write × Unit) × (List Int × List api_Write)) {Φ : api_Capture × api_Cycle × Int → Prop} {rec1 : (Int) → Prop} {rec2 : (Int × List Int) → Prop} {rec3 : (Int × List Int × List Bool) → Prop} {rec4 : (Int) → Prop} {rec5 : (List (Int × api_Write × Unit) × List api_Write) → Prop} {rec6 : (List (Int × api_Write × Unit) × (List Int × List api_Write)) → Prop} {o} (h : Z144 x0 x1 v12 v18 v19 v20 v21 s = some o) (hK : (orK rec6 (orK rec5 (orK rec4 (orK rec3 (orK rec2 (orK rec1 Φ)))))) o) : Z34 x0 x1 v12 v18 v19 v20 v21 Φ s rec6 := by
  obtain ⟨lst, v22, v23⟩ := s
  unfold Z144 at h
  unfold Z34
  cases lst with
  | nil => exact have t := lfS h hK; t
  | cons _ _ => exact adS h fun h => adS h fun h => blS h fun _ hv h => ⟨_, cycle_division_later_sound _ _ _ hv rfl, adS h fun h => have t := lfS h hK; t⟩
def Z145 (x0 : api_Capture) (x1 : Int) (x2 : List Int) (v12 : List Bool) : (List (Int × api_Write × Unit) × List api_Write) → Option ((List (Int × api_Write × Unit) × List api_Write) ⊕ ((Int) ⊕ ((Int × List Int × List Bool) ⊕ ((Int × List Int) ⊕ ((Int) ⊕ (api_Capture × api_Cycle × Int))))))
 | (lst, v15) =>
  match lst with
  | [] =>
   Option.bind (Z118 v15) fun v18 =>
   if ¬ (v18.2 = 0) then
    some (.inr (.inr (.inr (.inr (.inr ((api_Capture.mk 0 ([] : List Int) ([] : List Int) ([] : List Int) ([] : List api_Write)), (api_Cycle.mk 0 0 0 ([] : List Int) ([] : List api_Write)), v18.2))))))
   else
    if inI (x0.Number + 1) then
    Option.bind (Z124 x2) fun z =>
    let v19 : List Int × Unit := (z, ())
    if inI (x0.Number + 1) then
    Option.bind (Z124 x0.Sizes) fun z =>
    let v20 : List Int × Unit := (z, ())
    Option.bind (Z124 x2) fun z =>
    let v21 : List Int × Unit := (z, ())
    Option.bind (Z139 (cycle_division.mk x0 v12) false) fun l27 =>
    loopS (Z144 x0 x1 v12 v18 v19 v20 v21) 100000 (l27, (([] : List Int), ([] : List api_Write)))
    else none
    else none
  | v16 :: r17 =>
   if lenOk (v15 ++ ([v16.2.1] : List api_Write)).length 40 then
   some (.inl (r17, (v15 ++ ([v16.2.1] : List api_Write))))
   else none
theorem cycle_Close_L5_sound (x0 : api_Capture) (x1 : Int) (x2 : List Int) (v12 : List Bool) (s : List (Int × api_Write × Unit) × List api_Write) {Φ : api_Capture × api_Cycle × Int → Prop} {rec1 : (Int) → Prop} {rec2 : (Int × List Int) → Prop} {rec3 : (Int × List Int × List Bool) → Prop} {rec4 : (Int) → Prop} {rec5 : (List (Int × api_Write × Unit) × List api_Write) → Prop} {o} (h : Z145 x0 x1 x2 v12 s = some o) (hK : (orK rec5 (orK rec4 (orK rec3 (orK rec2 (orK rec1 Φ))))) o) : Z35 x0 x1 x2 v12 Φ s rec5 := by
  obtain ⟨lst, v15⟩ := s
  unfold Z145 at h
  unfold Z35
  cases lst with
  | nil => exact blS h fun _ hv h => coalesce_Fold_sound _ hv (ifS h (fun h => have t := lfS h hK; t) fun h => adS h fun h => blS h fun _ hv h => ⟨_, slices_Clone_int_int_sound _ hv rfl, adS h fun h => blS h fun _ hv h => ⟨_, slices_Clone_int_int_sound _ hv rfl, blS h fun _ hv h => ⟨_, slices_Clone_int_int_sound _ hv rfl, blS h fun _ hv h => ⟨_, cycle_division_writes_1_sound _ _ hv, LoopW.of_S (fun s q rec hs hq => cycle_Close_L6_sound _ _ _ _ _ _ _ s hs hq) _ _ h hK⟩⟩⟩⟩)
  | cons _ _ => exact adS h fun h => have t := lfS h hK; t
def Z146 (x0 : api_Capture) (x1 : Int) (v12 : List Bool) (v32 : List api_Write × Int) (v33 : List Int × Unit) (v34 : List Int × Unit) (v35 : List Int × Unit) : (List (Int × api_Write × Unit) × (List Int × List api_Write)) → Option ((List (Int × api_Write × Unit) × (List Int × List api_Write)) ⊕ ((List (Int × api_Write × Unit) × List api_Write) ⊕ ((Int) ⊕ ((Int × List Int × List Bool) ⊕ ((Int × List Int) ⊕ ((Int) ⊕ (api_Capture × api_Cycle × Int)))))))
 | (lst, v36, v37) =>
  match lst with
  | [] =>
   some (.inr (.inr (.inr (.inr (.inr (.inr ((api_Capture.mk (x0.Number + 1) v34.1 v35.1 v36 v37), (api_Cycle.mk x0.Number (x0.Number + 1) x1 v33.1 v32.1), 0)))))))
  | v38 :: r39 =>
   if inX v38.1 x0.Nodes.length then
   if lenOk (v36 ++ ([(ix x0.Nodes v38.1)] : List Int)).length 8 then
   Option.bind (Z143 (cycle_division.mk x0 v12) v38.1 v38.2.1) fun z =>
   let v40 : api_Write × Unit := (z, ())
   if lenOk (v37 ++ ([v40.1] : List api_Write)).length 40 then
   some (.inl (r39, ((v36 ++ ([(ix x0.Nodes v38.1)] : List Int)), (v37 ++ ([v40.1] : List api_Write)))))
   else none
   else none
   else none
theorem cycle_Close_L8_sound (x0 : api_Capture) (x1 : Int) (v12 : List Bool) (v32 : List api_Write × Int) (v33 : List Int × Unit) (v34 : List Int × Unit) (v35 : List Int × Unit) (s : List (Int × api_Write × Unit) × (List Int × List api_Write)) {Φ : api_Capture × api_Cycle × Int → Prop} {rec1 : (Int) → Prop} {rec2 : (Int × List Int) → Prop} {rec3 : (Int × List Int × List Bool) → Prop} {rec4 : (Int) → Prop} {rec7 : (List (Int × api_Write × Unit) × List api_Write) → Prop} {rec8 : (List (Int × api_Write × Unit) × (List Int × List api_Write)) → Prop} {o} (h : Z146 x0 x1 v12 v32 v33 v34 v35 s = some o) (hK : (orK rec8 (orK rec7 (orK rec4 (orK rec3 (orK rec2 (orK rec1 Φ)))))) o) : Z36 x0 x1 v12 v32 v33 v34 v35 Φ s rec8 := by
  obtain ⟨lst, v36, v37⟩ := s
  unfold Z146 at h
  unfold Z36
  cases lst with
  | nil => exact have t := lfS h hK; t
  | cons _ _ => exact adS h fun h => adS h fun h => blS h fun _ hv h => ⟨_, cycle_division_later_sound _ _ _ hv rfl, adS h fun h => have t := lfS h hK; t⟩
def Z147 (x0 : api_Capture) (x1 : Int) (x2 : List Int) (v12 : List Bool) : (List (Int × api_Write × Unit) × List api_Write) → Option ((List (Int × api_Write × Unit) × List api_Write) ⊕ ((Int) ⊕ ((Int × List Int × List Bool) ⊕ ((Int × List Int) ⊕ ((Int) ⊕ (api_Capture × api_Cycle × Int))))))
 | (lst, v29) =>
  match lst with
  | [] =>
   Option.bind (Z118 v29) fun v32 =>
   if ¬ (v32.2 = 0) then
    some (.inr (.inr (.inr (.inr (.inr ((api_Capture.mk 0 ([] : List Int) ([] : List Int) ([] : List Int) ([] : List api_Write)), (api_Cycle.mk 0 0 0 ([] : List Int) ([] : List api_Write)), v32.2))))))
   else
    if inI (x0.Number + 1) then
    Option.bind (Z124 x2) fun z =>
    let v33 : List Int × Unit := (z, ())
    if inI (x0.Number + 1) then
    Option.bind (Z124 x0.Sizes) fun z =>
    let v34 : List Int × Unit := (z, ())
    Option.bind (Z124 x2) fun z =>
    let v35 : List Int × Unit := (z, ())
    Option.bind (Z139 (cycle_division.mk x0 v12) false) fun l41 =>
    loopS (Z146 x0 x1 v12 v32 v33 v34 v35) 100000 (l41, (([] : List Int), ([] : List api_Write)))
    else none
    else none
  | v30 :: r31 =>
   if lenOk (v29 ++ ([v30.2.1] : List api_Write)).length 40 then
   some (.inl (r31, (v29 ++ ([v30.2.1] : List api_Write))))
   else none
theorem cycle_Close_L7_sound (x0 : api_Capture) (x1 : Int) (x2 : List Int) (v12 : List Bool) (s : List (Int × api_Write × Unit) × List api_Write) {Φ : api_Capture × api_Cycle × Int → Prop} {rec1 : (Int) → Prop} {rec2 : (Int × List Int) → Prop} {rec3 : (Int × List Int × List Bool) → Prop} {rec4 : (Int) → Prop} {rec7 : (List (Int × api_Write × Unit) × List api_Write) → Prop} {o} (h : Z147 x0 x1 x2 v12 s = some o) (hK : (orK rec7 (orK rec4 (orK rec3 (orK rec2 (orK rec1 Φ))))) o) : Z37 x0 x1 x2 v12 Φ s rec7 := by
  obtain ⟨lst, v29⟩ := s
  unfold Z147 at h
  unfold Z37
  cases lst with
  | nil => exact blS h fun _ hv h => coalesce_Fold_sound _ hv (ifS h (fun h => have t := lfS h hK; t) fun h => adS h fun h => blS h fun _ hv h => ⟨_, slices_Clone_int_int_sound _ hv rfl, adS h fun h => blS h fun _ hv h => ⟨_, slices_Clone_int_int_sound _ hv rfl, blS h fun _ hv h => ⟨_, slices_Clone_int_int_sound _ hv rfl, blS h fun _ hv h => ⟨_, cycle_division_writes_1_sound _ _ hv, LoopW.of_S (fun s q rec hs hq => cycle_Close_L8_sound _ _ _ _ _ _ _ s hs hq) _ _ h hK⟩⟩⟩⟩)
  | cons _ _ => exact adS h fun h => have t := lfS h hK; t
def Z148 (x0 : api_Capture) (x1 : Int) (x2 : List Int) (v11 : List Int) (v12 : List Bool) : (Int) → Option ((Int) ⊕ ((Int × List Int × List Bool) ⊕ ((Int × List Int) ⊕ ((Int) ⊕ (api_Capture × api_Cycle × Int)))))
 | v13 =>
  if v13 < (v11.length : Int) then
   if inX v13 v11.length then
   Option.bind (Z137 (ix v11 v13)) fun v14 =>
   if v14 = true then
    if ¬ (¬ (0 ≤ v13)) then
     some (.inr (.inr (.inr (.inr ((api_Capture.mk 0 ([] : List Int) ([] : List Int) ([] : List Int) ([] : List api_Write)), (api_Cycle.mk 0 0 0 ([] : List Int) ([] : List api_Write)), 2)))))
    else
     Option.bind (Z139 (cycle_division.mk x0 v12) true) fun l28 =>
     loopS (Z145 x0 x1 x2 v12) 100000 (l28, ([] : List api_Write))
   else
    if inI (v13 + 1) then
    some (.inl (v13 + 1))
    else none
   else none
  else
   if ¬ (¬ (0 ≤ ((-1) : Int))) then
    some (.inr (.inr (.inr (.inr ((api_Capture.mk 0 ([] : List Int) ([] : List Int) ([] : List Int) ([] : List api_Write)), (api_Cycle.mk 0 0 0 ([] : List Int) ([] : List api_Write)), 2)))))
   else
    Option.bind (Z139 (cycle_division.mk x0 v12) true) fun l42 =>
    loopS (Z147 x0 x1 x2 v12) 100000 (l42, ([] : List api_Write))
theorem cycle_Close_L4_sound (x0 : api_Capture) (x1 : Int) (x2 : List Int) (v11 : List Int) (v12 : List Bool) (s : Int) {Φ : api_Capture × api_Cycle × Int → Prop} {rec1 : (Int) → Prop} {rec2 : (Int × List Int) → Prop} {rec3 : (Int × List Int × List Bool) → Prop} {rec4 : (Int) → Prop} {o} (h : Z148 x0 x1 x2 v11 v12 s = some o) (hK : (orK rec4 (orK rec3 (orK rec2 (orK rec1 Φ)))) o) : Z38 x0 x1 x2 v11 v12 Φ s rec4 := by
  unfold Z148 at h
  unfold Z38
  exact ifS h (fun h => adS h fun h => blS h fun _ hv h => cycle_divide_1_sound _ hv (ifS h (fun h => ifS h (fun h => have t := lfS h hK; t) fun h => blS h fun _ hv h => ⟨_, cycle_division_writes_1_sound _ _ hv, LoopW.of_S (fun s q rec hs hq => cycle_Close_L5_sound _ _ _ _ s hs hq) _ _ h hK⟩) fun h => adS h fun h => have t := lfS h hK; t)) fun h => ifS h (fun h => have t := lfS h hK; t) fun h => blS h fun _ hv h => ⟨_, cycle_division_writes_1_sound _ _ hv, LoopW.of_S (fun s q rec hs hq => cycle_Close_L7_sound _ _ _ _ s hs hq) _ _ h hK⟩
def Z149 (x0 : api_Capture) (x1 : Int) (x2 : List Int) : (Int × List Int × List Bool) → Option ((Int × List Int × List Bool) ⊕ ((Int × List Int) ⊕ ((Int) ⊕ (api_Capture × api_Cycle × Int))))
 | (v10, v11, v12) =>
  if v10 < (x0.Nodes.length : Int) then
   if inX v10 x0.Nodes.length then
   if inX (ix x0.Nodes v10) v11.length then
   if lenOk (v12 ++ ([decide (0 < (ix v11 (ix x0.Nodes v10)))] : List Bool)).length 1 then
   if inX (ix x0.Nodes v10) v11.length then
   if inI ((ix v11 (ix x0.Nodes v10)) - 1) then
   if inX (ix x0.Nodes v10) v11.length then
   if inI (v10 + 1) then
   some (.inl ((v10 + 1), (put v11 (ix x0.Nodes v10) (if ((ix v11 (ix x0.Nodes v10)) - 1) < 0 then 0 else ((ix v11 (ix x0.Nodes v10)) - 1))), (v12 ++ ([decide (0 < (ix v11 (ix x0.Nodes v10)))] : List Bool))))
   else none
   else none
   else none
   else none
   else none
   else none
   else none
  else
   loopS (Z148 x0 x1 x2 v11 v12) 100000 0
theorem cycle_Close_L3_sound (x0 : api_Capture) (x1 : Int) (x2 : List Int) (s : Int × List Int × List Bool) {Φ : api_Capture × api_Cycle × Int → Prop} {rec1 : (Int) → Prop} {rec2 : (Int × List Int) → Prop} {rec3 : (Int × List Int × List Bool) → Prop} {o} (h : Z149 x0 x1 x2 s = some o) (hK : (orK rec3 (orK rec2 (orK rec1 Φ))) o) : Z39 x0 x1 x2 Φ s rec3 := by
  obtain ⟨v10, v11, v12⟩ := s
  unfold Z149 at h
  unfold Z39
  exact ifS h (fun h => adS h fun h => adS h fun h => adS h fun h => adS h fun h => adS h fun h => adS h fun h => adS h fun h => have t := lfS h hK; t) fun h => LoopW.of_S (fun s q rec hs hq => cycle_Close_L4_sound _ _ _ _ _ s hs hq) _ _ h hK
def Z150 (x0 : api_Capture) (x1 : Int) (x2 : List Int) : (Int × List Int) → Option ((Int × List Int) ⊕ ((Int) ⊕ (api_Capture × api_Cycle × Int)))
 | (v8, v9) =>
  if v8 < (x2.length : Int) then
   if inX v8 x2.length then
   if inX v8 x0.Positions.length then
   if inX v8 v9.length then
   if inX v8 (put v9 v8 (Go.IntKind.wrap Go.IntKind.i64 ((ix x2 v8) - (ix x0.Positions v8)))).length then
   if ¬ (0 ≤ (ix (put v9 v8 (Go.IntKind.wrap Go.IntKind.i64 ((ix x2 v8) - (ix x0.Positions v8)))) v8)) then
    some (.inr (.inr ((api_Capture.mk 0 ([] : List Int) ([] : List Int) ([] : List Int) ([] : List api_Write)), (api_Cycle.mk 0 0 0 ([] : List Int) ([] : List api_Write)), 2)))
   else
    if inI (v8 + 1) then
    some (.inl ((v8 + 1), (put v9 v8 (Go.IntKind.wrap Go.IntKind.i64 ((ix x2 v8) - (ix x0.Positions v8))))))
    else none
   else none
   else none
   else none
   else none
  else
   loopS (Z149 x0 x1 x2) 100000 (0, v9, ([] : List Bool))
theorem cycle_Close_L2_sound (x0 : api_Capture) (x1 : Int) (x2 : List Int) (s : Int × List Int) {Φ : api_Capture × api_Cycle × Int → Prop} {rec1 : (Int) → Prop} {rec2 : (Int × List Int) → Prop} {o} (h : Z150 x0 x1 x2 s = some o) (hK : (orK rec2 (orK rec1 Φ)) o) : Z40 x0 x1 x2 Φ s rec2 := by
  obtain ⟨v8, v9⟩ := s
  unfold Z150 at h
  unfold Z40
  exact ifS h (fun h => adS h fun h => adS h fun h => adS h fun h => adS h fun h => ifS h (fun h => have t := lfS h hK; t) fun h => adS h fun h => have t := lfS h hK; t) fun h => LoopW.of_S (fun s q rec hs hq => cycle_Close_L3_sound _ _ _ s hs hq) _ _ h hK
def Z151 (x0 : api_Capture) (x1 : Int) (x2 : List Int) (v1 : List (List Sec) × Int) : (Int) → Option ((Int) ⊕ (api_Capture × api_Cycle × Int))
 | v4 =>
  if v4 < (x0.Writes.length : Int) then
   if inX v4 x0.Writes.length then
   if inX v4 x0.Nodes.length then
   if inI ((x0.Positions.length : Int) - 1) then
   Option.bind (cycle_in_S (ix x0.Nodes v4) 0 ((x0.Positions.length : Int) - 1)) fun v5 =>
   if ¬ (v5 = true) then
    some (.inr ((api_Capture.mk 0 ([] : List Int) ([] : List Int) ([] : List Int) ([] : List api_Write)), (api_Cycle.mk 0 0 0 ([] : List Int) ([] : List api_Write)), 7))
   else
    Option.bind (image_Fits_S v1.1 (ix x0.Writes v4)) fun v6 =>
    if ¬ (v6 = 0) then
     some (.inr ((api_Capture.mk 0 ([] : List Int) ([] : List Int) ([] : List Int) ([] : List api_Write)), (api_Cycle.mk 0 0 0 ([] : List Int) ([] : List api_Write)), v6))
    else
     if inI (v4 + 1) then
     some (.inl (v4 + 1))
     else none
   else none
   else none
   else none
  else
   Option.bind (cycle_in_S x1 0 1073741824) fun v7 =>
   if ¬ (v7 = true) then
    some (.inr ((api_Capture.mk 0 ([] : List Int) ([] : List Int) ([] : List Int) ([] : List api_Write)), (api_Cycle.mk 0 0 0 ([] : List Int) ([] : List api_Write)), 24))
   else
    if ¬ ((x2.length : Int) = (x0.Positions.length : Int)) then
     some (.inr ((api_Capture.mk 0 ([] : List Int) ([] : List Int) ([] : List Int) ([] : List api_Write)), (api_Cycle.mk 0 0 0 ([] : List Int) ([] : List api_Write)), 6))
    else
     if 0 ≤ (x2.length : Int) then
     if lenOk (x2.length : Int).toNat 8 then
     loopS (Z150 x0 x1 x2) 100000 (0, (List.replicate (x2.length : Int).toNat (0 : Int)))
     else none
     else none
theorem cycle_Close_L1_sound (x0 : api_Capture) (x1 : Int) (x2 : List Int) (v1 : List (List Sec) × Int) (s : Int) {Φ : api_Capture × api_Cycle × Int → Prop} {rec1 : (Int) → Prop} {o} (h : Z151 x0 x1 x2 v1 s = some o) (hK : (orK rec1 Φ) o) : Z41 x0 x1 x2 v1 Φ s rec1 := by
  unfold Z151 at h
  unfold Z41
  exact ifS h (fun h => adS h fun h => adS h fun h => adS h fun h => blS h fun _ hv h => cycle_in_sound _ _ _ hv (ifS h (fun h => have t := lfS h hK; t) fun h => blS h fun _ hv h => image_Fits_sound _ _ hv (ifS h (fun h => have t := lfS h hK; t) fun h => adS h fun h => have t := lfS h hK; t))) fun h => blS h fun _ hv h => cycle_in_sound _ _ _ hv (ifS h (fun h => have t := lfS h hK; t) fun h => ifS h (fun h => have t := lfS h hK; t) fun h => adS h fun h => adS h fun h => LoopW.of_S (fun s q rec hs hq => cycle_Close_L2_sound _ _ _ s hs hq) _ _ h hK)
def cycle_Close_S (x0 : api_Capture) (x1 : Int) (x2 : List Int) : Option (api_Capture × api_Cycle × Int) :=
 Option.bind (image_New_S x0.Sizes) fun v1 =>
 if ¬ (v1.2 = 0) then
  some (((api_Capture.mk 0 ([] : List Int) ([] : List Int) ([] : List Int) ([] : List api_Write)), (api_Cycle.mk 0 0 0 ([] : List Int) ([] : List api_Write)), v1.2))
 else
  Option.bind (cycle_in_S x0.Number 0 1073741823) fun v2 =>
  if ¬ (v2 = true) then
   some (((api_Capture.mk 0 ([] : List Int) ([] : List Int) ([] : List Int) ([] : List api_Write)), (api_Cycle.mk 0 0 0 ([] : List Int) ([] : List api_Write)), 2))
  else
   Option.bind (Z128 x0.Positions 1) fun v3 =>
   if ¬ (v3 = 0) then
    some (((api_Capture.mk 0 ([] : List Int) ([] : List Int) ([] : List Int) ([] : List api_Write)), (api_Cycle.mk 0 0 0 ([] : List Int) ([] : List api_Write)), v3))
   else
    if (x0.Nodes.length : Int) = (x0.Writes.length : Int) then
     if ¬ ((x0.Writes.length : Int) ≤ 4096) then
      some (((api_Capture.mk 0 ([] : List Int) ([] : List Int) ([] : List Int) ([] : List api_Write)), (api_Cycle.mk 0 0 0 ([] : List Int) ([] : List api_Write)), 6))
     else
      loopS (Z151 x0 x1 x2 v1) 100000 0
    else
     some (((api_Capture.mk 0 ([] : List Int) ([] : List Int) ([] : List Int) ([] : List api_Write)), (api_Cycle.mk 0 0 0 ([] : List Int) ([] : List api_Write)), 6))
theorem cycle_Close_sound (x0 : api_Capture) (x1 : Int) (x2 : List Int) {Φ : api_Capture × api_Cycle × Int → Prop} {o} (h : cycle_Close_S x0 x1 x2 = some o) (hK : Φ o) : cycle_Close_W x0 x1 x2 Φ := by
  unfold cycle_Close_S at h
  unfold cycle_Close_W
  exact blS h fun _ hv h => image_New_sound _ hv (ifS h (fun h => have t := lfS h hK; t) fun h => blS h fun _ hv h => cycle_in_sound _ _ _ hv (ifS h (fun h => have t := lfS h hK; t) fun h => blS h fun _ hv h => cycle_positions_sound _ _ hv (ifS h (fun h => have t := lfS h hK; t) fun h => ifS h (fun h => ifS h (fun h => have t := lfS h hK; t) fun h => LoopW.of_S (fun s q rec hs hq => cycle_Close_L1_sound _ _ _ _ s hs hq) _ _ h hK) fun h => have t := lfS h hK; t)))
def Z152 (x0 : List Sec) (x1 : List Sec) : (Int) → Option ((Int) ⊕ (Bool))
 | v1 =>
  if v1 < (x0.length : Int) then
   if inX v1 x0.length then
   if inX v1 x1.length then
   if (ix x0 v1) ≠ (ix x1 v1) then
    some (.inr false)
   else
    if inI (v1 + 1) then
    some (.inl (v1 + 1))
    else none
   else none
   else none
  else
   some (.inr true)
theorem ref03_SameSectors_L1_sound (x0 : List Sec) (x1 : List Sec) (s : Int) {Φ : Bool → Prop} {rec1 : (Int) → Prop} {o} (h : Z152 x0 x1 s = some o) (hK : (orK rec1 Φ) o) : Z42 x0 x1 Φ s rec1 := by
  unfold Z152 at h
  unfold Z42
  exact ifS h (fun h => adS h fun h => adS h fun h => ifS h (fun h => have t := lfS h hK; t) fun h => adS h fun h => have t := lfS h hK; t) fun h => have t := lfS h hK; t
def Z153 (x0 : List Sec) (x1 : List Sec) : Option (Bool) :=
 if (x0.length : Int) ≠ (x1.length : Int) then
  some (false)
 else
  loopS (Z152 x0 x1) 100000 0
theorem ref03_SameSectors_sound (x0 : List Sec) (x1 : List Sec) {Φ : Bool → Prop} {o} (h : Z153 x0 x1 = some o) (hK : Φ o) : Z43 x0 x1 Φ := by
  unfold Z153 at h
  unfold Z43
  exact ifS h (fun h => have t := lfS h hK; t) fun h => LoopW.of_S (fun s q rec hs hq => ref03_SameSectors_L1_sound _ _ s hs hq) _ _ h hK
def Z154 (x0 : List api_Write) (x1 : List api_Write) : (Int) → Option ((Int) ⊕ (Bool))
 | v1 =>
  if v1 < (x0.length : Int) then
   if inX v1 x0.length then
   if inX v1 x1.length then
   if ((ix x0 v1).Volume) ≠ ((ix x1 v1).Volume) then
    some (.inr false)
   else
    if inX v1 x0.length then
    if inX v1 x1.length then
    if ((ix x0 v1).Start) ≠ ((ix x1 v1).Start) then
     some (.inr false)
    else
     if inX v1 x0.length then
     if inX v1 x1.length then
     Option.bind (Z153 ((ix x0 v1).Data) ((ix x1 v1).Data)) fun z =>
     let v2 : Bool × Unit := (z, ())
     if ¬ (v2.1 = true) then
      some (.inr false)
     else
      if inI (v1 + 1) then
      some (.inl (v1 + 1))
      else none
     else none
     else none
    else none
    else none
   else none
   else none
  else
   some (.inr true)
theorem ref03_SameWrites_L1_sound (x0 : List api_Write) (x1 : List api_Write) (s : Int) {Φ : Bool → Prop} {rec1 : (Int) → Prop} {o} (h : Z154 x0 x1 s = some o) (hK : (orK rec1 Φ) o) : Z44 x0 x1 Φ s rec1 := by
  unfold Z154 at h
  unfold Z44
  exact ifS h (fun h => adS h fun h => adS h fun h => ifS h (fun h => have t := lfS h hK; t) fun h => adS h fun h => adS h fun h => ifS h (fun h => have t := lfS h hK; t) fun h => adS h fun h => adS h fun h => blS h fun _ hv h => ⟨_, ref03_SameSectors_sound _ _ hv rfl, ifS h (fun h => have t := lfS h hK; t) fun h => adS h fun h => have t := lfS h hK; t⟩) fun h => have t := lfS h hK; t
def Z155 (x0 : List api_Write) (x1 : List api_Write) : Option (Bool) :=
 if (x0.length : Int) ≠ (x1.length : Int) then
  some (false)
 else
  loopS (Z154 x0 x1) 100000 0
theorem ref03_SameWrites_sound (x0 : List api_Write) (x1 : List api_Write) {Φ : Bool → Prop} {o} (h : Z155 x0 x1 = some o) (hK : Φ o) : Z45 x0 x1 Φ := by
  unfold Z155 at h
  unfold Z45
  exact ifS h (fun h => have t := lfS h hK; t) fun h => LoopW.of_S (fun s q rec hs hq => ref03_SameWrites_L1_sound _ _ s hs hq) _ _ h hK
def ref22_Same_S (x0 : List api_Write) (x1 : List api_Write) : Option (Bool) :=
 Option.bind (Z155 x0 x1) fun v1 =>
 some (v1)
theorem ref22_Same_sound (x0 : List api_Write) (x1 : List api_Write) {Φ : Bool → Prop} {o} (h : ref22_Same_S x0 x1 = some o) (hK : Φ o) : ref22_Same_W x0 x1 Φ := by
  unfold ref22_Same_S at h
  unfold ref22_Same_W
  exact blS h fun _ hv h => ref03_SameWrites_sound _ _ hv (have t := lfS h hK; t)
def Z156 (x0 : BitVec 64) (x1 : BitVec 64) : Option (BitVec 64 × BitVec 64) :=
 some ((((((x0 >>> ((32#64).toNat : Int).toNat) * (x1 >>> ((32#64).toNat : Int).toNat)) + ((((x0 >>> ((32#64).toNat : Int).toNat) * (x1 &&& (4294967295#64))) + (((x0 &&& (4294967295#64)) * (x1 &&& (4294967295#64))) >>> ((32#64).toNat : Int).toNat)) >>> ((32#64).toNat : Int).toNat)) + ((((((x0 >>> ((32#64).toNat : Int).toNat) * (x1 &&& (4294967295#64))) + (((x0 &&& (4294967295#64)) * (x1 &&& (4294967295#64))) >>> ((32#64).toNat : Int).toNat)) &&& (4294967295#64)) + ((x0 &&& (4294967295#64)) * (x1 >>> ((32#64).toNat : Int).toNat))) >>> ((32#64).toNat : Int).toNat)), (x0 * x1)))
theorem math_bits_Mul64_sound (x0 : BitVec 64) (x1 : BitVec 64) {Φ : BitVec 64 × BitVec 64 → Prop} {o} (h : Z156 x0 x1 = some o) (hK : Φ o) : Z46 x0 x1 Φ := by
  unfold Z156 at h
  unfold Z46
  exact have t := lfS h hK; t
def Z157 (x0 : BitVec 64) (x1 : BitVec 64) : Option (BitVec 64 × BitVec 64) :=
 Option.bind (Z156 x0 x1) fun v1 =>
 some ((v1.1, v1.2))
theorem math_bits_Mul_sound (x0 : BitVec 64) (x1 : BitVec 64) {Φ : BitVec 64 × BitVec 64 → Prop} {o} (h : Z157 x0 x1 = some o) (hK : Φ o) : Z47 x0 x1 Φ := by
  unfold Z157 at h
  unfold Z47
  exact blS h fun _ hv h => math_bits_Mul64_sound _ _ hv (have t := lfS h hK; t)
def Z158 : (Int × List Int) → Option ((Int × List Int) ⊕ (List Int))
 | (v3, v4) =>
  if v3 < (v4.length : Int) then
   if inS v3 (v4.length : Int) v4.length then
   if inS 0 v3 v4.length then
   if inI (v3 + ((min (sub v4 0 v3).length (v4.length - (v3 : Int).toNat) : Nat) : Int)) then
   some (.inl ((v3 + ((min (sub v4 0 v3).length (v4.length - (v3 : Int).toNat) : Nat) : Int)), (paste v4 v3 (sub v4 0 v3))))
   else none
   else none
   else none
  else
   some (.inr v4)
theorem slices_Repeat_int_int_L2_sound (s : Int × List Int) {Φ : List Int → Prop} {rec2 : (Int × List Int) → Prop} {o} (h : Z158 s = some o) (hK : (orK rec2 Φ) o) : Z48 Φ s rec2 := by
  obtain ⟨v3, v4⟩ := s
  unfold Z158 at h
  unfold Z48
  exact ifS h (fun h => adS h fun h => adS h fun h => adS h fun h => have t := lfS h hK; t) fun h => have t := lfS h hK; t
def Z159 (x0 : List Int) (v1 : BitVec 64 × BitVec 64) : (Bool) → Option (List Int)
 | v2 =>
  if v2 = true then
   none
  else
   if 0 ≤ v1.2.toInt then
   if lenOk v1.2.toInt.toNat 8 then
   loopS (Z158) 100000 (((min x0.length ((List.replicate v1.2.toInt.toNat (0 : Int)).length - (0 : Int).toNat) : Nat) : Int), (paste (List.replicate v1.2.toInt.toNat (0 : Int)) 0 x0))
   else none
   else none
theorem slices_Repeat_int_int_J1_sound (x0 : List Int) (v1 : BitVec 64 × BitVec 64) (s : Bool) {Φ : List Int → Prop} {o} (h : Z159 x0 v1 s = some o) (hK : Φ o) : Z49 x0 v1 Φ s := by
  unfold Z159 at h
  unfold Z49
  exact ifS h (fun h => (by cases h)) fun h => adS h fun h => adS h fun h => LoopW.of_S (fun s q rec hs hq => slices_Repeat_int_int_L2_sound s hs hq) _ _ h hK
def Z160 (x0 : List Int) (x1 : Int) : Option (List Int) :=
 if x1 < 0 then
  none
 else
  Option.bind (Z157 (BitVec.ofInt 64 (x0.length : Int)) (BitVec.ofInt 64 x1)) fun v1 =>
  if (0#64) < v1.1 then
   Z159 x0 v1 true
  else
   Z159 x0 v1 (decide ((9223372036854775807#64) < v1.2))
theorem slices_Repeat_int_int_sound (x0 : List Int) (x1 : Int) {Φ : List Int → Prop} {o} (h : Z160 x0 x1 = some o) (hK : Φ o) : Z50 x0 x1 Φ := by
  unfold Z160 at h
  unfold Z50
  exact ifS h (fun h => (by cases h)) fun h => blS h fun _ hv h => math_bits_Mul_sound _ _ hv (ifS h (fun h => slices_Repeat_int_int_J1_sound _ _ _ h hK) fun h => slices_Repeat_int_int_J1_sound _ _ _ h hK)
def Z161 : Option (List Int) :=
 Option.bind (Z160 ([4096] : List Int) 8) fun v1 =>
 some (v1)
theorem cycle_largest_sound {Φ : List Int → Prop} {o} (h : Z161 = some o) (hK : Φ o) : Z51 Φ := by
  unfold Z161 at h
  unfold Z51
  exact blS h fun _ hv h => slices_Repeat_int_int_sound _ _ hv (have t := lfS h hK; t)
def Z162 (x0 : List api_Write) (v1 : List (List Sec) × Int) : (Int) → Option ((Int) ⊕ (Int))
 | v2 =>
  if v2 < (x0.length : Int) then
   if inX v2 x0.length then
   Option.bind (image_Fits_S v1.1 (ix x0 v2)) fun v3 =>
   if v3 ≠ 0 then
    some (.inr v3)
   else
    if v2 = 0 then
     if inI (v2 + 1) then
     some (.inl (v2 + 1))
     else none
    else
     if inI (v2 - 1) then
     if inX (v2 - 1) x0.length then
     if ((ix x0 v2).Volume) < ((ix x0 (v2 - 1)).Volume) then
      some (.inr 3)
     else
      if ((ix x0 v2).Volume) = ((ix x0 (v2 - 1)).Volume) then
       if inI (((ix x0 (v2 - 1)).Start) + (((ix x0 (v2 - 1)).Data).length : Int)) then
       if ((ix x0 v2).Start) ≤ (((ix x0 (v2 - 1)).Start) + (((ix x0 (v2 - 1)).Data).length : Int)) then
        some (.inr 3)
       else
        if inI (v2 + 1) then
        some (.inl (v2 + 1))
        else none
       else none
      else
       if inI (v2 + 1) then
       some (.inl (v2 + 1))
       else none
     else none
     else none
   else none
  else
   some (.inr 0)
theorem coalesce_Check_L1_sound (x0 : List api_Write) (v1 : List (List Sec) × Int) (s : Int) {Φ : Int → Prop} {rec1 : (Int) → Prop} {o} (h : Z162 x0 v1 s = some o) (hK : (orK rec1 Φ) o) : Z52 x0 v1 Φ s rec1 := by
  unfold Z162 at h
  unfold Z52
  exact ifS h (fun h => adS h fun h => blS h fun _ hv h => image_Fits_sound _ _ hv (ifS h (fun h => have t := lfS h hK; t) fun h => ifS h (fun h => adS h fun h => have t := lfS h hK; t) fun h => adS h fun h => adS h fun h => ifS h (fun h => have t := lfS h hK; t) fun h => ifS h (fun h => adS h fun h => ifS h (fun h => have t := lfS h hK; t) fun h => adS h fun h => have t := lfS h hK; t) fun h => adS h fun h => have t := lfS h hK; t)) fun h => have t := lfS h hK; t
def Z163 (x0 : List api_Write) (x1 : List Int) : Option (Int) :=
 Option.bind (image_New_S x1) fun v1 =>
 if v1.2 ≠ 0 then
  some (v1.2)
 else
  loopS (Z162 x0 v1) 100000 0
theorem coalesce_Check_sound (x0 : List api_Write) (x1 : List Int) {Φ : Int → Prop} {o} (h : Z163 x0 x1 = some o) (hK : Φ o) : Z53 x0 x1 Φ := by
  unfold Z163 at h
  unfold Z53
  exact blS h fun _ hv h => image_New_sound _ hv (ifS h (fun h => have t := lfS h hK; t) fun h => LoopW.of_S (fun s q rec hs hq => coalesce_Check_L1_sound _ _ s hs hq) _ _ h hK)
def Z164 (x0 : api_Cycle) (x1 : List Int) : (Bool) → Option (Int)
 | v2 =>
  if v2 = true then
   some (2)
  else
   Option.bind (cycle_in_S x0.Time 0 1073741824) fun v3 =>
   if ¬ (v3 = true) then
    some (24)
   else
    Option.bind (Z128 x0.Positions 0) fun v4 =>
    if v4 ≠ 0 then
     some (v4)
    else
     Option.bind (Z163 x0.Writes x1) fun v5 =>
     some (v5)
theorem cycle_Check_J1_sound (x0 : api_Cycle) (x1 : List Int) (s : Bool) {Φ : Int → Prop} {o} (h : Z164 x0 x1 s = some o) (hK : Φ o) : Z54 x0 x1 Φ s := by
  unfold Z164 at h
  unfold Z54
  exact ifS h (fun h => have t := lfS h hK; t) fun h => blS h fun _ hv h => cycle_in_sound _ _ _ hv (ifS h (fun h => have t := lfS h hK; t) fun h => blS h fun _ hv h => cycle_positions_sound _ _ hv (ifS h (fun h => have t := lfS h hK; t) fun h => blS h fun _ hv h => coalesce_Check_sound _ _ hv (have t := lfS h hK; t)))
def cycle_Check_S (x0 : api_Cycle) (x1 : List Int) : Option (Int) :=
 Option.bind (image_New_S x1) fun v1 =>
 if v1.2 ≠ 0 then
  some (v1.2)
 else
  if x0.Base < 0 then
   Z164 x0 x1 true
  else
   if x0.Number ≤ x0.Base then
    Z164 x0 x1 true
   else
    Z164 x0 x1 (decide (1073741824 < x0.Number))
theorem cycle_Check_sound (x0 : api_Cycle) (x1 : List Int) {Φ : Int → Prop} {o} (h : cycle_Check_S x0 x1 = some o) (hK : Φ o) : cycle_Check_W x0 x1 Φ := by
  unfold cycle_Check_S at h
  unfold cycle_Check_W
  exact blS h fun _ hv h => image_New_sound _ hv (ifS h (fun h => have t := lfS h hK; t) fun h => ifS h (fun h => cycle_Check_J1_sound _ _ _ h hK) fun h => ifS h (fun h => cycle_Check_J1_sound _ _ _ h hK) fun h => cycle_Check_J1_sound _ _ _ h hK)
def Z165 (x0 : api_Cycle) (x1 : api_Cycle) : (Int) → Option ((Int) ⊕ ((Int) ⊕ (api_Cycle × Int)))
 | v4 =>
  if v4 < (x0.Positions.length : Int) then
   if inX v4 x0.Positions.length then
   if inX v4 x1.Positions.length then
   if (ix x1.Positions v4) < (ix x0.Positions v4) then
    some (.inr (.inr ((api_Cycle.mk 0 0 0 ([] : List Int) ([] : List api_Write)), 2)))
   else
    if inI (v4 + 1) then
    some (.inl (v4 + 1))
    else none
   else none
   else none
  else
   Option.bind (Z119 x0.Writes x1.Writes) fun v5 =>
   if v5.2 ≠ 0 then
    some (.inr (.inr ((api_Cycle.mk 0 0 0 ([] : List Int) ([] : List api_Write)), v5.2)))
   else
    Option.bind (Z124 x1.Positions) fun z =>
    let v6 : List Int × Unit := (z, ())
    some (.inr (.inr ((api_Cycle.mk x0.Base x1.Number x1.Time v6.1 v5.1), 0)))
theorem cycle_Compose_L2_sound (x0 : api_Cycle) (x1 : api_Cycle) (s : Int) {Φ : api_Cycle × Int → Prop} {rec1 : (Int) → Prop} {rec2 : (Int) → Prop} {o} (h : Z165 x0 x1 s = some o) (hK : (orK rec2 (orK rec1 Φ)) o) : Z68 x0 x1 Φ s rec2 := by
  unfold Z165 at h
  unfold Z68
  exact ifS h (fun h => adS h fun h => adS h fun h => ifS h (fun h => have t := lfS h hK; t) fun h => adS h fun h => have t := lfS h hK; t) fun h => blS h fun _ hv h => coalesce_Merge_sound _ _ hv (ifS h (fun h => have t := lfS h hK; t) fun h => blS h fun _ hv h => ⟨_, slices_Clone_int_int_sound _ hv rfl, have t := lfS h hK; t⟩)
def Z166 (x0 : api_Cycle) (x1 : api_Cycle) : (Int) → Option ((Int) ⊕ (api_Cycle × Int))
 | v1 =>
  if v1 < (([x0, x1] : List api_Cycle).length : Int) then
   if inX v1 ([x0, x1] : List api_Cycle).length then
   Option.bind (Z161) fun z =>
   let v2 : List Int × Unit := (z, ())
   Option.bind (cycle_Check_S (ix ([x0, x1] : List api_Cycle) v1) v2.1) fun z =>
   let v3 : Int × Unit := (z, ())
   if v3.1 ≠ 0 then
    some (.inr ((api_Cycle.mk 0 0 0 ([] : List Int) ([] : List api_Write)), v3.1))
   else
    if inI (v1 + 1) then
    some (.inl (v1 + 1))
    else none
   else none
  else
   if x1.Base ≠ x0.Number then
    some (.inr ((api_Cycle.mk 0 0 0 ([] : List Int) ([] : List api_Write)), 15))
   else
    if (x0.Positions.length : Int) ≠ (x1.Positions.length : Int) then
     some (.inr ((api_Cycle.mk 0 0 0 ([] : List Int) ([] : List api_Write)), 6))
    else
     if x1.Time < x0.Time then
      some (.inr ((api_Cycle.mk 0 0 0 ([] : List Int) ([] : List api_Write)), 24))
     else
      loopS (Z165 x0 x1) 100000 0
theorem cycle_Compose_L1_sound (x0 : api_Cycle) (x1 : api_Cycle) (s : Int) {Φ : api_Cycle × Int → Prop} {rec1 : (Int) → Prop} {o} (h : Z166 x0 x1 s = some o) (hK : (orK rec1 Φ) o) : Z69 x0 x1 Φ s rec1 := by
  unfold Z166 at h
  unfold Z69
  exact ifS h (fun h => adS h fun h => blS h fun _ hv h => ⟨_, cycle_largest_sound hv rfl, blS h fun _ hv h => ⟨_, cycle_Check_sound _ _ hv rfl, ifS h (fun h => have t := lfS h hK; t) fun h => adS h fun h => have t := lfS h hK; t⟩⟩) fun h => ifS h (fun h => have t := lfS h hK; t) fun h => ifS h (fun h => have t := lfS h hK; t) fun h => ifS h (fun h => have t := lfS h hK; t) fun h => LoopW.of_S (fun s q rec hs hq => cycle_Compose_L2_sound _ _ s hs hq) _ _ h hK
def Z167 (x0 : api_Cycle) (x1 : api_Cycle) : Option (api_Cycle × Int) :=
 loopS (Z166 x0 x1) 100000 0
theorem cycle_Compose_sound (x0 : api_Cycle) (x1 : api_Cycle) {Φ : api_Cycle × Int → Prop} {o} (h : Z167 x0 x1 = some o) (hK : Φ o) : Z70 x0 x1 Φ := by
  unfold Z167 at h
  unfold Z70
  exact LoopW.of_S (fun s q rec hs hq => cycle_Compose_L1_sound _ _ s hs hq) _ _ h hK
def Z168 (v8 : api_Capture × api_Cycle × Int) : (Unit) → Option (Bool)
 | _ =>
  Option.bind (cycle_Close_S v8.1 6 ([2, 1] : List Int)) fun v9 =>
  Option.bind (Z167 v8.2.1 v9.2.1) fun v10 =>
  Option.bind (law23_write_S 0 1 ([98#8, 99#8] : List (BitVec 8))) fun v11 =>
  if v9.2.2 = 0 then
   if v10.2 = 0 then
    Option.bind (ref22_Same_S v9.2.1.Writes ([v11] : List api_Write)) fun v12 =>
    if v12 = true then
     if v10.1.Base = 0 then
      if v10.1.Number = 2 then
       Option.bind (ref22_Same_S v10.1.Writes ([v11] : List api_Write)) fun v13 =>
       some (v13)
      else
       some (false)
     else
      some (false)
    else
     some (false)
   else
    some (false)
  else
   some (false)
theorem law23_awake_J1_sound (v8 : api_Capture × api_Cycle × Int) (s : Unit) {Φ : Bool → Prop} {o} (h : Z168 v8 s = some o) (hK : Φ o) : Z71 v8 Φ s := by
  unfold Z168 at h
  unfold Z71
  exact blS h fun _ hv h => cycle_Close_sound _ _ _ hv (blS h fun _ hv h => cycle_Compose_sound _ _ hv (blS h fun _ hv h => law23_write_sound _ _ _ hv (ifS h (fun h => ifS h (fun h => blS h fun _ hv h => ref22_Same_sound _ _ hv (ifS h (fun h => ifS h (fun h => ifS h (fun h => blS h fun _ hv h => ref22_Same_sound _ _ hv (have t := lfS h hK; t)) fun h => have t := lfS h hK; t) fun h => have t := lfS h hK; t) fun h => have t := lfS h hK; t)) fun h => have t := lfS h hK; t) fun h => have t := lfS h hK; t)))
def law23_awake_S : Option (Bool) :=
 Option.bind (cycle_Open_S ([4] : List Int) 2 0) fun v1 =>
 Option.bind (law23_write_S 0 1 ([97#8] : List (BitVec 8))) fun z =>
 let v2 : api_Write × Unit := (z, ())
 Option.bind (cycle_Add_S v1.1 0 v2.1) fun z =>
 let v3 : api_Capture × Int × Unit := (z.1, z.2, ())
 Option.bind (law23_write_S 0 1 ([98#8] : List (BitVec 8))) fun z =>
 let v4 : api_Write × Unit := (z, ())
 Option.bind (cycle_Add_S v3.1 1 v4.1) fun z =>
 let v5 : api_Capture × Int × Unit := (z.1, z.2, ())
 Option.bind (law23_write_S 0 2 ([99#8] : List (BitVec 8))) fun z =>
 let v6 : api_Write × Unit := (z, ())
 Option.bind (cycle_Add_S v5.1 0 v6.1) fun z =>
 let v7 : api_Capture × Int × Unit := (z.1, z.2, ())
 Option.bind (cycle_Close_S v7.1 5 ([0, 1] : List Int)) fun v8 =>
 if inI (v1.2 + v3.2.1) then
 if inI ((v1.2 + v3.2.1) + v5.2.1) then
 if inI (((v1.2 + v3.2.1) + v5.2.1) + v7.2.1) then
 if inI ((((v1.2 + v3.2.1) + v5.2.1) + v7.2.1) + v8.2.2) then
 if ((((v1.2 + v3.2.1) + v5.2.1) + v7.2.1) + v8.2.2) ≠ 0 then
  some (false)
 else
  if v8.2.1.Base ≠ 0 then
   some (false)
  else
   if v8.2.1.Number ≠ 1 then
    some (false)
   else
    Option.bind (law23_write_S 0 1 ([98#8] : List (BitVec 8))) fun z =>
    let v14 : api_Write × Unit := (z, ())
    Option.bind (ref22_Same_S v8.2.1.Writes ([v14.1] : List api_Write)) fun z =>
    let v15 : Bool × Unit := (z, ())
    if ¬ (v15.1 = true) then
     some (false)
    else
     Option.bind (law23_write_S 0 1 ([98#8] : List (BitVec 8))) fun z =>
     let v16 : api_Write × Unit := (z, ())
     Option.bind (law23_write_S 0 2 ([99#8] : List (BitVec 8))) fun z =>
     let v17 : api_Write × Unit := (z, ())
     Option.bind (ref22_Same_S v8.1.Writes ([v16.1, v17.1] : List api_Write)) fun z =>
     let v18 : Bool × Unit := (z, ())
     if ¬ (v18.1 = true) then
      some (false)
     else
      Z168 v8 ()
 else none
 else none
 else none
 else none
theorem law23_awake_sound {Φ : Bool → Prop} {o} (h : law23_awake_S = some o) (hK : Φ o) : law23_awake_W Φ := by
  unfold law23_awake_S at h
  unfold law23_awake_W
  exact blS h fun _ hv h => cycle_Open_sound _ _ _ hv (blS h fun _ hv h => ⟨_, law23_write_sound _ _ _ hv rfl, blS h fun _ hv h => ⟨_, cycle_Add_sound _ _ _ hv rfl, blS h fun _ hv h => ⟨_, law23_write_sound _ _ _ hv rfl, blS h fun _ hv h => ⟨_, cycle_Add_sound _ _ _ hv rfl, blS h fun _ hv h => ⟨_, law23_write_sound _ _ _ hv rfl, blS h fun _ hv h => ⟨_, cycle_Add_sound _ _ _ hv rfl, blS h fun _ hv h => cycle_Close_sound _ _ _ hv (adS h fun h => adS h fun h => adS h fun h => adS h fun h => ifS h (fun h => have t := lfS h hK; t) fun h => ifS h (fun h => have t := lfS h hK; t) fun h => ifS h (fun h => have t := lfS h hK; t) fun h => blS h fun _ hv h => ⟨_, law23_write_sound _ _ _ hv rfl, blS h fun _ hv h => ⟨_, ref22_Same_sound _ _ hv rfl, ifS h (fun h => have t := lfS h hK; t) fun h => blS h fun _ hv h => ⟨_, law23_write_sound _ _ _ hv rfl, blS h fun _ hv h => ⟨_, law23_write_sound _ _ _ hv rfl, blS h fun _ hv h => ⟨_, ref22_Same_sound _ _ hv rfl, ifS h (fun h => have t := lfS h hK; t) fun h => law23_awake_J1_sound _ _ h hK⟩⟩⟩⟩⟩)⟩⟩⟩⟩⟩⟩)
theorem law23_awake_ok {Φ : Bool → Prop} (h : Φ true) : law23_awake_W Φ := law23_awake_sound (o := true) (by kernel_rfl) h
def mostL : List Int := List.replicate 8 4096
def cyc0 : api_Cycle := ⟨0, 0, 0, [], []⟩
theorem cycle_largest_ok {Φ : List Int → Prop} (hΦ : Φ mostL) : Z51 Φ := cycle_largest_sound (o := mostL) (by kernel_rfl) hΦ
theorem FewC.small {c : api_Cycle} (h : FewC c) : ∀ w ∈ c.Writes, w.Data.length ≤ 1000000 := fun w hw => by have := h.data w hw; omega
theorem cycE_wrs {c : api_Cycle} {sizes : List Int} (h : cycE c sizes = 0) : wrsE sizes c.Writes = 0 := by
  unfold cycE at h
  split at h
  · next q => exact absurd h q
  split at h
  · omega
  split at h
  · omega
  split at h
  · next q => exact absurd h q
  exact h
theorem wrs_fit {sizes : List Int} {l : List api_Write} (h : wrsE sizes l = 0) : ∀ w ∈ l, fitW sizes w = 0 := fun w hw => by
  obtain ⟨k, hk, rfl⟩ := List.getElem_of_mem hw
  have := ordW_fit (firstN_zero.1 h k hk)
  rwa [ix_get hk] at this
theorem cyc_parts {c : api_Cycle} {sizes : List Int} (h : cycE c sizes = 0) : 0 ≤ c.Base ∧ c.Base < c.Number ∧ c.Number ≤ 1073741824 ∧ 0 ≤ c.Time ∧ c.Time ≤ 1073741824 ∧ posR 0 c.Positions = 0 := by
  unfold cycE at h
  split at h
  · next q => exact absurd h q
  split at h
  · omega
  split at h
  · omega
  split at h
  · next q => exact absurd h q
  next q3 q4 q5 => exact ⟨by omega, by omega, by omega, by omega, by omega, Classical.not_not.1 q5⟩
theorem most_ok {Φ : List Int → Prop} (hΦ : Φ mostL) : ref22_Most_W Φ := by
  refine LoopW.upT 8 (fun k => ((k : Int), List.replicate k (4096 : Int))) rfl (fun k rec hk hr => ⟨fun _ => ⟨iL (by rw [len_snoc, List.length_replicate]; omega) (by omega), iI (by omega) (by omega), hr _ ?_⟩, fun q => by omega⟩) fun rec => ⟨fun q => by omega, fun _ => hΦ⟩
  show (_, _) = (_, List.replicate (k + 1) (4096 : Int))
  rw [List.replicate_succ']; rfl
theorem same_refl {c : api_Cycle} {Φ : Bool → Prop} (hp : c.Positions.length ≤ 1000000) (hl : c.Writes.length ≤ 1000000) (hd : ∀ w ∈ c.Writes, w.Data.length ≤ 1000000) (hΦ : Φ true) : ref23_Same_W c c Φ :=
  ⟨fun _ => ⟨fun _ => ⟨fun _ => ref23_SameInts_refl hp ⟨fun _ => ref03_SameWrites_refl hl hd hΦ, fun q => absurd rfl q⟩, fun q => absurd rfl q⟩, fun q => absurd rfl q⟩, fun q => absurd rfl q⟩
def encC (c : api_Cycle) : By := (((encI c.Base ++ encI c.Number) ++ encI c.Time) ++ encList encI c.Positions) ++ encList encW c.Writes
theorem flat_bound {α : Type} {enc : α → By} {b : Nat} : ∀ {l : List α}, (∀ x ∈ l, (enc x).length ≤ b) → (l.flatMap enc).length ≤ b * l.length
  | [], _ => Nat.zero_le _
  | x :: l, h => by
    have h1 := h x List.mem_cons_self
    have h2 := flat_bound (l := l) fun y hy => h y (List.mem_cons_of_mem _ hy)
    rw [List.flatMap_cons, List.length_append, List.length_cons, Nat.mul_add, Nat.mul_one]
    omega
theorem few_len {c : api_Cycle} (h : FewC c) : (encList encI c.Positions).length ≤ 369 ∧ (encList encW c.Writes).length ≤ 8769 ∧ (encC c).length ≤ 9165 := by
  have h1 := h.pos
  have h2 := h.len
  have p1 := encList_len encI c.Positions
  have p2 := flat_bound (enc := encI) (b := 9) (l := c.Positions) fun x _ => (encI_len x).2
  have q1 := encList_len encW c.Writes
  have q2 := flat_bound (enc := encW) (b := 219) (l := c.Writes) fun w hw => by
    have := h.data w hw
    have e := encW_len w
    have a1 := encI_len w.Volume
    have a2 := encI_len w.Start
    have a3 := encI_len (w.Data.length : Int)
    omega
  have a1 := encI_len (c.Positions.length : Int)
  have a2 := encI_len (c.Writes.length : Int)
  have b1 := encI_len c.Base
  have b2 := encI_len c.Number
  have b3 := encI_len c.Time
  refine ⟨by omega, by omega, ?_⟩
  unfold encC
  rw [List.length_append, List.length_append, List.length_append, List.length_append]
  omega
def encR (c : api_Cycle) : By × Int := if cycE c mostL ≠ 0 then ([], cycE c mostL) else (encC c, 0)
theorem cycle_Encode_ok {c : api_Cycle} {Φ : By × Int → Prop} (h : FewC c) (hΦ : Φ (encR c)) : Z93 c Φ := by
  have h1 := h.pos
  have h2 := h.len
  obtain ⟨l1, l2, l3⟩ := few_len h
  have b1 := encI_len c.Base
  have b2 := encI_len c.Number
  have b3 := encI_len c.Time
  unfold encR at hΦ
  refine ⟨(mostL, ()), cycle_largest_ok rfl, (cycE c mostL, ()), cycle_Check_ok (by omega) (by omega) h.small rfl, fun q => by rw [if_pos q] at hΦ; exact hΦ, fun q => ?_⟩
  rw [if_neg q] at hΦ
  refine LoopW.upT 3 (fun k => ((k : Int), ([c.Base, c.Number, c.Time].take k).flatMap encI)) rfl (fun k rec hk hr => ⟨fun _ => ⟨iX (by omega) (by show (k : Int) < 3; omega), ?_⟩, fun r => absurd (show (k : Int) < 3 by omega) r⟩) fun rec => ⟨fun r => absurd (show ((3 : Nat) : Int) < 3 from r) (by decide), fun _ => ?_⟩
  · have fb := flat_bound (enc := encI) (b := 9) (l := [c.Base, c.Number, c.Time].take k) fun x _ => (encI_len x).2
    rw [List.length_take] at fb
    refine wire_PutInt_ok (by omega) ⟨iI (by omega) (by omega), hr _ ?_⟩
    rw [flat_snoc encI (l := [c.Base, c.Number, c.Time]) hk]; rfl
  · have e : ([c.Base, c.Number, c.Time].take 3).flatMap encI = (encI c.Base ++ encI c.Number) ++ encI c.Time := by
      show encI c.Base ++ (encI c.Number ++ (encI c.Time ++ [])) = _
      simp only [List.append_assoc, List.append_nil]
    rw [e]
    have el : ((encI c.Base ++ encI c.Number) ++ encI c.Time).length ≤ 27 := by rw [List.length_append, List.length_append]; omega
    refine ⟨(_, ()), wire_PutInts_ok (by omega) rfl, (_, ()), wire_PutWrites_ok (by rw [List.length_append]; omega) rfl, fun r => ?_, fun _ => hΦ⟩
    have r : 65536 < ((encC c).length : Int) := r
    omega
def fin5 (a b t : Int) (p : List Int) (ws : List api_Write) (l : By) : api_Cycle × Int := if l.length ≠ 0 then (cyc0, 3) else if cycE ⟨a, b, t, p, ws⟩ mostL ≠ 0 then (cyc0, cycE ⟨a, b, t, p, ws⟩ mostL) else (⟨a, b, t, p, ws⟩, 0)
def fin4 (a b t : Int) (p : List Int) (l : By) : api_Cycle × Int := if (decList decW l).2.2 ≠ 0 then (cyc0, (decList decW l).2.2) else fin5 a b t p (decList decW l).1 (decList decW l).2.1
def fin3 (a b t : Int) (l : By) : api_Cycle × Int := if (decList decN l).2.2 ≠ 0 then (cyc0, (decList decN l).2.2) else fin4 a b t (decList decN l).1 (decList decN l).2.1
def fin2 (a b : Int) (l : By) : api_Cycle × Int := if (decN l).2.2 ≠ 0 then (cyc0, (decN l).2.2) else fin3 a b (decN l).1 (decN l).2.1
def fin1 (a : Int) (l : By) : api_Cycle × Int := if (decN l).2.2 ≠ 0 then (cyc0, (decN l).2.2) else fin2 a (decN l).1 (decN l).2.1
def fin0 (l : By) : api_Cycle × Int := if (decN l).2.2 ≠ 0 then (cyc0, (decN l).2.2) else fin1 (decN l).1 (decN l).2.1
def decR (l : By) : api_Cycle × Int := if 65536 < l.length then (cyc0, 5) else fin0 l
theorem lists_small (l1 l2 : By) : (decList decN l1).1.length ≤ 65536 ∧ (decList decW l2).1.length ≤ 65536 ∧ ∀ w ∈ (decList decW l2).1, w.Data.length ≤ 65536 :=
  ⟨(decList_all (P := fun _ => True) (fun _ _ => trivial) l1).2, (decList_all (P := fun w : api_Write => w.Data.length ≤ 65536) (fun _ h => (decW_ok h).2) l2).2, (decList_all (P := fun w : api_Write => w.Data.length ≤ 65536) (fun _ h => (decW_ok h).2) l2).1⟩
theorem cycle_Decode_ok {x0 : By} {Φ : api_Cycle × Int → Prop} (hx : x0.length ≤ 1000000) (hΦ : Φ (decR x0)) : Z114 x0 Φ := by
  unfold decR at hΦ
  refine ⟨fun q => by rw [if_pos (by omega)] at hΦ; exact hΦ, fun q => ⟨fun _ => ⟨by decide, wire_Int_ok hx ?_⟩, fun r => absurd (by decide) r⟩⟩
  rw [if_neg (by omega)] at hΦ
  unfold fin0 at hΦ
  refine ⟨fun r => by rw [if_pos r] at hΦ; exact hΦ, fun r => ⟨by decide, fun _ => ⟨by decide, ?_⟩, fun r => absurd (by decide) r⟩⟩
  rw [if_neg (fun t => r t)] at hΦ
  have s1 := decN_ok (Classical.not_not.1 r)
  generalize (decN x0).1 = a at hΦ
  generalize (decN x0).2.1 = l1 at hΦ s1
  unfold fin1 at hΦ
  refine wire_Int_ok (by omega) ⟨fun r => by rw [if_pos r] at hΦ; exact hΦ, fun r => ⟨by decide, fun _ => ⟨by decide, ?_⟩, fun r => absurd (by decide) r⟩⟩
  rw [if_neg (fun t => r t)] at hΦ
  have s2 := decN_ok (Classical.not_not.1 r)
  generalize (decN l1).1 = b at hΦ
  generalize (decN l1).2.1 = l2 at hΦ s2
  unfold fin2 at hΦ
  refine wire_Int_ok (by omega) ⟨fun r => by rw [if_pos r] at hΦ; exact hΦ, fun r => ⟨by decide, fun r => absurd r (by decide), fun _ => ?_⟩⟩
  rw [if_neg (fun t => r t)] at hΦ
  have s3 := decN_ok (Classical.not_not.1 r)
  generalize (decN l2).1 = t at hΦ
  generalize (decN l2).2.1 = l3 at hΦ s3
  unfold fin3 at hΦ
  refine wire_Ints_ok (by omega) ⟨fun r => by rw [if_pos r] at hΦ; exact hΦ, fun r => ?_⟩
  rw [if_neg (fun t => r t)] at hΦ
  have s4 := decList_short (one := decN) (fun l h => (decN_ok h).2.2) (Classical.not_not.1 r)
  unfold fin4 at hΦ
  refine wire_Writes_ok (by omega) ⟨fun r => by rw [if_pos r] at hΦ; exact hΦ, fun r => ?_⟩
  rw [if_neg (fun t => r t)] at hΦ
  unfold fin5 at hΦ
  obtain ⟨k1, k2, k3⟩ := lists_small l3 (decList decN l3).2.1
  refine ⟨fun r => by rw [if_pos (by omega)] at hΦ; exact hΦ, fun r => ⟨(mostL, ()), cycle_largest_ok rfl, (_, ()), cycle_Check_ok (by show (decList decN l3).1.length ≤ _; omega) (by show (decList decW _).1.length ≤ _; omega) (fun w hw => by have := k3 w hw; omega) rfl, fun v => ?_, fun v => ?_⟩⟩
  · rw [if_neg (by omega), if_pos v] at hΦ; exact hΦ
  · rw [if_neg (by omega), if_neg v] at hΦ; exact hΦ
def VW (w : api_Write) : Prop := InN w.Volume ∧ InN w.Start ∧ w.Data.length ≤ 65536
theorem cdcW : Cdc VW encW decW where
  back w r h := by
    obtain ⟨h1, h2, h3⟩ := h
    unfold encW
    rw [List.append_assoc, List.append_assoc]
    have e1 := cdcI.back w.Volume (encI w.Start ++ (encList secBy w.Data ++ r)) h1
    have e2 := cdcI.back w.Start (encList secBy w.Data ++ r) h2
    have e3 := cdcS.list.back w.Data r ⟨h3, fun _ _ => trivial⟩
    unfold decW
    rw [e1, if_neg (fun t => t rfl), e2, if_neg (fun t => t rfl), e3, if_neg (fun t => t rfl)]
  torn w k h hk := by
    obtain ⟨h1, h2, h3⟩ := h
    unfold encW at hk ⊢
    refine seq_torn (f := fun q => if q.2.2 ≠ 0 then (w0, [], q.2.2) else if (decN q.2.1).2.2 ≠ 0 then (w0, [], (decN q.2.1).2.2) else if (decList decSc (decN q.2.1).2.1).2.2 ≠ 0 then (w0, [], (decList decSc (decN q.2.1).2.1).2.2) else (⟨q.1, (decN q.2.1).1, (decList decSc (decN q.2.1).2.1).1⟩, (decList decSc (decN q.2.1).2.1).2.1, 0)) cdcI h1 (fun q hq => ?_) (fun j hj => ?_) hk
    · show (if q.2.2 ≠ 0 then ((w0, [], q.2.2) : api_Write × By × Int) else _).2.2 = 10
      rw [if_pos (by rw [hq]; decide)]; exact hq
    · show (if (0 : Int) ≠ 0 then ((w0, [], 0) : api_Write × By × Int) else _).2.2 = 10
      rw [if_neg (fun t => t rfl)]
      refine seq_torn (f := fun q => if q.2.2 ≠ 0 then (w0, [], q.2.2) else if (decList decSc q.2.1).2.2 ≠ 0 then (w0, [], (decList decSc q.2.1).2.2) else (⟨w.Volume, q.1, (decList decSc q.2.1).1⟩, (decList decSc q.2.1).2.1, 0)) cdcI h2 (fun q hq => ?_) (fun i hi => ?_) hj
      · show (if q.2.2 ≠ 0 then ((w0, [], q.2.2) : api_Write × By × Int) else _).2.2 = 10
        rw [if_pos (by rw [hq]; decide)]; exact hq
      · show (if (0 : Int) ≠ 0 then ((w0, [], 0) : api_Write × By × Int) else _).2.2 = 10
        rw [if_neg (fun t => t rfl)]
        have e := cdcS.list.torn w.Data i ⟨h3, fun _ _ => trivial⟩ hi
        show (if (decList decSc ((encList secBy w.Data).take i)).2.2 ≠ 0 then ((w0, [], (decList decSc ((encList secBy w.Data).take i)).2.2) : api_Write × By × Int) else _).2.2 = 10
        rw [if_pos (by rw [e]; decide)]; exact e
structure OkC (c : api_Cycle) : Prop where
  base : InN c.Base
  num : InN c.Number
  time : InN c.Time
  pos : c.Positions.length ≤ 65536 ∧ ∀ x ∈ c.Positions, InN x
  wrs : c.Writes.length ≤ 65536 ∧ ∀ w ∈ c.Writes, VW w
theorem okC_of {c : api_Cycle} (f : FewC c) (h : cycE c mostL = 0) : OkC c := by
  obtain ⟨p1, p2, p3, p4, p5, p6⟩ := cyc_parts h
  have h1 := f.pos
  have h2 := f.len
  have hw := wrs_fit (cycE_wrs h)
  refine ⟨⟨p1, by omega⟩, ⟨by omega, by omega⟩, ⟨p4, by omega⟩, ⟨by omega, fun x hx => ?_⟩, ⟨by omega, fun w hx => ?_⟩⟩
  · unfold posR at p6
    split at p6
    · omega
    obtain ⟨k, hk, rfl⟩ := List.getElem_of_mem hx
    have := firstN_zero.1 p6 k hk
    rw [ix_get hk] at this
    split at this
    · omega
    · exact ⟨by omega, by omega⟩
  · have := hw w hx
    have d := f.data w hx
    unfold fitW at this
    split at this
    · omega
    · rename_i hv
      split at this
      · omega
      · split at this
        · omega
        · rename_i hs
          have hv : ¬ (w.Volume < 0 ∨ (8 : Int) ≤ w.Volume) := hv
          obtain ⟨v, ev⟩ := Int.eq_ofNat_of_zero_le (show 0 ≤ w.Volume by omega)
          have e : ix mostL w.Volume = 4096 := by
            rw [ev, ix_get (by show v < 8; omega)]
            exact List.getElem_replicate _
          rw [e] at hs
          exact ⟨⟨by omega, by omega⟩, ⟨by omega, by omega⟩, by omega⟩
theorem encC_assoc (c : api_Cycle) (r : By) : encC c ++ r = encI c.Base ++ (encI c.Number ++ (encI c.Time ++ (encList encI c.Positions ++ (encList encW c.Writes ++ r)))) := by
  unfold encC
  simp only [List.append_assoc]
theorem dec_back {c : api_Cycle} (h : OkC c) (r : By) : fin0 (encC c ++ r) = fin5 c.Base c.Number c.Time c.Positions c.Writes r := by
  rw [encC_assoc]
  have e1 := cdcI.back c.Base (encI c.Number ++ (encI c.Time ++ (encList encI c.Positions ++ (encList encW c.Writes ++ r)))) h.base
  have e2 := cdcI.back c.Number (encI c.Time ++ (encList encI c.Positions ++ (encList encW c.Writes ++ r))) h.num
  have e3 := cdcI.back c.Time (encList encI c.Positions ++ (encList encW c.Writes ++ r)) h.time
  have e4 := cdcI.list.back c.Positions (encList encW c.Writes ++ r) h.pos
  have e5 := cdcW.list.back c.Writes r h.wrs
  unfold fin0
  rw [e1, if_neg (fun t => t rfl)]
  unfold fin1
  rw [e2, if_neg (fun t => t rfl)]
  unfold fin2
  rw [e3, if_neg (fun t => t rfl)]
  unfold fin3
  rw [e4, if_neg (fun t => t rfl)]
  unfold fin4
  rw [e5, if_neg (fun t => t rfl)]
theorem seq_torn2 {α : Type} {V : α → Prop} {enc : α → By} {dec : Dec α} (h : Cdc V enc dec) {x : α} (hv : V x) {m : By} {g : α → By → api_Cycle × Int} (h2 : ∀ j, j < m.length → (g x (m.take j)).2 = 10) {k : Nat} (hk : k < (enc x ++ m).length) : (if (dec ((enc x ++ m).take k)).2.2 ≠ 0 then (cyc0, (dec ((enc x ++ m).take k)).2.2) else g (dec ((enc x ++ m).take k)).1 (dec ((enc x ++ m).take k)).2.1).2 = 10 := by
  rw [List.length_append] at hk
  rw [List.take_append]
  rcases Nat.lt_or_ge k (enc x).length with hlt | hge
  · rw [show k - (enc x).length = 0 by omega, List.take_zero, List.append_nil]
    have e := h.torn x k hv hlt
    rw [if_pos (by rw [e]; decide)]; exact e
  · rw [List.take_of_length_le hge, h.back x _ hv, if_neg (fun t => t rfl)]
    exact h2 _ (by omega)
theorem dec_torn {c : api_Cycle} (h : OkC c) {k : Nat} (hk : k < (encC c).length) : (fin0 ((encC c).take k)).2 = 10 := by
  have e := encC_assoc c []
  rw [List.append_nil] at e
  rw [e] at hk ⊢
  refine seq_torn2 (g := fun a l => fin1 a l) cdcI h.base (fun j hj => ?_) hk
  refine seq_torn2 (g := fun b l => fin2 c.Base b l) cdcI h.num (fun j hj => ?_) hj
  refine seq_torn2 (g := fun t l => fin3 c.Base c.Number t l) cdcI h.time (fun j hj => ?_) hj
  refine seq_torn2 (g := fun p l => fin4 c.Base c.Number c.Time p l) cdcI.list h.pos (fun j hj => ?_) hj
  exact seq_torn2 (g := fun ws l => fin5 c.Base c.Number c.Time c.Positions ws l) cdcW.list h.wrs (m := []) (fun j hj => absurd hj (Nat.not_lt_zero j)) hj
theorem cycleReturns_law (c : api_Cycle) (cut : BitVec 16) (_ : Rg.rg c) : Z117 c cut fun y => y = true := by
  refine ref23_Few_ok ⟨fun _ => law23_awake_ok rfl, fun f => ?_⟩
  have f := fewC_of (Classical.not_not.1 f)
  have f1 := f.pos
  have f2 := f.len
  obtain ⟨l1, l2, l3⟩ := few_len f
  refine cycle_Encode_ok f ?_
  by_cases h : cycE c mostL ≠ 0
  · have e : encR c = ([], cycE c mostL) := by unfold encR; rw [if_pos h]
    rw [e]
    exact ⟨fun _ => ⟨(true, ()), law23_awake_ok rfl, fun _ => ⟨fun _ => ⟨(mostL, ()), most_ok rfl, (cycE c mostL, ()), cycle_Check_ok (by omega) (by omega) f.small rfl, decide_eq_true rfl⟩, fun r => absurd rfl r⟩, fun r => absurd rfl r⟩, fun q => absurd h q⟩
  · have e : encR c = (encC c, 0) := by unfold encR; rw [if_neg h]
    rw [e]
    have ok := okC_of f (Classical.not_not.1 h)
    have hpos : 0 < (encC c).length := by
      have := encI_len c.Base
      unfold encC
      rw [List.length_append, List.length_append, List.length_append, List.length_append]; omega
    have d1 : decR (encC c) = (c, 0) := by
      have := dec_back ok []
      rw [List.append_nil] at this
      unfold decR
      rw [if_neg (by omega), this]
      unfold fin5
      rw [if_neg (fun t => t rfl), if_neg h]
    have d3 : (decR (([] ++ encC c) ++ [0#8])).2 = 3 := by
      rw [List.nil_append]
      unfold decR
      rw [if_neg (by rw [len_snoc]; omega), dec_back ok [0#8]]
      unfold fin5
      rw [if_pos (by decide)]
    refine ⟨fun q => absurd rfl q, fun _ => cycle_Decode_ok (by show (encC c).length ≤ _; omega) ?_⟩
    show _ ∧ _
    rw [d1]
    refine ⟨fun q => absurd rfl q, fun _ => same_refl (by omega) (by omega) f.small ⟨fun q => absurd rfl q, fun _ => ⟨fun q => absurd (show ((encC c).length : Int) = 0 from q) (by omega), fun _ => ?_⟩⟩⟩
    have hc := cut.isLt
    have m0 := Int.emod_nonneg (cut.toNat : Int) (b := ((encC c).length : Int)) (by omega)
    have m1 := Int.emod_lt_of_pos (cut.toNat : Int) (b := ((encC c).length : Int)) (by omega)
    generalize hj : (cut.toNat : Int) % ((encC c).length : Int) = j at m0 m1
    obtain ⟨k, rfl⟩ := Int.eq_ofNat_of_zero_le m0
    have d2 : (decR (sub (encC c) 0 (k : Int))).2 = 10 := by
      rw [sub_take]
      unfold decR
      rw [if_neg (by rw [List.length_take]; omega)]
      exact dec_torn ok (by omega)
    refine ⟨iI (by omega) (by omega), ⟨by omega, by show ((encC c).length : Int) ≠ 0; omega⟩, ?_, ?_⟩
    · exact iS (by omega) (by omega) (by show (k : Int) ≤ ((encC c).length : Int); omega)
    · refine cycle_Decode_ok (by show (sub (encC c) 0 (k : Int)).length ≤ _; rw [sub_take, List.length_take]; omega) ⟨iL (by show (encC c).length ≤ _; omega) (by omega), iL (by rw [len_snoc]; show (encC c).length + 1 ≤ _; omega) (by omega), cycle_Decode_ok (by rw [len_snoc]; show (encC c).length + 1 ≤ _; omega) (law23_awake_ok ⟨fun _ => ⟨fun _ => decide_eq_true d3, fun q => absurd d2 q⟩, fun q => absurd rfl q⟩)⟩
end Go.Proofs.YtcobdlnefjdhgaaGreat
namespace Go.Proofs.YtcobdlnefjdhgaaGreat
open Go.RowKit Go.ChangeShapes Go.WideShapes Go.ChangeAt
set_option maxRecDepth 100000 in
theorem cycleReturns_lifted (os : Os) (started : os.Started) (H : Type) (enc : TypeId × Value → H) :
    ReturnsInHanded {} Tryz.checked os 4 .any (Rows.cycleReturnsSpec.pre6 enc Tryz.prog Tryz.f4 Rows.cycleReturnsRow.domain false) (Rows.cycleReturnsSpec.post enc Tryz.prog Tryz.f4 false true false false) := by
  refine returnsInHanded_of_change (C := Tryz.checked) Tryz.own started (by kernel_rfl) Tryz.func4
    (ChangeSpec.witness6 (enc := enc) (C := Tryz.checked) false ⟨#[], #[.agg #[.int .i64 (0), .int .i64 (0), .int .i64 (0), .slice none 0 0, .slice none 0 0], .int .u16 0], []⟩ 8 (by kernel_rfl) (by kernel_rfl) (by kernel_rfl) (by kernel_rfl)) ?_
  intro W base args ds gs before hval0 hW _ _
  have hval : ∀ (j : Nat) t v, Tryz.f4.params[j]? = some t → args[j]? = some v → Value.okWide Tryz.prog W .any base t v := hval0
  have hW' := hW
  obtain ⟨p, q, hA0, hV, hpq, _, _⟩ := hW
  have hA : DataW.TrodAll enc Tryz.prog W 0 (fun _ => true) true Tryz.f4.params.toList args.toList ds p := hA0
  rw [Tryz.params4] at hA hval
  obtain ⟨v0, v1, d0, d1, p0, p1, rfl, rfl, rfl, h0, h1⟩ := trodAll_two hA
  obtain ⟨rfl, rfl⟩ := trodVars_none hV
  obtain ⟨ks0, x0, rfl, hr0, hg0⟩ := open_strD Tryz.underlying25 rd25 (hval 0 25 v0 rfl rfl) h0
  obtain ⟨x1, rfl⟩ := open_u16D Tryz.underlying40 (hval 1 40 v1 rfl rfl) h1
  refine Calls.mono ((RetP.toV (y := true) (F := fun z => .bool z) (RetP.mono (ok4 (x0, x1, ()) (fun y => y.1 = true) (cycleReturns_law x0 x1 hg0) (HW W) [.agg ks0.toArray, .int .u16 (x1.toNat : Int)] trivial ⟨_, ks0, _, rfl, by rw [pkw25], (show Dt.rd (α := api_Cycle) (HW W) _ _ from hr0), ⟨_, [.int .u16 (x1.toNat : Int)], _, rfl, by rw [pkw40], (show Dt.rd (α := BitVec 16) (HW W) _ _ from rfl), rfl⟩⟩) fun _ _ _ _ ⟨y, hy, hr⟩ => lawRes y hy hr)) W fun b o e => e) ?_
  rintro e W' ⟨v, _, rfl, _, _, _, hb, rfl⟩
  exact ⟨_, rfl, post_law Tryz.laidOut Tryz.underlying4 rfl (by kernel_rfl) hW' rfl rfl hb⟩
theorem cycleReturns_holds : Rows.CycleReturnsSaid :=
  OpenClaim.holds_of_wide 4 Tryz.f4 rfl rfl rfl rfl rfl rfl rfl ⟨rfl, rfl, rfl, rfl, rfl⟩ rfl rfl rfl rfl rfl (by kernel_rfl) Tryz.func4 (by kernel_rfl)
    (of_decide_eq_true (by kernel_rfl)) (by unfold Func.isWrapper; first | (rw [if_pos (by decide +kernel)]; kernel_rfl) | (rw [if_neg (by decide +kernel)]; exact ⟨rfl, rfl⟩))
    (fun os started H enc _ => cycleReturns_lifted os started H enc)
end Go.Proofs.YtcobdlnefjdhgaaGreat
