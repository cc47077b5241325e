/- Proved: the tied card of the statement TrackerEncodes: for every argument that can be read the law returns true and leaves its arguments as they were. Conditions: the row's own alone: the table math/bits.deBruijn64tab reads as listed, which the card ties to the program's text. -/
import Derived.Test.YtgojhiknicmopaaGreatDoorM6
namespace Go.Proofs.YtgojhiknicmopaaGreatDoor
open Go.RowKit
def x00 : api_Extent := ⟨0, 0⟩
def decX : Dec api_Extent := fun l =>
  if (decN l).2.2 ≠ 0 then (x00, [], (decN l).2.2)
  else if (decN (decN l).2.1).2.2 ≠ 0 then (x00, [], (decN (decN l).2.1).2.2)
  else (⟨(decN l).1, (decN (decN l).2.1).1⟩, (decN (decN l).2.1).2.1, 0)
def OkX (e : api_Extent) : Prop := (0 ≤ e.Start ∧ e.Start ≤ 9007199254740991) ∧ 0 ≤ e.Count ∧ e.Count ≤ 9007199254740991
theorem decX_ok {l : By} (h : (decX l).2.2 = 0) : (decX l).2.1.length ≤ l.length ∧ OkX (decX l).1 := by
  unfold decX at h ⊢
  by_cases h1 : (decN l).2.2 = 0
  · rw [if_neg (fun t => t h1)] at h ⊢
    by_cases h2 : (decN (decN l).2.1).2.2 = 0
    · rw [if_neg (fun t => t h2)]
      have a1 := decN_ok h1
      have a2 := decN_ok h2
      exact ⟨by show (decN (decN l).2.1).2.1.length ≤ _; omega, ⟨a1.1, a1.2.1⟩, a2.1, a2.2.1⟩
    · rw [if_pos h2] at h; exact absurd h h2
  · rw [if_pos h1] at h; exact absurd h h1
theorem decXs_all (l : By) : (∀ x ∈ (decList decX l).1, OkX x) ∧ (decList decX l).1.length ≤ 65536 := decList_all (fun _ h => (decX_ok h).2) l
theorem decXs_short {l : By} (h : (decList decX l).2.2 = 0) : (decList decX l).2.1.length ≤ l.length := decList_short (fun _ h => (decX_ok h).1) h
theorem wire_Extents_ok {x0 : By} {Φ : List api_Extent × By × Int → Prop} (hx : x0.length ≤ 1000000) (hΦ : Φ (decList decX x0)) : Z101 x0 Φ := by
  have j1 : ∀ e l, e ≠ 0 → Φ ([], [], e) → Z88 Φ (e, l, []) := fun e l he h => ⟨fun _ => h, fun t => absurd he t⟩
  show LoopW (Z100 x0 (Z98 (Z97 (Z88 Φ) Φ) Φ) Φ) (0, 0)
  generalize hJ : Z97 (Z88 Φ) Φ = J2
  have e : Z100 x0 (Z98 J2 Φ) Φ = NumStep x0 (fun n e l => LenJ J2 (n, e, l)) := by funext ⟨a, b⟩ rec; rfl
  rw [e]
  refine len_ways (fun h n l => ?_) fun h => ?_
  · rw [← hJ]
    rw [dl_err h] at hΦ
    exact ⟨fun _ => j1 _ _ h hΦ, fun t => absurd h t⟩
  · rw [← hJ]
    rw [dl_ok h] at hΦ
    obtain ⟨b0, b1, b2⟩ := decLen_ok h
    refine ⟨fun t => absurd rfl t, fun _ => ?_⟩
    generalize hn : (decLen x0).1.toNat = n at hΦ
    have hn2 : (decLen x0).1 = (n : Int) := by omega
    rw [hn2]
    refine decF_loop (one := decX) (Ψ := Φ) (fun l hl => (decX_ok hl).1) (by omega) (fun k l acc rec hk ha hl f1 f2 => ⟨fun _ => ?_, fun t => absurd (show (k : Int) < (n : Int) by omega) t⟩) (fun l acc rec ha hl hf => ⟨fun t => absurd t (by omega), fun _ => ⟨fun t => absurd rfl t, fun _ => clone_by hl hf⟩⟩) hΦ
    generalize hJ4 : Z89 (Z88 Φ) (k : Int) acc rec Φ = J4
    show LoopW (Z95 l (Z93 J4 Φ) Φ) (0, 0)
    have e2 : Z95 l (Z93 J4 Φ) Φ = NumStep l (fun n e l => Z93 J4 Φ (n, e, l)) := by funext ⟨a, b⟩ rec; rfl
    rw [e2]
    have j4 : ∀ a b e l, e ≠ 0 → Φ ([], [], e) → J4 (a, b, e, l) := fun a b e l he h => by
      rw [← hJ4]
      exact ⟨fun _ => j1 _ _ he h, fun t => absurd he t⟩
    refine num_ways (fun t => ⟨fun _ => j4 _ _ _ _ t ?_, fun u => absurd t u⟩) fun t => ⟨fun u => absurd rfl u, fun _ => ?_⟩
    · have : decX l = (x00, [], (decN l).2.2) := by unfold decX; rw [if_pos t]
      rw [this] at f1
      exact f1 t
    generalize hl1 : (decN l).2.1 = l1
    show LoopW (Z92 l1 (Z90 J4 (decN l).1 Φ) Φ) (0, 0)
    rw [show Z92 l1 (Z90 J4 (decN l).1 Φ) Φ = NumStep l1 (fun n e l' => Z90 J4 (decN l).1 Φ (e, n, l')) by funext ⟨a, b⟩ rec; rfl]
    refine num_ways (fun u => j4 _ _ _ _ u ?_) fun u => ?_
    · have : decX l = (x00, [], (decN l1).2.2) := by unfold decX; rw [if_neg (fun q => q t), hl1, if_pos u]
      rw [this] at f1
      exact f1 u
    · show J4 ((decN l).1, (decN l1).1, 0, (decN l1).2.1)
      rw [← hJ4]
      have : decX l = (⟨(decN l).1, (decN l1).1⟩, (decN l1).2.1, 0) := by unfold decX; rw [if_neg (fun q => q t), hl1, if_neg (fun q => q u)]
      rw [this] at f2
      exact ⟨fun q => absurd rfl q, fun _ => ⟨iL (by rw [len_snoc]; omega) (by omega), iI (by omega) (by omega), f2 rfl⟩⟩
theorem ref03_Extents_ok {x0 : By} {Φ : List api_Extent × By × Int → Prop} (hx : x0.length ≤ 1000000) (hΦ : Φ (decList decX x0)) : Z117 x0 Φ := by
  refine ref03_length_ok hx ⟨fun h => by rw [dl_err h] at hΦ; exact hΦ, fun h => ?_⟩
  have h : (decLen x0).2.2 = 0 := Classical.not_not.1 h
  rw [dl_ok h] at hΦ
  obtain ⟨b0, b1, b2⟩ := decLen_ok h
  generalize hq : decLen x0 = q at *
  generalize hn : q.1.toNat = n at hΦ
  have hn2 : q.1 = (n : Int) := by omega
  refine decF_loop (one := decX) (Ψ := Φ) (fun l hl => (decX_ok hl).1) (by omega) (fun k l acc rec hk ha hl f1 f2 => ⟨fun _ => ref03_Int_ok hl ⟨fun t => ?_, fun t => ?_⟩, fun t => absurd (show (k : Int) < q.1 by omega) t⟩) (fun l acc rec ha hl hf => ⟨fun t => absurd t (by omega), fun _ => hf⟩) hΦ
  · have : decX l = (x00, [], (decN l).2.2) := by unfold decX; rw [if_pos t]
    rw [this] at f1
    exact f1 t
  · have t := Classical.not_not.1 t
    have s1 := decN_ok t
    refine ref03_Int_ok (by omega) ⟨fun u => ?_, fun u => ?_⟩
    · have : decX l = (x00, [], (decN (decN l).2.1).2.2) := by unfold decX; rw [if_neg (fun q => q t), if_pos u]
      rw [this] at f1
      exact f1 u
    · have : decX l = (⟨(decN l).1, (decN (decN l).2.1).1⟩, (decN (decN l).2.1).2.1, 0) := by unfold decX; rw [if_neg (fun q => q t), if_neg u]
      rw [this] at f2
      exact ⟨iL (by rw [len_snoc]; omega) (by omega), iI (by omega) (by omega), f2 rfl⟩
def extA (n : Int) : Int → List api_Extent → Int
  | _, [] => 0
  | a, e :: r => if e.Count ≤ 0 then 1 else if e.Start < 0 ∨ n - e.Start < e.Count then 2 else if e.Start < a then 3 else extA n (e.Start + e.Count + 1) r
theorem extA_cons (n a : Int) (e : api_Extent) (r : List api_Extent) : extA n a (e :: r) = if e.Count ≤ 0 then 1 else if e.Start < 0 ∨ n - e.Start < e.Count then 2 else if e.Start < a then 3 else extA n (e.Start + e.Count + 1) r := rfl
def extE (l : List api_Extent) (n : Int) : Int := if n < 0 ∨ 4096 < n then 2 else extA n 0 l
theorem ext_loop {n : Int} {l : List api_Extent} {Ψ : Int → Prop} {d : Int} {step : (Int × Int) → ((Int × Int) → Prop) → Prop}
    (h1 : ∀ (k : Nat) (a : Int) rec, k < l.length → 0 ≤ a → a ≤ 5000 → ((ix l (k : Int)).Count ≤ 0 → Ψ 1) → (¬ (ix l (k : Int)).Count ≤ 0 → ((ix l (k : Int)).Start < 0 ∨ n - (ix l (k : Int)).Start < (ix l (k : Int)).Count) → Ψ 2) → (¬ (ix l (k : Int)).Count ≤ 0 → ¬ ((ix l (k : Int)).Start < 0 ∨ n - (ix l (k : Int)).Start < (ix l (k : Int)).Count) → (ix l (k : Int)).Start < a → Ψ 3) →
      (¬ (ix l (k : Int)).Count ≤ 0 → ¬ ((ix l (k : Int)).Start < 0 ∨ n - (ix l (k : Int)).Start < (ix l (k : Int)).Count) → ¬ (ix l (k : Int)).Start < a → rec ((ix l (k : Int)).Start + (ix l (k : Int)).Count + 1 - d, (k : Int) + 1)) → step (a - d, (k : Int)) rec)
    (h2 : ∀ (a : Int) rec, Ψ 0 → step (a - d, (l.length : Int)) rec) (hn : n ≤ 4096) (hΨ : Ψ (extA n 0 l)) : LoopW step (0 - d, 0) := by
  refine LoopW.of_inv (fun s => ∃ (k : Nat) (a : Int), s = (a - d, (k : Int)) ∧ k ≤ l.length ∧ 0 ≤ a ∧ a ≤ 5000 ∧ Ψ (extA n a (l.drop k))) (fun s => l.length - s.2.toNat) ?_ ⟨0, 0, rfl, Nat.zero_le _, by omega, by omega, hΨ⟩
  rintro _ rec ⟨k, a, rfl, hk, ha, ha2, hΨ⟩ hrec
  rcases Nat.lt_or_ge k l.length with hlt | hge
  · rw [drop_ix hlt, extA_cons] at hΨ
    refine h1 k a rec hlt ha ha2 (fun q => by rw [if_pos q] at hΨ; exact hΨ) (fun q q2 => by rw [if_neg q, if_pos q2] at hΨ; exact hΨ) (fun q q2 q3 => by rw [if_neg q, if_neg q2, if_pos q3] at hΨ; exact hΨ) fun q q2 q3 => ?_
    rw [if_neg q, if_neg q2, if_neg q3] at hΨ
    refine hrec _ ⟨k + 1, _, rfl, hlt, by omega, by omega, hΨ⟩ ?_
    show l.length - ((k : Int) + 1).toNat < l.length - ((k : Int)).toNat
    omega
  · obtain rfl : k = l.length := by omega
    rw [List.drop_eq_nil_of_le (Nat.le_refl _)] at hΨ
    exact h2 a rec hΨ
theorem extent_Check_ok {l : List api_Extent} {n : Int} {Φ : Int → Prop} (hl : l.length ≤ 1000000) (hr : ∀ e ∈ l, OkX e) (hΦ : Φ (extE l n)) : Z104 l n Φ := by
  unfold extE at hΦ
  refine ⟨fun q => by rw [if_pos (.inl q)] at hΦ; exact hΦ, fun q => ⟨fun q2 => by rw [if_pos (.inr q2)] at hΦ; exact hΦ, fun q2 => ?_⟩⟩
  rw [if_neg (by omega)] at hΦ
  refine ext_loop (n := n) (l := l) (Ψ := Φ) (d := 0) (fun k a rec hk ha ha2 f1 f2 f3 f4 => ?_) (fun a rec f => ⟨fun z => absurd (show (l.length : Int) < (l.length : Int) from z) (by omega), fun _ => f⟩) (by omega) hΦ
  have hx : inX (k : Int) l.length := iX (by omega) (by omega)
  obtain ⟨⟨r1, r2⟩, r3, r4⟩ := hr _ (ix_mem hx)
  generalize he : ix l (k : Int) = e at *
  simp only [Int.sub_zero] at f4 ⊢
  refine ⟨fun _ => ⟨hx, fun c => ?_, fun c => ?_⟩, fun z => absurd (show (k : Int) < (l.length : Int) by omega) z⟩
  · rw [he] at c; exact f1 c
  · rw [he] at c
    have J : ∀ b : Bool, (b = true ↔ (e.Start < 0 ∨ n - e.Start < e.Count)) → Z102 l a (k : Int) rec Φ b := fun b hb => by
      unfold Z102
      rw [he]
      exact ⟨fun z => f2 c (hb.1 z), fun z => ⟨fun s => f3 c (fun y => z (hb.2 y)) s, fun s => ⟨iI (by omega) (by omega), iI (by omega) (by omega), iI (by omega) (by omega), f4 c (fun y => z (hb.2 y)) s⟩⟩⟩
    rw [he]
    exact ⟨fun z => J true ⟨fun _ => .inl z, fun _ => rfl⟩, fun z => ⟨iI (by omega) (by omega), J _ (by rw [decide_eq_true_iff]; omega)⟩⟩
theorem ref01_Check_ok {l : List api_Extent} {n : Int} {Φ : Int → Prop} (hl : l.length ≤ 1000000) (hr : ∀ e ∈ l, OkX e) (hΦ : Φ (extE l n)) : ref01_Check_W l n Φ := by
  unfold extE at hΦ
  refine ⟨fun q => by rw [if_pos (.inl q)] at hΦ; exact hΦ, fun q => ⟨fun q2 => by rw [if_pos (.inr q2)] at hΦ; exact hΦ, fun q2 => ?_⟩⟩
  rw [if_neg (by omega)] at hΦ
  refine ext_loop (n := n) (l := l) (Ψ := Φ) (d := 2) (fun k a rec hk ha ha2 f1 f2 f3 f4 => ?_) (fun a rec f => ⟨fun z => absurd (show (l.length : Int) < (l.length : Int) from z) (by omega), fun _ => f⟩) (by omega) hΦ
  have hx : inX (k : Int) l.length := iX (by omega) (by omega)
  obtain ⟨⟨r1, r2⟩, r3, r4⟩ := hr _ (ix_mem hx)
  refine ⟨fun _ => ⟨hx, f1, fun c => ⟨hx, ?_⟩⟩, fun z => absurd (show (k : Int) < (l.length : Int) by omega) z⟩
  have W : ∀ b : Bool, (b = true ↔ ¬ ((ix l (k : Int)).Start < 0 ∨ n - (ix l (k : Int)).Start < (ix l (k : Int)).Count)) → (¬ (b = true) → Φ 2) ∧ (¬ (¬ (b = true)) → inX (k : Int) l.length ∧ inI (a - 2 + 2) ∧ ((ix l (k : Int)).Start < a - 2 + 2 → Φ 3) ∧ (¬ ((ix l (k : Int)).Start < a - 2 + 2) → inX (k : Int) l.length ∧ inX (k : Int) l.length ∧ inI ((ix l (k : Int)).Start + (ix l (k : Int)).Count) ∧ inI (((ix l (k : Int)).Start + (ix l (k : Int)).Count) - 1) ∧ inI ((k : Int) + 1) ∧ rec ((((ix l (k : Int)).Start + (ix l (k : Int)).Count) - 1), (k : Int) + 1))) := fun b hb => by
    refine ⟨fun z => f2 c (Classical.not_not.1 fun y => z (hb.2 y)), fun z => ?_⟩
    have z := hb.1 (Classical.not_not.1 z)
    refine ⟨hx, iI (by omega) (by omega), fun s => f3 c z (by omega), fun s => ⟨hx, hx, iI (by omega) (by omega), iI (by omega) (by omega), iI (by omega) (by omega), ?_⟩⟩
    have := f4 c z (by omega)
    rwa [show (ix l (k : Int)).Start + (ix l (k : Int)).Count + 1 - 2 = (ix l (k : Int)).Start + (ix l (k : Int)).Count - 1 by omega] at this
  exact ⟨fun s => ⟨fun c2 => ⟨iI (by omega) (by omega), W _ (by rw [decide_eq_true_iff]; omega)⟩, fun c2 => W false (by constructor; (intro z; cases z); (intro z; omega))⟩, fun s => W false (by constructor; (intro z; cases z); (intro z; omega))⟩
def toP (e : api_Extent) : Int × Int := (e.Start, e.Count)
theorem toP_get {es : List api_Extent} {k : Nat} : (es.map toP).getD k (0, 0) = toP (ix es (k : Int)) := by
  show _ = toP (es.getD k default)
  rw [List.getD_eq_getElem?_getD, List.getD_eq_getElem?_getD, List.getElem?_map]
  cases es[k]? <;> rfl
def fromE (n : Int) (es : List api_Extent) : api_Bitmap × Int := bmOf (fromR (newR n) (es.map toP))
theorem bitmap_FromExtents_ok {n : Int} {es : List api_Extent} {Φ : api_Bitmap × Int → Prop} (h0 : 0 ≤ n) (h1 : n ≤ 4096) (hl : es.length ≤ 1000000) (hΦ : Φ (fromE n es)) : Z106 n es Φ := by
  unfold fromE at hΦ
  rw [newR_ok h0 h1] at hΦ
  have hml : (es.map toP).length = es.length := List.length_map _
  refine bitmap_New_ok h0 h1 ⟨fun z => absurd rfl z, fun _ => ?_⟩
  refine LoopW.of_inv (fun s => ∃ (k : Nat) (m : Int) (ws : List (BitVec 64)), s = ((k : Int), m, ws) ∧ k ≤ es.length ∧ Φ (bmOf (fromR ⟨m, ws, 0⟩ ((es.map toP).drop k)))) (fun s => es.length - s.1.toNat) ?_ ⟨0, _, _, rfl, Nat.zero_le _, hΦ⟩
  rintro _ rec ⟨k, m, ws, rfl, hk, hI⟩ hrec
  rcases Nat.lt_or_ge k es.length with hlt | hge
  · rw [fromR_drop rfl (by omega), toP_get] at hI
    generalize he : ix es (k : Int) = e at *
    have hI : Φ (bmOf (fromR (chR true m ws e.Start e.Count) ((es.map toP).drop (k + 1)))) := hI
    refine ⟨fun _ => ⟨iX (by omega) (by omega), bitmap_Set_ok ?_⟩, fun z => absurd (show (k : Int) < (es.length : Int) by omega) z⟩
    show ((chR true m ws (ix es (k : Int)).Start (ix es (k : Int)).Count).e ≠ 0 → Φ (_, (chR true m ws (ix es (k : Int)).Start (ix es (k : Int)).Count).e)) ∧ (¬ ((chR true m ws (ix es (k : Int)).Start (ix es (k : Int)).Count).e ≠ 0) → inI ((k : Int) + 1) ∧ rec ((k : Int) + 1, (chR true m ws (ix es (k : Int)).Start (ix es (k : Int)).Count).n, (chR true m ws (ix es (k : Int)).Start (ix es (k : Int)).Count).ws))
    rw [he]
    refine ⟨fun z => ?_, fun z => ⟨iI (by omega) (by omega), hrec _ ⟨k + 1, _, _, rfl, hlt, ?_⟩ ?_⟩⟩
    · rw [fromR_err z, chR_err z] at hI; exact hI
    · have z := Classical.not_not.1 z
      have : (⟨(chR true m ws e.Start e.Count).n, (chR true m ws e.Start e.Count).ws, 0⟩ : BR) = chR true m ws e.Start e.Count := by
        generalize hr : chR true m ws e.Start e.Count = r at z
        obtain ⟨a, b, c⟩ := r
        have z : c = 0 := z
        rw [z]
      rw [this]; exact hI
    · show es.length - ((k : Int) + 1).toNat < es.length - ((k : Int)).toNat
      omega
  · obtain rfl : k = es.length := by omega
    rw [fromR_end (by omega)] at hI
    exact ⟨fun z => absurd (show (es.length : Int) < (es.length : Int) from z) (by omega), fun _ => hI⟩
theorem ref02_FromExtents_ok {n : Int} {es : List api_Extent} {Φ : api_Bitmap × Int → Prop} (h0 : 0 ≤ n) (h1 : n ≤ 4096) (hl : es.length ≤ 1000000) (hΦ : Φ (fromE n es)) : Z122 n es Φ := by
  unfold fromE at hΦ
  rw [newR_ok h0 h1] at hΦ
  have hml : (es.map toP).length = es.length := List.length_map _
  refine ref02_New_ok h0 h1 ?_
  refine LoopW.of_inv (fun s => ∃ (k : Nat) (r : BR), s = (r.e, (k : Int), r.n, r.ws) ∧ k ≤ es.length ∧ Φ (bmOf (fromR r ((es.map toP).drop k)))) (fun s => es.length - s.2.1.toNat) ?_ ⟨0, _, rfl, Nat.zero_le _, hΦ⟩
  rintro _ rec ⟨k, r, rfl, hk, hI⟩ hrec
  refine ⟨fun hlt => ?_, fun hge => fF ?_⟩
  · by_cases z : r.e = 0
    · show Z120 es r.e (k : Int) r.n r.ws rec Φ (decide (r.e = 0))
      rw [decide_eq_true z]
      rw [fromR_drop z (by omega), toP_get] at hI
      refine tT ⟨iX (by omega) (by omega), _, ref02_Set_ok rfl, iI (by omega) (by omega), hrec _ ⟨k + 1, chR true r.n r.ws (ix es (k : Int)).Start (ix es (k : Int)).Count, rfl, by omega, hI⟩ ?_⟩
      show es.length - ((k : Int) + 1).toNat < es.length - ((k : Int)).toNat
      omega
    · show Z120 es r.e (k : Int) r.n r.ws rec Φ (decide (r.e = 0))
      rw [decide_eq_false z]
      rw [fromR_err z] at hI
      exact fF hI
  · rw [fromR_end (by omega)] at hI
    exact hI
def b00 : api_Bitmap := ⟨0, []⟩
def p00 : api_Peer := ⟨0, 0, []⟩
def fB (n : Int) (q : List api_Extent × By × Int) : api_Bitmap × By × Int := if q.2.2 ≠ 0 then (b00, [], q.2.2) else if extE q.1 n ≠ 0 then (b00, [], 3) else ((fromE n q.1).1, q.2.1, 0)
def decB (n : Int) : Dec api_Bitmap := fun l => fB n (decList decX l)
def decBs : List Int → List api_Bitmap → Dec (List api_Bitmap)
  | [], acc, l => (acc, l, 0)
  | n :: r, acc, l => if (decB n l).2.2 ≠ 0 then ([], [], (decB n l).2.2) else decBs r (acc ++ [(decB n l).1]) (decB n l).2.1
theorem decBs_cons (n : Int) (r : List Int) (acc : List api_Bitmap) (l : By) : decBs (n :: r) acc l = if (decB n l).2.2 ≠ 0 then ([], [], (decB n l).2.2) else decBs r (acc ++ [(decB n l).1]) (decB n l).2.1 := rfl
def prOf (a b : Int) (r : List api_Bitmap × By × Int) : api_Peer × By × Int := if r.2.2 ≠ 0 then (p00, [], r.2.2) else (⟨a, b, r.1⟩, r.2.1, 0)
def g2 (sizes : List Int) (a : Int) (q : Int × By × Int) : api_Peer × By × Int := if q.2.2 ≠ 0 then (p00, [], q.2.2) else prOf a q.1 (decBs sizes [] q.2.1)
def g1 (sizes : List Int) (q : Int × By × Int) : api_Peer × By × Int := if q.2.2 ≠ 0 then (p00, [], q.2.2) else g2 sizes q.1 (decN q.2.1)
def decPr (sizes : List Int) : Dec api_Peer := fun l => g1 sizes (decN l)
def t4 (sizes : List Int) (ps : List api_Peer) (l : By) : api_Tracker × Int := if l.length ≠ 0 then (noTrk, 3) else if trkE ⟨sizes, ps⟩ ≠ 0 then (noTrk, trkE ⟨sizes, ps⟩) else (⟨sizes, ps⟩, 0)
def t3 (sizes : List Int) (q : List api_Peer × By × Int) : api_Tracker × Int := if q.2.2 ≠ 0 then (noTrk, q.2.2) else t4 sizes q.1 q.2.1
def t2 (sizes : List Int) (q : Int × By × Int) : api_Tracker × Int := if q.2.2 ≠ 0 then (noTrk, q.2.2) else if 4 < q.1 then (noTrk, 6) else t3 sizes (decF (decPr sizes) q.1.toNat [] q.2.1)
def t1 (q : List Int × By × Int) : api_Tracker × Int := if q.2.2 ≠ 0 then (noTrk, q.2.2) else if sizesE q.1 ≠ 0 then (noTrk, sizesE q.1) else t2 q.1 (decN q.2.1)
def decT (l : By) : api_Tracker × Int := t1 (decList decN l)
theorem extA_fits {n : Int} : ∀ {l : List api_Extent} {a : Int}, extA n a l = 0 → ∀ e ∈ l, fitsB e.Start e.Count n = true
  | [], _, _, e, he => absurd he List.not_mem_nil
  | x :: r, a, h, e, he => by
    rw [extA_cons] at h
    split at h
    · exact absurd h (by decide)
    split at h
    · exact absurd h (by decide)
    split at h
    · exact absurd h (by decide)
    rename_i q1 q2 q3
    rcases List.mem_cons.1 he with rfl | he
    · exact fitsB_iff.2 ⟨by omega, by omega, by omega, by omega⟩
    · exact extA_fits h e he
theorem fromE_fits {n : Int} {l : List api_Extent} (h : extE l n = 0) : 0 ≤ n ∧ n ≤ 4096 ∧ (fromE n l).2 = 0 := by
  unfold extE at h
  split at h
  · exact absurd h (by decide)
  rename_i q
  refine ⟨by omega, by omega, ?_⟩
  have hf := extA_fits h
  unfold fromE
  rw [fromR_new (by omega) (by omega), if_pos]
  · rfl
  · rw [List.all_eq_true]
    intro x hx
    obtain ⟨e, he, rfl⟩ := List.mem_map.1 hx
    exact hf e he
theorem decB_short {n : Int} {l : By} (h : (decB n l).2.2 = 0) : (decB n l).2.1.length ≤ l.length := by
  unfold decB fB at h ⊢
  by_cases h1 : (decList decX l).2.2 = 0
  · rw [if_neg (fun t => t h1)] at h ⊢
    by_cases h2 : extE (decList decX l).1 n = 0
    · rw [if_neg (fun t => t h2)]
      exact decXs_short h1
    · rw [if_pos h2] at h; exact absurd (show (3 : Int) = 0 from h) (by decide)
  · rw [if_pos h1] at h; exact absurd h h1
theorem decBs_short : ∀ {ns : List Int} {acc : List api_Bitmap} {l : By}, (decBs ns acc l).2.2 = 0 → (decBs ns acc l).2.1.length ≤ l.length ∧ (decBs ns acc l).1.length = acc.length + ns.length
  | [], _, _, _ => ⟨Nat.le_refl _, rfl⟩
  | n :: r, acc, l, h => by
    rw [decBs_cons] at h ⊢
    by_cases h1 : (decB n l).2.2 = 0
    · rw [if_neg (fun t => t h1)] at h ⊢
      have := decBs_short h
      have := decB_short h1
      rw [len_snoc] at *
      rw [List.length_cons]
      omega
    · rw [if_pos h1] at h; exact absurd h h1
theorem decPr_short {sizes : List Int} {l : By} (h : (decPr sizes l).2.2 = 0) : (decPr sizes l).2.1.length ≤ l.length ∧ (decPr sizes l).1.Dirty.length = sizes.length := by
  unfold decPr g1 at h ⊢
  by_cases h1 : (decN l).2.2 = 0
  · rw [if_neg (fun t => t h1)] at h ⊢
    have s1 := decN_ok h1
    unfold g2 at h ⊢
    by_cases h2 : (decN (decN l).2.1).2.2 = 0
    · rw [if_neg (fun t => t h2)] at h ⊢
      have s2 := decN_ok h2
      unfold prOf at h ⊢
      by_cases h3 : (decBs sizes [] (decN (decN l).2.1).2.1).2.2 = 0
      · rw [if_neg (fun t => t h3)]
        have := decBs_short h3
        refine ⟨by show (decBs sizes [] (decN (decN l).2.1).2.1).2.1.length ≤ _; omega, ?_⟩
        show (decBs sizes [] (decN (decN l).2.1).2.1).1.length = _
        rw [this.2]; exact Nat.zero_add _
      · rw [if_pos h3] at h; exact absurd h h3
    · rw [if_pos h2] at h; exact absurd h h2
  · rw [if_pos h1] at h; exact absurd h h1
theorem decBs_loop {sizes : List Int} {l0 : By} {Ψ : List api_Bitmap × By × Int → Prop} {step : (Int × By × List api_Bitmap) → ((Int × By × List api_Bitmap) → Prop) → Prop} (hl : l0.length ≤ 1000000)
    (h1 : ∀ (k : Nat) (l : By) (acc : List api_Bitmap) rec, k < sizes.length → acc.length = k → l.length ≤ 1000000 → ((decB (ix sizes (k : Int)) l).2.2 ≠ 0 → Ψ ([], [], (decB (ix sizes (k : Int)) l).2.2)) → ((decB (ix sizes (k : Int)) l).2.2 = 0 → rec ((k : Int) + 1, (decB (ix sizes (k : Int)) l).2.1, acc ++ [(decB (ix sizes (k : Int)) l).1])) → step ((k : Int), l, acc) rec)
    (h2 : ∀ (l : By) (acc : List api_Bitmap) rec, l.length ≤ 1000000 → Ψ (acc, l, 0) → step ((sizes.length : Int), l, acc) rec)
    (hΨ : Ψ (decBs sizes [] l0)) : LoopW step (0, l0, []) := by
  refine LoopW.of_inv (fun s => ∃ (k : Nat) (l : By) (acc : List api_Bitmap), s = ((k : Int), l, acc) ∧ k ≤ sizes.length ∧ acc.length = k ∧ l.length ≤ 1000000 ∧ Ψ (decBs (sizes.drop k) acc l)) (fun s => sizes.length - s.1.toNat) ?_ ⟨0, l0, [], rfl, Nat.zero_le _, rfl, hl, hΨ⟩
  rintro _ rec ⟨k, l, acc, rfl, hk, ha, hl, hΨ⟩ hrec
  rcases Nat.lt_or_ge k sizes.length with hlt | hge
  · rw [drop_ix hlt, decBs_cons] at hΨ
    refine h1 k l acc rec hlt ha hl (fun h => by rw [if_pos h] at hΨ; exact hΨ) fun h => ?_
    rw [if_neg (fun t => t h)] at hΨ
    refine hrec _ ⟨k + 1, _, _, rfl, hlt, by rw [len_snoc, ha], by have := decB_short h; omega, hΨ⟩ ?_
    show sizes.length - (((k : Int) + 1)).toNat < sizes.length - ((k : Int)).toNat
    omega
  · obtain rfl : k = sizes.length := by omega
    rw [List.drop_eq_nil_of_le (Nat.le_refl _)] at hΨ
    exact h2 l acc rec hl hΨ
theorem decB_ways {n : Int} {l : By} : ((decList decX l).2.2 ≠ 0 → (decB n l).2.2 = (decList decX l).2.2) ∧ ((decList decX l).2.2 = 0 → extE (decList decX l).1 n ≠ 0 → (decB n l).2.2 = 3) ∧ ((decList decX l).2.2 = 0 → extE (decList decX l).1 n = 0 → decB n l = ((fromE n (decList decX l).1).1, (decList decX l).2.1, 0)) := by
  unfold decB fB
  refine ⟨fun h => by rw [if_pos h], fun h h2 => by rw [if_neg (fun t => t h), if_pos h2], fun h h2 => by rw [if_neg (fun t => t h), if_neg (fun t => t h2)]⟩
theorem tracker_decodePeer_ok {sizes : List Int} {l : By} {Φ : api_Peer × By × Int → Prop} (hs : sizesE sizes = 0) (hl : l.length ≤ 1000000) (hΦ : Φ (decPr sizes l)) : Z108 l sizes Φ := by
  unfold decPr g1 at hΦ
  refine wire_Int_ok hl ⟨fun q => by rw [if_pos q] at hΦ; exact hΦ, fun q => ?_⟩
  rw [if_neg q] at hΦ
  have s1 := decN_ok (Classical.not_not.1 q)
  unfold g2 at hΦ
  refine wire_Int_ok (by omega) ⟨fun q2 => by rw [if_pos q2] at hΦ; exact hΦ, fun q2 => ?_⟩
  rw [if_neg q2] at hΦ
  have s2 := decN_ok (Classical.not_not.1 q2)
  have h8 := sizesE_len hs
  refine decBs_loop (Ψ := fun r => Φ (prOf (decN l).1 (decN (decN l).2.1).1 r)) (by omega) (fun k l acc rec hk ha hl f1 f2 => ⟨fun _ => ⟨iX (by omega) (by omega), wire_Extents_ok hl ⟨fun t => ?_, fun t => extent_Check_ok ?_ (decXs_all l).1 ⟨fun u => ?_, fun u => ?_⟩⟩⟩, fun t => absurd (show (k : Int) < (sizes.length : Int) by omega) t⟩) (fun l acc rec hl hf => ⟨fun t => absurd (show (sizes.length : Int) < (sizes.length : Int) from t) (by omega), fun _ => ?_⟩) hΦ
  · have e := (decB_ways (n := ix sizes (k : Int))).1 t
    rw [e] at f1
    have f1 := f1 t
    unfold prOf at f1
    rw [if_pos t] at f1
    exact f1
  · have := (decXs_all l).2; omega
  · have e := (decB_ways (n := ix sizes (k : Int))).2.1 (Classical.not_not.1 t) u
    rw [e] at f1
    exact f1 (by decide)
  · have u := Classical.not_not.1 u
    have e := (decB_ways (n := ix sizes (k : Int))).2.2 (Classical.not_not.1 t) u
    rw [e] at f2
    obtain ⟨n0, n1, n2⟩ := fromE_fits u
    exact bitmap_FromExtents_ok n0 n1 (by have := (decXs_all l).2; omega) ⟨fun v => absurd n2 v, fun _ => ⟨iL (by rw [len_snoc]; omega) (by omega), iI (by omega) (by omega), f2 rfl⟩⟩
  · unfold prOf at hf
    rw [if_neg (fun t => t rfl)] at hf
    exact hf
theorem ref43_peer_ok {sizes : List Int} {l : By} {Φ : api_Peer × By × Int → Prop} (hs : sizesE sizes = 0) (hl : l.length ≤ 1000000) (hΦ : Φ (decPr sizes l)) : ref43_peer_W l sizes Φ := by
  unfold decPr g1 at hΦ
  refine ref03_Int_ok hl ⟨fun q => by rw [if_pos q] at hΦ; exact hΦ, fun q => ?_⟩
  rw [if_neg q] at hΦ
  have s1 := decN_ok (Classical.not_not.1 q)
  unfold g2 at hΦ
  refine ref03_Int_ok (by omega) ⟨fun q2 => by rw [if_pos q2] at hΦ; exact hΦ, fun q2 => ?_⟩
  rw [if_neg q2] at hΦ
  have s2 := decN_ok (Classical.not_not.1 q2)
  have h8 := sizesE_len hs
  refine decBs_loop (Ψ := fun r => Φ (prOf (decN l).1 (decN (decN l).2.1).1 r)) (by omega) (fun k l acc rec hk ha hl f1 f2 => ⟨fun _ => ref03_Extents_ok hl ⟨fun t => ?_, fun t => ⟨iX (by omega) (by omega), ref01_Check_ok ?_ (decXs_all l).1 ⟨fun u => ?_, fun u => ⟨iX (by omega) (by omega), ?_⟩⟩⟩⟩, fun t => absurd (show (k : Int) < (sizes.length : Int) by omega) t⟩) (fun l acc rec hl hf => ⟨fun t => absurd (show (sizes.length : Int) < (sizes.length : Int) from t) (by omega), fun _ => ?_⟩) hΦ
  · have e := (decB_ways (n := ix sizes (k : Int))).1 t
    rw [e] at f1
    have f1 := f1 t
    unfold prOf at f1
    rw [if_pos t] at f1
    exact f1
  · have := (decXs_all l).2; omega
  · have e := (decB_ways (n := ix sizes (k : Int))).2.1 (Classical.not_not.1 t) u
    rw [e] at f1
    exact f1 (by decide)
  · have u := Classical.not_not.1 u
    have e := (decB_ways (n := ix sizes (k : Int))).2.2 (Classical.not_not.1 t) u
    rw [e] at f2
    obtain ⟨n0, n1, n2⟩ := fromE_fits u
    exact ref02_FromExtents_ok n0 n1 (by have := (decXs_all l).2; omega) ⟨iL (by rw [len_snoc]; omega) (by omega), iI (by omega) (by omega), f2 rfl⟩
  · unfold prOf at hf
    rw [if_neg (fun t => t rfl)] at hf
    exact hf
theorem tracker_Decode_ok {l : By} {Φ : api_Tracker × Int → Prop} (hl : l.length ≤ 1000000) (hΦ : Φ (decT l)) : Z110 l Φ := by
  unfold decT t1 at hΦ
  refine wire_Ints_ok hl ⟨fun q => by rw [if_pos q] at hΦ; exact hΦ, fun q => ?_⟩
  rw [if_neg q] at hΦ
  have s1 := decList_short (one := decN) (fun l h => (decN_ok h).2.2) (Classical.not_not.1 q)
  generalize hs : decList decN l = v1 at *
  refine image_New_ok (fun q1 => ⟨fun z => absurd rfl z, fun _ => ?_⟩) fun q1 => ⟨fun _ => by rw [if_pos q1] at hΦ; exact hΦ, fun z => absurd q1 z⟩
  rw [if_neg (fun z => z q1)] at hΦ
  have h8 := sizesE_len q1
  unfold t2 at hΦ
  refine wire_Int_ok (by omega) ⟨fun q2 => by rw [if_pos q2] at hΦ; exact hΦ, fun q2 => ⟨fun q3 => by rw [if_neg q2, if_pos q3] at hΦ; exact hΦ, fun q3 => ?_⟩⟩
  rw [if_neg q2, if_neg q3] at hΦ
  have s2 := decN_ok (Classical.not_not.1 q2)
  generalize hn : (decN v1.2.1).1.toNat = n at hΦ
  have hn2 : (decN v1.2.1).1 = (n : Int) := by omega
  refine decF_loop (one := decPr v1.1) (Ψ := fun r => Φ (t3 v1.1 r)) (fun l h => (decPr_short h).1) (by omega) (fun k l acc rec hk ha hl f1 f2 => ⟨fun _ => tracker_decodePeer_ok q1 hl ⟨fun t => ?_, fun t => ⟨iL (by rw [len_snoc]; omega) (by omega), iI (by omega) (by omega), f2 (Classical.not_not.1 t)⟩⟩, fun t => absurd (show (k : Int) < (decN v1.2.1).1 by omega) t⟩) (fun l acc rec ha hl hf => ⟨fun t => absurd (show (n : Int) < (decN v1.2.1).1 from t) (by omega), fun _ => ?_⟩) hΦ
  · have f1 := f1 t
    unfold t3 at f1
    rw [if_pos t] at f1
    exact f1
  · unfold t3 at hf
    rw [if_neg (fun t => t rfl)] at hf
    unfold t4 at hf
    exact ⟨fun u => by
      have u : 0 < (l.length : Int) := u
      rw [if_pos (show l.length ≠ 0 by omega)] at hf; exact hf, fun u => by
      have u : ¬ 0 < (l.length : Int) := u
      rw [if_neg (show ¬ l.length ≠ 0 by omega)] at hf
      exact tracker_Check_ok0 ⟨fun w => by rw [if_pos w] at hf; exact hf, fun w => by rw [if_neg w] at hf; exact hf⟩⟩
theorem ref43_Decode_ok {l : By} {Φ : api_Tracker × Int → Prop} (hl : l.length ≤ 1000000) (hΦ : Φ (decT l)) : Z124 l Φ := by
  unfold decT t1 at hΦ
  refine ref03_Ints_ok hl ⟨fun q => by rw [if_pos q] at hΦ; exact hΦ, fun q => ?_⟩
  rw [if_neg q] at hΦ
  have s1 := decList_short (one := decN) (fun l h => (decN_ok h).2.2) (Classical.not_not.1 q)
  generalize hs : decList decN l = v1 at *
  refine ref07_Sizes_ok ⟨fun q1 => by rw [if_pos q1] at hΦ; exact hΦ, fun q1 => ?_⟩
  rw [if_neg q1] at hΦ
  have q1 := Classical.not_not.1 q1
  have h8 := sizesE_len q1
  unfold t2 at hΦ
  refine ref03_Int_ok (by omega) ⟨fun q2 => by rw [if_pos q2] at hΦ; exact hΦ, fun q2 => ⟨fun q3 => by rw [if_neg q2, if_pos q3] at hΦ; exact hΦ, fun q3 => ?_⟩⟩
  rw [if_neg q2, if_neg q3] at hΦ
  have s2 := decN_ok (Classical.not_not.1 q2)
  generalize hn : (decN v1.2.1).1.toNat = n at hΦ
  have hn2 : (decN v1.2.1).1 = (n : Int) := by omega
  refine decF_loop (one := decPr v1.1) (Ψ := fun r => Φ (t3 v1.1 r)) (fun l h => (decPr_short h).1) (by omega) (fun k l acc rec hk ha hl f1 f2 => ⟨fun _ => ref43_peer_ok q1 hl ⟨fun t => ?_, fun t => ⟨iL (by rw [len_snoc]; omega) (by omega), iI (by omega) (by omega), f2 (Classical.not_not.1 t)⟩⟩, fun t => absurd (show (k : Int) < (decN v1.2.1).1 by omega) t⟩) (fun l acc rec ha hl hf => ⟨fun t => absurd (show (n : Int) < (decN v1.2.1).1 from t) (by omega), fun _ => ?_⟩) hΦ
  · have f1 := f1 t
    unfold t3 at f1
    rw [if_pos t] at f1
    exact f1
  · unfold t3 at hf
    rw [if_neg (fun t => t rfl)] at hf
    unfold t4 at hf
    exact ⟨fun u => by
      have u : 0 < (l.length : Int) := u
      rw [if_pos (show l.length ≠ 0 by omega)] at hf; exact hf, fun u => by
      have u : ¬ 0 < (l.length : Int) := u
      rw [if_neg (show ¬ l.length ≠ 0 by omega)] at hf
      exact ref43_Check_ok0 ⟨fun w => by rw [if_pos w] at hf; exact hf, fun w => by rw [if_neg w] at hf; exact hf⟩⟩
theorem decT_ok {l : By} (h : (decT l).2 = 0) : trkE (decT l).1 = 0 := by
  unfold decT t1 at h ⊢
  by_cases q1 : (decList decN l).2.2 = 0
  · rw [if_neg (fun t => t q1)] at h ⊢
    by_cases q2 : sizesE (decList decN l).1 = 0
    · rw [if_neg (fun t => t q2)] at h ⊢
      unfold t2 at h ⊢
      by_cases q3 : (decN (decList decN l).2.1).2.2 = 0
      · rw [if_neg (fun t => t q3)] at h ⊢
        by_cases q4 : 4 < (decN (decList decN l).2.1).1
        · rw [if_pos q4] at h; exact absurd (show (6 : Int) = 0 from h) (by decide)
        · rw [if_neg q4] at h ⊢
          generalize decF (decPr (decList decN l).1) (decN (decList decN l).2.1).1.toNat [] (decN (decList decN l).2.1).2.1 = q at h ⊢
          unfold t3 at h ⊢
          by_cases q5 : q.2.2 = 0
          · rw [if_neg (fun t => t q5)] at h ⊢
            unfold t4 at h ⊢
            by_cases q6 : q.2.1.length = 0
            · rw [if_neg (fun t => t q6)] at h ⊢
              by_cases q7 : trkE ⟨(decList decN l).1, q.1⟩ = 0
              · rw [if_neg (fun t => t q7)]; exact q7
              · rw [if_pos q7] at h; exact absurd h q7
            · rw [if_pos q6] at h; exact absurd (show (3 : Int) = 0 from h) (by decide)
          · rw [if_pos q5] at h; exact absurd h q5
      · rw [if_pos q3] at h; exact absurd h q3
    · rw [if_pos q2] at h; exact absurd h q2
  · rw [if_pos q1] at h; exact absurd h q1
theorem decT_err {l : By} (h : (decT l).2 ≠ 0) : (decT l).1 = noTrk := by
  unfold decT t1 t2 t3 t4 at h ⊢
  repeat' split
  all_goals first | rfl | skip
  rename_i q1 q2 q3 q4 q5 q6 q7
  rw [if_neg q1, if_neg q2, if_neg q3, if_neg q4, if_neg q5, if_neg q6, if_neg q7] at h
  exact absurd rfl h
theorem dirty_few {t : api_Tracker} (h : trkE t = 0) : ∀ p ∈ t.Peers, p.Dirty.length ≤ 100000 := fun p hp => by
  have := ((trk_ok h).small.2.2 p hp).1
  omega
theorem marked_true {l : List api_Bitmap} {want : List (List api_Extent)} {Φ : Bool → Prop} (hl : l.length ≤ 1000) (h : l.map exts = want) (hΦ : Φ true) : Z54 l want Φ := by
  subst h
  refine ⟨fun q => absurd (by rw [List.length_map]) q, fun _ => LoopW.upT l.length (fun k => (k : Int)) rfl (fun k rec hk hr => ⟨fun _ => ⟨iX (by omega) (by omega), (exts (ix l (k : Int)), ()), bitmap_Extents_ok rfl, iX (by omega) (by rw [List.length_map]; omega), (true, ()), ref02_SameExtents_ok (by have := exts_len (ix l (k : Int)); show (exts (ix l (k : Int))).length ≤ 1000000; omega) ?_, fun q => absurd rfl q, fun _ => ⟨iI (by omega) (by omega), hr _ rfl⟩⟩, fun q => absurd (show (k : Int) < (l.length : Int) by omega) q⟩) fun rec => ⟨fun q => absurd (show (l.length : Int) < (l.length : Int) from q) (by omega), fun _ => hΦ⟩⟩
  rw [ix_map _ hk]
  show (decide (exts (ix l (k : Int)) = exts (ix l (k : Int))), ()) = (true, ())
  rw [decide_eq_true rfl]
abbrev sA : Sec := Sec.mk (1#8) (0#8) (0#8) (0#8) (0#8) (0#8) (0#8) (0#8)
def aw1 : api_Tracker × Int := newT [4, 2] [3, 1] 0
def aw2 : api_Tracker × Int := writeT aw1.1 (api_Write.mk 0 0 [sA, sA])
def aw3 : api_Tracker × Int := writeT aw2.1 (api_Write.mk 1 1 [sA])
def awC : List api_Cycle := [api_Cycle.mk 1 2 0 [] [api_Write.mk 0 1 [sA]]]
def aw5 : api_Tracker × Int := agreeT aw3.1 3 1 awC
def aw7 : api_Tracker × Int := newT [4] [2] 5
def aw8 : api_Tracker × Int := writeT aw7.1 (api_Write.mk 0 0 [sA, sA])
theorem aw_trk : trkE aw1.1 = 0 ∧ trkE aw2.1 = 0 ∧ trkE aw3.1 = 0 ∧ trkE aw5.1 = 0 ∧ trkE aw7.1 = 0 ∧ trkE aw8.1 = 0 := ⟨by kernel_rfl, by kernel_rfl, by kernel_rfl, by kernel_rfl, by kernel_rfl, by kernel_rfl⟩
theorem aw_err : aw1.2 = 0 ∧ aw2.2 = 0 ∧ aw3.2 = 0 ∧ aw5.2 = 0 ∧ aw7.2 = 0 ∧ aw8.2 = 0 := ⟨by kernel_rfl, by kernel_rfl, by kernel_rfl, by kernel_rfl, by kernel_rfl, by kernel_rfl⟩
theorem aw_dirty : (dirtyT aw3.1 1).2 = (0, 0) ∧ (dirtyT aw5.1 3).2 = (1, 0) := ⟨by kernel_rfl, by kernel_rfl⟩
theorem aw_marks : (dirtyT aw3.1 1).1.map exts = [[api_Extent.mk 0 2], [api_Extent.mk 1 1]] ∧ (dirtyT aw5.1 3).1.map exts = [[api_Extent.mk 1 1], []] := ⟨by kernel_rfl, by kernel_rfl⟩
theorem aw_enc : bsOf ((encodeT aw8.1).map fun x => x) = strK1 := by kernel_rfl
theorem map_len {α β : Type} {f : α → β} {l : List α} {m : List β} (h : l.map f = m) : l.length = m.length := by rw [← h, List.length_map]
theorem law43_awake_ok {Φ : Bool → Prop} (hΦ : Φ true) : law43_awake_W Φ := by
  obtain ⟨t1, t2, t3, t5, t7, t8⟩ := aw_trk
  obtain ⟨e1, e2, e3, e5, e7, e8⟩ := aw_err
  obtain ⟨d4, d6⟩ := aw_dirty
  obtain ⟨m4, m6⟩ := aw_marks
  refine tracker_New_ok ?_
  refine tracker_Write_ok (t := aw1.1) (dirty_few t1) (by decide) ?_
  refine tracker_Write_ok (t := aw2.1) (dirty_few t2) (by decide) ?_
  refine tracker_Dirty_ok (t := aw3.1) (dirty_few t3) ?_
  refine tracker_Agree_ok (t := aw3.1) (later := awC) (dirty_few t3) ⟨by decide, fun c hc => by
    rw [List.mem_singleton.1 hc]
    exact ⟨by decide, by decide, fun w hw => by rw [List.mem_singleton.1 hw]; decide⟩⟩ ?_
  refine tracker_Dirty_ok (t := aw5.1) (dirty_few t5) ?_
  have J1 : Z75 Φ () := by
    unfold Z75
    refine tracker_New_ok ?_
    refine tracker_Write_ok (t := aw7.1) (w := api_Write.mk 0 0 [sA, sA]) (dirty_few t7) (by decide) ?_
    refine ⟨fun _ => ⟨fun _ => ?_, fun q => absurd e8 q⟩, fun q => absurd e7 q⟩
    refine tracker_Encode_ok (t := aw8.1) (dirty_few t8) (fun _ => ?_) ⟨fun _ _ => rfl, ?_⟩
    · intro k hk
      have hs : aw8.1.Sizes = [4] := by kernel_rfl
      rw [hs] at hk ⊢
      have hk : k < 1 := hk
      obtain rfl : k = 0 := by omega
      decide
    · rw [decide_eq_true aw_enc]; exact hΦ
  show inI (aw1.2 + aw2.2) ∧ inI ((aw1.2 + aw2.2) + aw3.2) ∧ inI (((aw1.2 + aw2.2) + aw3.2) + (dirtyT aw3.1 1).2.2) ∧ inI ((((aw1.2 + aw2.2) + aw3.2) + (dirtyT aw3.1 1).2.2) + aw5.2) ∧ inI (((((aw1.2 + aw2.2) + aw3.2) + (dirtyT aw3.1 1).2.2) + aw5.2) + (dirtyT aw5.1 3).2.2) ∧ ((((((aw1.2 + aw2.2) + aw3.2) + (dirtyT aw3.1 1).2.2) + aw5.2) + (dirtyT aw5.1 3).2.2) ≠ 0 → _) ∧ (¬ ((((((aw1.2 + aw2.2) + aw3.2) + (dirtyT aw3.1 1).2.2) + aw5.2) + (dirtyT aw5.1 3).2.2) ≠ 0) → ((dirtyT aw3.1 1).2.1 ≠ 0 → _) ∧ (¬ ((dirtyT aw3.1 1).2.1 ≠ 0) → ((dirtyT aw5.1 3).2.1 ≠ 1 → _) ∧ (¬ ((dirtyT aw5.1 3).2.1 ≠ 1) → Z54 (dirtyT aw3.1 1).1 _ _)))
  rw [e1, e2, e3, e5, d4, d6]
  refine ⟨iI (by decide) (by decide), iI (by decide) (by decide), iI (by decide) (by decide), iI (by decide) (by decide), iI (by decide) (by decide), fun q => absurd rfl q, fun _ => ⟨fun q => absurd rfl q, fun _ => ⟨fun q => absurd rfl q, fun _ => ?_⟩⟩⟩
  refine marked_true (by rw [map_len m4]; decide) m4 (tt ?_)
  exact marked_true (by rw [map_len m6]; decide) m6 (tt J1)
theorem ref43_FewBitmaps_ok {d : List api_Bitmap} {Φ : Bool → Prop} (hF : Φ false) (hT : d.length ≤ 20 → Φ true) : Z2 d Φ := by
  have last : Φ (decide ((d.length : Int) ≤ 20)) := by
    by_cases h : (d.length : Int) ≤ 20
    · rw [decide_eq_true h]; exact hT (by omega)
    · rw [decide_eq_false h]; exact hF
  refine LoopW.upT (min d.length 20) (fun k => (k : Int)) rfl (fun k rec hk hr => ⟨fun _ => ?_, fun q => absurd (show (k : Int) < (d.length : Int) by omega) q⟩) fun rec => ⟨fun q => ?_, fun _ => fF last⟩
  · have hx : inX (k : Int) d.length := iX (by omega) (by omega)
    rw [decide_eq_true (show (k : Int) < 20 by omega)]
    exact tT ⟨hx, fun _ => ⟨hx, fun _ => hF, fun _ => ⟨hx, fun _ => hF, fun _ => ⟨iI (by omega) (by omega), hr _ rfl⟩⟩⟩, fun _ => ⟨hx, fun _ => hF, fun _ => ⟨iI (by omega) (by omega), hr _ rfl⟩⟩⟩
  · have q : ((min d.length 20 : Nat) : Int) < (d.length : Int) := q
    rw [decide_eq_false (show ¬ ((min d.length 20 : Nat) : Int) < 20 by omega)]
    exact fF last
structure FewT (t : api_Tracker) : Prop where
  p : t.Peers.length ≤ 20
  s : t.Sizes.length ≤ 20
  d : ∀ x ∈ t.Peers, x.Dirty.length ≤ 20
  z : ∀ k : Nat, k < t.Sizes.length → ¬ (200 < ix t.Sizes (k : Int) ∧ ix t.Sizes (k : Int) ≤ 4096)
theorem FewT.dirty {t : api_Tracker} (h : FewT t) : ∀ p ∈ t.Peers, p.Dirty.length ≤ 100000 := fun p hp => by have := h.d p hp; omega
theorem FewT.small {t : api_Tracker} (h : FewT t) (h0 : trkE t = 0) : SmallZ t.Sizes := fun k hk => by
  have := h.z k hk
  have := sizesE_ix (trk_ok h0).hs hk
  omega
theorem ref43_Few_ok {t : api_Tracker} {Φ : Bool → Prop} (hF : Φ false) (hT : FewT t → Φ true) : ref43_Few_W t Φ := by
  have next : (∀ j : Nat, j < min t.Peers.length 20 → (ix t.Peers (j : Int)).Dirty.length ≤ 20) → LoopW (ref43_Few_L3 t Φ) 0 := fun hI => by
    have last : (∀ j : Nat, j < min t.Sizes.length 20 → ¬ (200 < ix t.Sizes (j : Int) ∧ ix t.Sizes (j : Int) ≤ 4096)) → ((t.Peers.length : Int) ≤ 20 → Φ (decide ((t.Sizes.length : Int) ≤ 20))) ∧ (¬ ((t.Peers.length : Int) ≤ 20) → Φ false) := fun hz => by
      refine ⟨fun h1 => ?_, fun _ => hF⟩
      by_cases h : (t.Sizes.length : Int) ≤ 20
      · rw [decide_eq_true h]
        refine hT ⟨by omega, by omega, fun p hp => ?_, fun k hk => hz k (by omega)⟩
        obtain ⟨i, hi, rfl⟩ := List.getElem_of_mem hp
        have := hI i (by omega)
        rwa [ix_get hi] at this
      · rw [decide_eq_false h]; exact hF
    refine LoopW.upI (min t.Sizes.length 20) (fun k => (k : Int)) (fun k => ∀ j : Nat, j < k → ¬ (200 < ix t.Sizes (j : Int) ∧ ix t.Sizes (j : Int) ≤ 4096)) rfl (fun j hj => absurd hj (Nat.not_lt_zero j)) (fun k rec hk hz hr => ⟨fun _ => ?_, fun q => absurd (show (k : Int) < (t.Sizes.length : Int) by omega) q⟩) fun rec hz => ⟨fun q => ?_, fun _ => fF (last hz)⟩
    · have hx : inX (k : Int) t.Sizes.length := iX (by omega) (by omega)
      have step : ¬ (200 < ix t.Sizes (k : Int) ∧ ix t.Sizes (k : Int) ≤ 4096) → rec ((k : Int) + 1) := fun h => hr (fun j hj => by
        rcases Nat.lt_or_ge j k with h2 | h2
        · exact hz j h2
        · obtain rfl : j = k := by omega
          exact h) _ rfl
      rw [decide_eq_true (show (k : Int) < 20 by omega)]
      exact tT ⟨hx, fun q => ⟨hx, fun _ => hF, fun q2 => ⟨iI (by omega) (by omega), step fun z => q2 z.2⟩⟩, fun q => ⟨iI (by omega) (by omega), step fun z => q z.1⟩⟩
    · have q : ((min t.Sizes.length 20 : Nat) : Int) < (t.Sizes.length : Int) := q
      rw [decide_eq_false (show ¬ ((min t.Sizes.length 20 : Nat) : Int) < 20 by omega)]
      exact fF (last hz)
  refine LoopW.upI (min t.Peers.length 20) (fun k => (k : Int)) (fun k => ∀ j : Nat, j < k → (ix t.Peers (j : Int)).Dirty.length ≤ 20) rfl (fun j hj => absurd hj (Nat.not_lt_zero j)) (fun k rec hk hI hr => ⟨fun _ => ?_, fun q => absurd (show (k : Int) < (t.Peers.length : Int) by omega) q⟩) fun rec hI => ⟨fun q => ?_, fun _ => fF (next hI)⟩
  · rw [decide_eq_true (show (k : Int) < 20 by omega)]
    refine tT ⟨iX (by omega) (by omega), ref43_FewBitmaps_ok (ff hF) fun h20 => tt ⟨iI (by omega) (by omega), hr (fun j hj => ?_) _ rfl⟩⟩
    rcases Nat.lt_or_ge j k with h2 | h2
    · exact hI j h2
    · obtain rfl : j = k := by omega
      exact h20
  · have q : ((min t.Peers.length 20 : Nat) : Int) < (t.Peers.length : Int) := q
    rw [decide_eq_false (show ¬ ((min t.Peers.length 20 : Nat) : Int) < 20 by omega)]
    exact fF (next hI)
theorem ref02_SameAll_refl {d : List api_Bitmap} {Φ : Bool → Prop} (hl : d.length ≤ 1000000) (hw : ∀ b ∈ d, b.Words.length ≤ 1000000) (hΦ : Φ true) : Z80 d d Φ := by
  refine ⟨fun q => absurd rfl q, fun _ => LoopW.upT d.length (fun k => (k : Int)) rfl (fun k rec hk hr => ⟨fun _ => ⟨iX (by omega) (by omega), iX (by omega) (by omega), (true, ()), ⟨fun q => absurd rfl q, fun _ => ⟨fun q => absurd rfl q, fun _ => ?_⟩⟩, fun q => absurd rfl q, fun _ => ⟨iI (by omega) (by omega), hr _ rfl⟩⟩, fun q => absurd (show (k : Int) < (d.length : Int) by omega) q⟩) fun rec => ⟨fun q => absurd (show (d.length : Int) < (d.length : Int) from q) (by omega), fun _ => hΦ⟩⟩
  have hb := hw _ (ix_mem (xs := d) (i := (k : Int)) (iX (by omega) (by omega)))
  generalize ix d (k : Int) = b at hb
  exact LoopW.upT b.Words.length (fun k => (k : Int)) rfl (fun m rec2 hm hr2 => ⟨fun _ => ⟨iX (by omega) (by omega), iX (by omega) (by omega), fun q => absurd rfl q, fun _ => ⟨iI (by omega) (by omega), hr2 _ rfl⟩⟩, fun q => absurd (show (m : Int) < (b.Words.length : Int) by omega) q⟩) fun rec2 => ⟨fun q => absurd (show (b.Words.length : Int) < (b.Words.length : Int) from q) (by omega), fun _ => rfl⟩
def MidT (t : api_Tracker) : Prop := t.Sizes.length ≤ 1000000 ∧ t.Peers.length ≤ 1000000 ∧ ∀ p ∈ t.Peers, p.Dirty.length ≤ 1000000 ∧ ∀ b ∈ p.Dirty, b.Words.length ≤ 1000000
theorem mid_no : MidT noTrk := ⟨by decide, by decide, fun p hp => absurd hp List.not_mem_nil⟩
theorem TrkOk.mid {t : api_Tracker} (h : TrkOk t) : MidT t := by
  obtain ⟨h8, h4, hs⟩ := h.small
  exact ⟨by omega, by omega, fun p hp => ⟨by have := (hs p hp).1; omega, fun b hb => by have := (hs p hp).2 b hb; omega⟩⟩
theorem ref43_Same_refl {t : api_Tracker} {Φ : Bool → Prop} (h : MidT t) (hΦ : Φ true) : ref43_Same_W t t Φ :=
  ref23_SameInts_refl h.1 (tt ⟨fun q => absurd rfl q, fun _ => LoopW.upT t.Peers.length (fun k => (k : Int)) rfl (fun k rec hk hr => by
    have hl := h.2.1
    have hb := h.2.2 _ (ix_mem (xs := t.Peers) (i := (k : Int)) (iX (by omega) (by omega)))
    exact ⟨fun _ => ⟨iX (by omega) (by omega), iX (by omega) (by omega), fun q => absurd rfl q, fun _ => ⟨fun q => absurd rfl q, fun _ => ref02_SameAll_refl hb.1 hb.2 (tt ⟨iI (by omega) (by omega), hr _ rfl⟩)⟩⟩, fun q => absurd (show (k : Int) < (t.Peers.length : Int) by omega) q⟩) fun rec => ⟨fun q => absurd (show (t.Peers.length : Int) < (t.Peers.length : Int) from q) (by omega), fun _ => hΦ⟩⟩)
theorem decT_mid (l : By) : MidT (decT l).1 := by
  by_cases h : (decT l).2 = 0
  · exact (trk_ok (decT_ok h)).mid
  · rw [decT_err h]; exact mid_no
theorem trackerEncodes_law (t : api_Tracker) (b : By) (_ : Rg.rg t) (_ : Rg.rg b) : Z138 t b fun y => y = true := by
  have aw : Z137 t b (fun y => y = true) true := tT (law43_awake_ok rfl)
  refine ref43_Few_ok (ff aw) fun f => tt ?_
  by_cases h : 2000 < (b.length : Int)
  · rw [decide_eq_true h]; exact aw
  · rw [decide_eq_false h]
    exact fF (tracker_Decode_ok (by omega) (ref43_Decode_ok (by omega) ⟨(true, ()), law43_awake_ok rfl, tT ⟨(encodeT t, ()), tracker_Encode_ok f.dirty f.small rfl, fun _ _ => rfl, (encodeT t, ()), ref43_Encode_ok f.dirty f.small rfl, fun _ _ => rfl, fun _ => ⟨(true, ()), ref43_Same_refl (decT_mid b) rfl, tT (decide_eq_true rfl)⟩, fun q => absurd rfl q⟩⟩))
end Go.Proofs.YtgojhiknicmopaaGreatDoor
namespace Go.Proofs.YtgojhiknicmopaaGreatDoor
open Go.RowKit Go.ChangeShapes Go.WideShapes Go.ChangeAt
set_option maxRecDepth 100000 in
theorem trackerEncodes_lifted (os : Os) (started : os.Started) (H : Type) (enc : TypeId × Value → H) :
    ReturnsInHanded {} Tryz.checked os 7 .any (fun w args => (Rows.trackerEncodesSpec.pre enc Tryz.prog Tryz.f7 [] false w args ∧ laidMetH Tryz.prog [("math/bits.deBruijn64tab", Rows.laid_math_bits_deBruijn64tab)] w) ∧ sizedMet enc Tryz.prog Tryz.f7 (OpenSpec.ofChange Rows.trackerEncodesSpec) false w args)
      (Rows.trackerEncodesSpec.post enc Tryz.prog Tryz.f7 false true false false) := by
  refine returnsInHanded_of_change_and (C := Tryz.checked) (X := fun w _ => laidMetH Tryz.prog [("math/bits.deBruijn64tab", Rows.laid_math_bits_deBruijn64tab)] w) (fun _ _ _ hh h => h.of_heap hh) Tryz.own started (by kernel_rfl) Tryz.func7
    (ChangeSpec.witness_shaped (enc := enc) (C := Tryz.checked) (os := os) (X := fun w _ => laidMetH Tryz.prog [("math/bits.deBruijn64tab", Rows.laid_math_bits_deBruijn64tab)] w) false (World.doorLaid Tryz.prog 14 os) #[.agg #[.slice none 0 0, .slice none 0 0], .slice none 0 0] 8 rfl (World.shaped_of_RefB (by kernel_rfl) (by kernel_rfl)) (by kernel_rfl) (by kernel_rfl) (by kernel_rfl) (Tryz.doorMet os _)) ?_
  intro W base args ds gs before hval0 hW _ _ hL _
  have hval : ∀ (j : Nat) t v, Tryz.f7.params[j]? = some t → args[j]? = some v → Value.okWide Tryz.prog W .any base t v := hval0
  have hW' := hW
  obtain ⟨p, q, hA0, hV, hpq, _, _⟩ := hW
  have hA : DataW.TrodAll enc Tryz.prog W 0 (fun _ => true) true Tryz.f7.params.toList args.toList ds p := hA0
  rw [Tryz.params7] at hA hval
  obtain ⟨v0, v1, d0, d1, p0, p1, rfl, rfl, rfl, h0, h1⟩ := trodAll_two hA
  obtain ⟨rfl, rfl⟩ := trodVars_none hV
  have hT := tabHolds hL
  obtain ⟨ks0, x0, rfl, hr0, hg0⟩ := open_strD Tryz.underlying25 rd25 (hval 0 25 v0 rfl rfl) h0
  obtain ⟨Az1, nz1, cz1, sz1, x1, rfl, hz1, hg1⟩ := open_slD Tryz.underlying64 rd64 (hval 1 64 v1 rfl rfl) h1
  refine Calls.mono ((RetP.toV (y := true) (F := fun z => .bool z) (RetP.mono (ok7 (x0, x1, ()) (fun y => y.1 = true) (trackerEncodes_law x0 x1 hg0 hg1) (HW W) [.agg ks0.toArray, .slice Az1 nz1 cz1] hT ⟨_, ks0, _, rfl, by rw [pkw25], (show Dt.rd (α := api_Tracker) (HW W) _ _ from hr0), ⟨_, [.slice Az1 nz1 cz1], _, rfl, by rw [pkw64], (show Dt.rd (α := List (BitVec 8)) (HW W) _ _ from ⟨Az1, nz1, cz1, sz1, rfl, hz1⟩), rfl⟩⟩) fun _ _ _ _ ⟨y, hy, hr⟩ => lawRes y hy hr)) W fun b o e => e) ?_
  rintro e W' ⟨v, _, rfl, _, _, _, hb, rfl⟩
  exact ⟨_, rfl, post_law Tryz.laidOut Tryz.underlying4 rfl (by kernel_rfl) hW' rfl rfl hb⟩
theorem trackerEncodes_holds : Rows.TrackerEncodesSaid :=
  OpenClaim.holds_of_wide 7 Tryz.f7 rfl rfl rfl rfl rfl rfl rfl ⟨rfl, rfl, rfl, rfl, rfl⟩ rfl rfl rfl rfl rfl (by kernel_rfl) Tryz.func7 (by kernel_rfl)
    (of_decide_eq_true (by kernel_rfl)) (by unfold Func.isWrapper; first | (rw [if_pos (by decide +kernel)]; kernel_rfl) | (rw [if_neg (by decide +kernel)]; exact ⟨rfl, rfl⟩))
    (fun os started H enc _ => trackerEncodes_lifted os started H enc)
theorem trackerEncodes_card : Rows.TrackerEncodesCardSaid :=
  Claim7.holds_tied_plain_at .later [] [.data] true (true, "3dc1ef937cb98039a352d753c213c597d4506c9529a7ef9e3e171f873310ddfa") true
    trackerEncodes_holds (fun _ h => by cases h) (by kernel_rfl) (fun _ h => by cases h) trackerEncodes_row_tie rfl ⟨rfl, rfl⟩ (by kernel_rfl) rfl
    (fun f fn hf hfn => by
      obtain rfl : f = 7 := Option.some.inj ((show Tryz.prog.funcNamed "standby/standbylaw43.TrackerEncodes" = some 7 by kernel_rfl).symm.trans hf) |>.symm
      obtain rfl : fn = Tryz.f7 := (Option.some.inj (Tryz.func7.symm.trans hfn)).symm
      exact ⟨by kernel_rfl, fun j t ht => by
        rw [Tryz.params7] at ht
        have hm : t ∈ [25, 64] := by
          have := Array.mem_of_getElem? ht
          simpa using this
        have hall : ([25, 64].all fun u => !Tryz.prog.wantsStandIn u) = true := by kernel_rfl
        exact (show Tryz.prog.wantsStandIn t = false by simpa using List.all_eq_true.1 hall t hm)⟩)
    (by kernel_rfl)
end Go.Proofs.YtgojhiknicmopaaGreatDoor
