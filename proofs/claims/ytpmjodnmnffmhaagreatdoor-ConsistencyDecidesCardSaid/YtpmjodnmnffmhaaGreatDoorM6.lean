/- Part 6 of the proof of the statement ConsistencyDecidesCardSaid: lemmas. No condition of its own. -/
import Derived.Lib.TrailingZeros
import Derived.Test.YtpmjodnmnffmhaaGreatDoorM5
namespace Go.Proofs.YtpmjodnmnffmhaaGreatDoor
open Go.RowKit
theorem LoopW.lst {α S : Type} {step : (List α × S) → ((List α × S) → Prop) → Prop} (L : List α) (acc : Nat → S) {s0 : S} (hs : s0 = acc 0)
    (h : ∀ (k : Nat) (hk : k < L.length) rec, (∀ s, s = acc (k + 1) → rec (L.drop (k + 1), s)) → step (L[k] :: L.drop (k + 1), acc k) rec) (he : ∀ rec, step ([], acc L.length) rec) : LoopW step (L, s0) :=
  LoopW.upT L.length (fun k => (L.drop k, acc k)) (by rw [hs]; rfl) (fun k rec hk hr => by rw [List.drop_eq_getElem_cons hk]; exact h k hk rec fun s e => hr _ (by rw [e])) fun rec => by rw [List.drop_length]; exact he rec
theorem sub0 {α : Type} (xs : List α) (k : Nat) : sub xs 0 (k : Int) = xs.take k := by unfold sub; simp
theorem histE_zero {h : api_History} (hz : histE h = 0) : sizesE h.Sizes = 0 ∧ h.Writes.length ≤ 4096 ∧ (∀ w ∈ h.Writes, fitW h.Sizes w = 0) ∧ evE h = 0 := by
  unfold histE at hz
  by_cases q : sizesE h.Sizes ≠ 0
  · rw [if_pos q] at hz; exact absurd hz q
  rw [if_neg q] at hz
  by_cases r : 4096 < (h.Writes.length : Int)
  · rw [if_pos r] at hz; cases hz
  rw [if_neg r] at hz
  by_cases s : firstN (fun k => fitW h.Sizes (ix h.Writes (k : Int))) h.Writes.length ≠ 0
  · rw [if_pos s] at hz; exact absurd hz s
  rw [if_neg s] at hz
  refine ⟨Classical.not_not.1 q, by omega, fun w hw => ?_, hz⟩
  obtain ⟨k, hk, rfl⟩ := List.getElem_of_mem hw
  have := firstN_zero.1 (Classical.not_not.1 s) k hk
  rw [ix_get hk] at this; exact this
def isSetP (l : List Int) (n : Int) (k : Nat) : Bool := decide (0 ≤ ix l (k : Int) ∧ ix l (k : Int) < n ∧ (0 < k → ix l ((k : Int) - 1) < ix l (k : Int)))
def isSetB (l : List Int) (n : Int) : Bool := allN (isSetP l n) l.length
theorem history_checked_isSet_ok {c : history_checked} {l : List Int} {Φ : Bool → Prop} (hl : l.length ≤ 1000000) (hΦ : Φ (isSetB l (c.History.Writes.length : Int))) : Z46 c l Φ := by
  refine LoopW.allL _ _ hΦ (fun k rec hk _ h1 h2 => ⟨fun _ => ⟨iX (by omega) (by omega), fun q => h1 (decide_eq_false (by omega)), fun q => ⟨fun r => h1 (decide_eq_false (by omega)), fun r => ⟨fun s => ⟨iI (by omega) (by omega), iX (by omega) (by omega), fun t => h1 (decide_eq_false (by omega)), fun t => ⟨iI (by omega) (by omega), h2 (decide_eq_true (by omega))⟩⟩, fun s => ⟨iI (by omega) (by omega), h2 (decide_eq_true (by omega))⟩⟩⟩⟩, fun _ => by omega⟩) fun rec h0 _ => ⟨fun _ => by omega, fun _ => h0⟩
theorem isSetB_at {l : List Int} {n : Int} (h : isSetB l n = true) {k : Nat} (hk : k < l.length) : 0 ≤ ix l (k : Int) ∧ ix l (k : Int) < n ∧ (0 < k → ix l ((k : Int) - 1) < ix l (k : Int)) := of_decide_eq_true (allN_true.1 h k hk)
theorem isSetB_lt {l : List Int} {n : Int} (h : isSetB l n = true) {i j : Nat} (hij : i < j) (hj : j < l.length) : ix l (i : Int) < ix l (j : Int) := by
  induction j with
  | zero => omega
  | succ j ih =>
    have := (isSetB_at h hj).2.2 (by omega)
    rw [show ((j + 1 : Nat) : Int) - 1 = (j : Int) by omega] at this
    rcases Nat.lt_or_ge i j with q | q
    · have := ih q (by omega); omega
    · obtain rfl : i = j := by omega
      exact this
theorem isSetB_len {l : List Int} {n : Int} (h : isSetB l n = true) : ∀ {k : Nat}, k < l.length → (k : Int) ≤ ix l (k : Int)
  | 0, hk => (isSetB_at h hk).1
  | k + 1, hk => by have h1 := isSetB_len h (k := k) (by omega); have h2 : ix l (k : Int) < ix l ((k + 1 : Nat) : Int) := isSetB_lt h (Nat.lt_succ_self k) hk; omega
theorem isSetB_le {l : List Int} {n : Int} (h : isSetB l n = true) (hn : 0 ≤ n) : (l.length : Int) ≤ n := by
  rcases Nat.eq_zero_or_pos l.length with q | q
  · omega
  · have := isSetB_len h (k := l.length - 1) (by omega); have := (isSetB_at h (k := l.length - 1) (by omega)).2.1; omega
theorem isSetB_mem {l : List Int} {n : Int} (h : isSetB l n = true) {x : Int} (hx : x ∈ l) : 0 ≤ x ∧ x < n := by
  obtain ⟨k, hk, rfl⟩ := List.getElem_of_mem hx
  have := isSetB_at h hk
  rw [ix_get hk] at this; exact ⟨this.1, this.2.1⟩
def setWr (h : api_History) (l : List Int) : List api_Write := l.map fun n => ix h.Writes n
theorem members_ok {l : List Int} {c : history_checked} (hl : l.length ≤ 1000000) (hb : isSetB l (c.History.Writes.length : Int) = true) : history_checked_members_1_I l c (l.map fun n => (n, ix c.History.Writes n, ())) := by
  refine LoopW.upT l.length (fun k => ((l.drop k).map fun n => (n, ix c.History.Writes n, ()), (k : Int))) rfl (fun k rec hk hr => ?_) fun rec => ⟨fun _ => by omega, fun _ => by rw [List.drop_length]; rfl⟩
  have := isSetB_at hb hk
  refine ⟨fun _ => ⟨iX (by omega) (by omega), iX (by omega) (by omega), ?_⟩, fun _ => by omega⟩
  rw [drop_ix hk]
  exact ⟨rfl, ⟨iI (by omega) (by omega), hr _ rfl⟩, trivial⟩
theorem mem_ix {α : Type} [Dt α] {xs : List α} {i : Int} (h0 : 0 ≤ i) (h1 : i < (xs.length : Int)) : ix xs i ∈ xs := ix_mem ⟨h0, h1⟩
theorem setWr_fit {h : api_History} (hz : histE h = 0) {l : List Int} (hb : isSetB l (h.Writes.length : Int) = true) : ∀ w ∈ setWr h l, fitW h.Sizes w = 0 := by
  intro w hw
  obtain ⟨n, hn, rfl⟩ := List.mem_map.1 hw
  have := isSetB_mem hb hn
  exact (histE_zero hz).2.2.1 _ (mem_ix this.1 this.2)
def imgH (h : api_History) (l : List Int) : List (List Sec) := appL (zeroI h.Sizes) (setWr h l)
theorem history_Image_ok {h : api_History} {l : List Int} {Φ : List (List Sec) × Int → Prop} (hh : SmallH h) (hl : l.length ≤ 1000000) (k0 : histE h = 0 → isSetB l (h.Writes.length : Int) = true → Φ (imgH h l, 0)) (k1 : histE h ≠ 0 → Φ ([], histE h)) (k2 : histE h = 0 → isSetB l (h.Writes.length : Int) = false → Φ ([], 2)) : Z60 h l Φ := by
  refine history_check_ok hh (fun hz => ⟨fun q => absurd rfl q, fun _ => history_checked_isSet_ok hl ⟨fun q => ?_, fun q => ?_⟩⟩) fun hz => ⟨fun _ => k1 hz, fun q => absurd hz q⟩
  · exact k2 hz (by simpa using q)
  · have hb : isSetB l (h.Writes.length : Int) = true := Classical.not_not.1 q
    have hs := (histE_zero hz).1
    refine image_New_ok (fun _ => ⟨l.map fun n => (n, ix h.Writes n, ()), members_ok (c := ⟨h, tlH h⟩) hl hb, ?_⟩) fun q => absurd hs q
    refine LoopW.lst (l.map fun n => (n, ix h.Writes n, ())) (fun k => (l.take k).map fun n => ix h.Writes n) rfl (fun k hk rec hr => ?_) fun rec => ?_
    · rw [List.length_map] at hk
      refine ⟨iL (by rw [len_snoc, List.length_map, lenT (by omega)]; omega) (by omega), hr _ ?_⟩
      rw [map_take_snoc _ hk, List.getElem_map, ix_get hk]
    · have e : (l.map fun n => (n, ix h.Writes n, ())).length = l.length := List.length_map _
      rw [e]
      simp only [take_all]
      refine image_Apply_ok (Φ := fun v7 => Φ (v7.1, v7.2.2)) (l := setWr h l) (by unfold setWr; rw [List.length_map]; omega) (by unfold imgE; rw [szs_zeroI hs, hs]) (by rw [szs_zeroI hs]; exact setWr_fit hz hb) (k0 hz hb)
def fewH (h : api_History) : Bool := decide (h.Sizes.length ≤ 9 ∧ h.Writes.length ≤ 40 ∧ h.Events.length ≤ 90) && (h.Sizes.all (fun n => decide (n ≤ 24)) && h.Writes.all fun w => decide (w.Data.length ≤ 30))
theorem ref15_Few_ok {h : api_History} {Φ : Bool → Prop} (hΦ : Φ (fewH h)) : ref15_Few_W h Φ := by
  unfold fewH at hΦ
  refine ⟨fun q => by rw [decide_eq_false (by omega)] at hΦ; exact hΦ, fun q => ⟨fun r => by rw [decide_eq_false (by omega)] at hΦ; exact hΦ, fun r => ⟨fun s => by rw [decide_eq_false (by omega)] at hΦ; exact hΦ, fun s => ?_⟩⟩⟩
  rw [decide_eq_true (by omega), Bool.true_and] at hΦ
  refine LoopW.findI h.Sizes.length (fun k => !decide (ix h.Sizes (k : Int) ≤ 24)) (fun k rec hk _ hr => ⟨fun _ => ⟨iX (by omega) (by omega), fun t => ?_, fun t => ⟨iI (by omega) (by omega), hr (by simp; omega)⟩⟩, fun _ => by omega⟩) fun rec hn => ⟨fun _ => by omega, fun _ => ?_⟩
  · rw [show h.Sizes.all (fun n => decide (n ≤ 24)) = false from by
      rw [List.all_eq_not_any_not, any_true_ix hk (by simp; omega)]; rfl] at hΦ
    exact hΦ
  · rw [show h.Sizes.all (fun n => decide (n ≤ 24)) = true from by
      rw [List.all_eq_not_any_not, any_false_ix fun k hk => by simpa using hn k hk]; rfl, Bool.true_and] at hΦ
    exact LoopW.allE h.Writes (fun w => decide (w.Data.length ≤ 30)) hΦ (fun k rec hk h1 h2 => ⟨fun _ => ⟨iX (by omega) (by omega), fun t => h1 (decide_eq_false (by omega)), fun t => ⟨iI (by omega) (by omega), h2 (decide_eq_true (by omega))⟩⟩, fun _ => by omega⟩) fun rec h0 => ⟨fun _ => by omega, fun _ => h0⟩
theorem fewH_small {h : api_History} (hf : fewH h = true) : SmallH h ∧ h.Writes.length ≤ 40 := by
  unfold fewH at hf
  rw [Bool.and_eq_true, Bool.and_eq_true, decide_eq_true_iff] at hf
  refine ⟨⟨by omega, by omega, fun k hk => ?_⟩, by omega⟩
  have := List.all_eq_true.1 hf.2.2 (ix h.Writes (k : Int)) (mem_ix (by omega) (by omega))
  have := of_decide_eq_true this
  omega
def wr (h : api_History) (i : Nat) : api_Write := ix h.Writes (i : Int)
theorem hist_fit {h : api_History} (hz : histE h = 0) {k : Nat} (hk : k < h.Writes.length) : 0 ≤ (wr h k).Volume ∧ (wr h k).Volume < (h.Sizes.length : Int) ∧ 1 ≤ (wr h k).Data.length ∧ 0 ≤ (wr h k).Start ∧ (wr h k).Start + ((wr h k).Data.length : Int) ≤ ix h.Sizes (wr h k).Volume ∧ ix h.Sizes (wr h k).Volume ≤ 4096 := by
  unfold histE at hz
  by_cases q : sizesE h.Sizes ≠ 0
  · rw [if_pos q] at hz; exact absurd hz q
  · rw [if_neg q] at hz
    split at hz
    · omega
    · by_cases r : firstN (fun k => fitW h.Sizes (ix h.Writes (k : Int))) h.Writes.length ≠ 0
      · rw [if_pos r] at hz; exact absurd hz r
      · exact fitW_zero q (firstN_zero.1 (Classical.not_not.1 r) k hk)
theorem hist_wr {h : api_History} (hz : histE h = 0) : h.Writes.length ≤ 4096 := by
  unfold histE at hz
  split at hz
  · rename_i q; exact absurd hz q
  · split at hz
    · omega
    · omega
theorem history_Check_ok {h : api_History} {Φ : Int → Prop} (hh : SmallH h) (hΦ : Φ (histE h)) : Z9 h Φ :=
  history_check_ok hh (fun q => by rw [q] at hΦ; exact hΦ) fun _ => hΦ
theorem paste_rep {a z : Int} {c m : Nat} : paste (List.replicate c a ++ List.replicate m z) (c : Int) (List.replicate c a) = List.replicate (c + min c m) a ++ List.replicate (m - min c m) z := by
  unfold paste
  rw [Int.toNat_natCast, List.length_append, List.length_replicate, List.length_replicate, Nat.add_sub_cancel_left, List.take_left' List.length_replicate, List.take_replicate, ← List.append_assoc, List.replicate_append_replicate, List.drop_append, List.length_replicate, List.drop_replicate, List.drop_replicate,
    show c - (c + min c m) = 0 by omega, show m - (c + min c m - c) = m - min c m by omega, show min m c = min c m by omega]
  rfl
theorem repeat_loop {a : Int} {n c : Nat} {Φ : List Int → Prop} (hn : n ≤ 100000) (hc : c ≤ n) (h0 : 0 < c ∨ n = 0) (hΦ : Φ (List.replicate n a)) : LoopW (Z12 Φ) ((c : Int), List.replicate c a ++ List.replicate (n - c) 0) := by
  refine LoopW.of_inv (fun s => ∃ c : Nat, s = ((c : Int), List.replicate c a ++ List.replicate (n - c) 0) ∧ c ≤ n ∧ (0 < c ∨ n = 0)) (fun s => (n : Int).toNat - s.1.toNat) ?_ ⟨c, rfl, hc, h0⟩
  rintro _ rec ⟨c, rfl, hc, h0⟩ hrec
  have hl : (List.replicate c a ++ List.replicate (n - c) (0 : Int)).length = n := by rw [List.length_append, List.length_replicate, List.length_replicate]; omega
  have hs : sub (List.replicate c a ++ List.replicate (n - c) (0 : Int)) 0 (c : Int) = List.replicate c a := by
    rw [sub0, List.take_left' List.length_replicate]
  refine ⟨fun q => ?_, fun q => ?_⟩
  · rw [hs, hl, paste_rep, List.length_replicate, Int.toNat_natCast]
    rw [hl] at q
    refine ⟨⟨by omega, by omega, by omega⟩, ⟨by omega, by omega, by omega⟩, iI (by omega) (by omega), hrec _ ⟨c + min c (n - c), ?_, by omega, .inl (by omega)⟩ ?_⟩
    · rw [show n - (c + min c (n - c)) = n - c - min c (n - c) by omega]; rfl
    · show (n : Int).toNat - ((c : Int) + ((min c (n - c) : Nat) : Int)).toNat < (n : Int).toNat - ((c : Int)).toNat
      omega
  · rw [hl] at q
    obtain rfl : c = n := by omega
    rw [Nat.sub_self, List.replicate_zero, List.append_nil]
    exact hΦ
theorem shr32 {n : Nat} (hn : n ≤ 100000) : (BitVec.ofNat 64 n) >>> 32 = 0#64 := by
  apply BitVec.eq_of_toNat_eq
  rw [BitVec.toNat_ushiftRight, BitVec.toNat_ofNat, Nat.mod_eq_of_lt (by omega), Nat.shiftRight_eq_div_pow]
  show n / 4294967296 = 0
  omega
theorem and32 {n : Nat} (hn : n ≤ 100000) : (BitVec.ofNat 64 n) &&& 4294967295#64 = BitVec.ofNat 64 n := by
  apply BitVec.eq_of_toNat_eq
  rw [BitVec.toNat_and, BitVec.toNat_ofNat, Nat.mod_eq_of_lt (by omega)]
  show n &&& (2 ^ 32 - 1) = n
  rw [Nat.and_two_pow_sub_one_eq_mod]
  omega
theorem mul_one_ok {n : Nat} {Φ : BitVec 64 × BitVec 64 → Prop} (hn : n ≤ 100000) (hΦ : Φ (0#64, BitVec.ofNat 64 n)) : Z11 (BitVec.ofInt 64 ((1 : Nat) : Int)) (BitVec.ofInt 64 (n : Int)) Φ := by
  have e1 : BitVec.ofInt 64 ((1 : Nat) : Int) = 1#64 := rfl
  have e2 : BitVec.ofInt 64 (n : Int) = BitVec.ofNat 64 n := BitVec.ofInt_natCast ..
  have e3 : ((32#64).toNat : Int).toNat = 32 := rfl
  have e4 : (1#64) >>> 32 = 0#64 := rfl
  have e5 : (1#64) &&& 4294967295#64 = 1#64 := rfl
  show Φ _
  rw [e1, e2]
  simp only [e3, e4, e5, shr32 hn, and32 hn, BitVec.zero_mul, BitVec.mul_zero, BitVec.one_mul, BitVec.zero_add, BitVec.add_zero, BitVec.zero_and]
  exact hΦ
theorem slices_Repeat_int_ok {a : Int} {n : Nat} {Φ : List Int → Prop} (hn : n ≤ 100000) (hΦ : Φ (List.replicate n a)) : Z14 [a] (n : Int) Φ := by
  have e : (BitVec.ofNat 64 n).toInt = (n : Int) := by rw [BitVec.toInt_eq_toNat_cond, BitVec.toNat_ofNat, Nat.mod_eq_of_lt (by omega), if_pos (by omega)]
  have no : Z13 [a] (0#64, BitVec.ofNat 64 n) Φ false := by
    refine ⟨fun q => Bool.noConfusion q, fun _ => ⟨by show 0 ≤ (BitVec.ofNat 64 n).toInt; rw [e]; omega, ?_, ?_⟩⟩
    · show lenOk (BitVec.ofNat 64 n).toInt.toNat 8
      rw [e]
      exact ⟨by show n * 8 ≤ _; omega, by show n ≤ maxLen; unfold maxLen; omega⟩
    · show LoopW (Z12 Φ) (((min 1 ((List.replicate (BitVec.ofNat 64 n).toInt.toNat (0 : Int)).length - 0) : Nat) : Int), paste (List.replicate (BitVec.ofNat 64 n).toInt.toNat (0 : Int)) 0 [a])
      rw [e, Int.toNat_natCast, List.length_replicate, Nat.sub_zero]
      have h := repeat_loop (a := a) (n := n) (c := min 1 n) hn (by omega) (by omega) hΦ
      have p : paste (List.replicate n (0 : Int)) 0 [a] = List.replicate (min 1 n) a ++ List.replicate (n - min 1 n) 0 := by
        cases n with
        | zero => rfl
        | succ n => rw [show min 1 (n + 1) = 1 by omega, Nat.add_sub_cancel, List.replicate_succ]; unfold paste; simp
      rw [p]; exact h
  refine ⟨fun q => by omega, fun _ => mul_one_ok hn ⟨fun q => ?_, fun _ => ?_⟩⟩
  · exact absurd (show (0#64) < (0#64) from q) (by decide)
  · rw [show decide ((9223372036854775807#64) < (BitVec.ofNat 64 n)) = false from ?_]
    · exact no
    · rw [decide_eq_false_iff_not, BitVec.lt_def]
      have : (BitVec.ofNat 64 n).toNat = n := by rw [BitVec.toNat_ofNat, Nat.mod_eq_of_lt (by omega)]
      rw [this]
      show ¬ (9223372036854775807 < n)
      omega
def relL (l : List api_HistoryEvent) (t : Int) (n : Nat) (N : Int) (k : Nat) : List Int := (List.range n).map fun w : Nat => if 0 ≤ atN l k ⟨t, (w : Int)⟩ then atN l k ⟨t, (w : Int)⟩ else N
theorem relL_len {l : List api_HistoryEvent} {t : Int} {n k : Nat} {N : Int} : (relL l t n N k).length = n := by unfold relL; rw [List.length_map, List.length_range]
theorem ix_relL {l : List api_HistoryEvent} {t : Int} {n k w : Nat} {N : Int} (h : w < n) : ix (relL l t n N k) (w : Int) = if 0 ≤ atN l k ⟨t, (w : Int)⟩ then atN l k ⟨t, (w : Int)⟩ else N := by
  rw [ix_get (by rw [relL_len]; exact h)]
  unfold relL
  rw [List.getElem_map, List.getElem_range]
theorem relL_zero {l : List api_HistoryEvent} {t : Int} {n : Nat} {N : Int} : relL l t n N 0 = List.replicate n N := by
  unfold relL
  rw [List.eq_replicate_iff]
  refine ⟨by rw [List.length_map, List.length_range], fun x hx => ?_⟩
  obtain ⟨w, _, rfl⟩ := List.mem_map.1 hx
  rw [if_neg (by show ¬ (0 : Int) ≤ -1; omega)]
theorem relL_miss {l : List api_HistoryEvent} {t : Int} {n k : Nat} {N : Int} (h : (ix l (k : Int)).Kind ≠ t) : relL l t n N (k + 1) = relL l t n N k := by
  unfold relL
  refine List.map_congr_left fun w _ => ?_
  rw [atN_keep fun e => h (by rw [e])]
theorem relL_hit {l : List api_HistoryEvent} {t : Int} {n k w : Nat} {N : Int} (hw : w < n) (h : ix l (k : Int) = ⟨t, (w : Int)⟩) (hn : ¬ 0 ≤ atN l k ⟨t, (w : Int)⟩) : relL l t n N (k + 1) = put (relL l t n N k) (w : Int) (k : Int) := by
  have hp : ∀ j : Nat, j < n → ix (relL l t n N (k + 1)) (j : Int) = ix (put (relL l t n N k) (w : Int) (k : Int)) (j : Int) := by
    intro j hj
    rw [ix_relL hj, ix_put _ _ (by rw [relL_len]; exact hw)]
    by_cases q : j = w
    · subst q
      rw [if_pos rfl, atN_succ, if_neg hn, if_pos h, if_pos (by omega)]
    · rw [if_neg q, ix_relL hj, atN_keep fun e => q ?_]
      rw [h] at e
      exact (Int.ofNat.inj (congrArg api_HistoryEvent.Write e)).symm
  exact ext_ix (by rw [put_len, relL_len, relL_len]) fun j hj => hp j (by rw [relL_len] at hj; exact hj)
theorem hist_ev {h : api_History} (hz : histE h = 0) {k : Nat} (hk : k < h.Events.length) : evErr h.Events h.Writes.length k = 0 := by
  unfold histE at hz
  split at hz
  · rename_i q; exact absurd hz q
  · split at hz
    · omega
    · split at hz
      · rename_i q; exact absurd hz q
      · unfold evE at hz
        by_cases r : firstN (evErr h.Events h.Writes.length) h.Events.length ≠ 0
        · rw [if_pos r] at hz; exact absurd hz r
        · exact firstN_zero.1 (Classical.not_not.1 r) k hk
theorem ev_put {h : api_History} (hz : histE h = 0) {N : Int} {k : Nat} (hk : k < h.Events.length) :
    ((ix h.Events (k : Int)).Kind = 0 → ∃ w : Nat, (ix h.Events (k : Int)).Write = (w : Int) ∧ w < h.Writes.length ∧ relL h.Events 0 h.Writes.length N (k + 1) = put (relL h.Events 0 h.Writes.length N k) (w : Int) (k : Int) ∧ relL h.Events 1 h.Writes.length N (k + 1) = relL h.Events 1 h.Writes.length N k) ∧
    ((ix h.Events (k : Int)).Kind ≠ 0 → ∃ w : Nat, (ix h.Events (k : Int)).Write = (w : Int) ∧ w < h.Writes.length ∧ relL h.Events 1 h.Writes.length N (k + 1) = put (relL h.Events 1 h.Writes.length N k) (w : Int) (k : Int) ∧ relL h.Events 0 h.Writes.length N (k + 1) = relL h.Events 0 h.Writes.length N k) := by
  have h0 : ∀ j, j < k → evErr h.Events h.Writes.length j = 0 := fun j hj => hist_ev hz (by omega)
  refine ⟨fun q => ?_, fun q => ?_⟩
  · have e := evErr_issue (hist_ev hz hk) q
    refine ⟨cntI h.Events k, by rw [e.1], e.2, relL_hit e.2 e.1 (fun t => by have := (at_issue h0 _).1 t; omega), relL_miss (by rw [q]; decide)⟩
  · have e := evErr_ack (hist_ev hz hk) q
    have c := cnt_le h0
    have w : (((ix h.Events (k : Int)).Write.toNat : Nat) : Int) = (ix h.Events (k : Int)).Write := Int.toNat_of_nonneg e.2.1
    refine ⟨(ix h.Events (k : Int)).Write.toNat, w.symm, by omega, relL_hit (by omega) (by rw [w]; exact e.1) (by rw [w, ← e.1, e.2.2.2]; omega), relL_miss q⟩
def issW (h : api_History) : List Int := relL h.Events 0 h.Writes.length h.Events.length h.Events.length
def ackW (h : api_History) : List Int := relL h.Events 1 h.Writes.length h.Events.length h.Events.length
theorem least_relate {h : api_History} {l : List Int} {Φ : List Int × Int → Prop} (hh : SmallH h) (hz : histE h = 0) (he : LoopW (cut_Least_L3 h l (issW h) (ackW h) Φ) (0, [])) :
    LoopW (cut_Least_L2 h l Φ) (0, List.replicate h.Writes.length (h.Events.length : Int), List.replicate h.Writes.length (h.Events.length : Int)) := by
  have hev := hh.ev
  refine LoopW.upT h.Events.length (fun k => ((k : Int), relL h.Events 0 h.Writes.length h.Events.length k, relL h.Events 1 h.Writes.length h.Events.length k)) (by rw [relL_zero, relL_zero]; rfl) (fun k rec hk hr => ⟨fun _ => ⟨iX (by omega) (by omega), fun q => ?_, fun q => ?_⟩, fun r => by omega⟩) fun rec => ⟨fun r => by omega, fun _ => ⟨fun r => absurd rfl r, fun _ => he⟩⟩
  · obtain ⟨w, e1, e2, e3, e4⟩ := (ev_put hz (N := (h.Events.length : Int)) hk).1 q
    refine ⟨iX (by rw [e1]; omega) (by rw [e1, relL_len]; omega), iI (by omega) (by omega), hr _ ?_⟩
    rw [e1, e3, e4]; rfl
  · obtain ⟨w, e1, e2, e3, e4⟩ := (ev_put hz (N := (h.Events.length : Int)) hk).2 q
    refine ⟨iX (by rw [e1]; omega) (by rw [e1, relL_len]; omega), iI (by omega) (by omega), hr _ ?_⟩
    rw [e1, e3, e4]; rfl
def markL (n : Nat) (l : List Int) : List Bool := (List.range n).map fun w : Nat => decide ((w : Int) ∈ l)
theorem markL_len {n : Nat} {l : List Int} : (markL n l).length = n := by unfold markL; rw [List.length_map, List.length_range]
theorem ix_markL {n w : Nat} {l : List Int} (h : w < n) : ix (markL n l) (w : Int) = decide ((w : Int) ∈ l) := by
  rw [ix_get (by rw [markL_len]; exact h)]
  unfold markL
  rw [List.getElem_map, List.getElem_range]
theorem markL_put {n k w : Nat} {l : List Int} (hk : k < l.length) (hw : w < n) (e : ix l (k : Int) = (w : Int)) : markL n (l.take (k + 1)) = put (markL n (l.take k)) (w : Int) true := by
  refine ext_ix (by rw [put_len, markL_len, markL_len]) fun j hj => ?_
  rw [markL_len] at hj
  rw [ix_markL hj, ix_put _ _ (by rw [markL_len]; exact hw), ix_markL hj, take_ix hk, e]
  by_cases q : j = w
  · rw [if_pos q, q, decide_eq_true_iff]; simp
  · rw [if_neg q]
    have : (j : Int) ≠ (w : Int) := by omega
    simp [this]
theorem cut_relation_mark_ok {r : Ptr cut_relation} {n : Nat} {l : List Int} {Φ : List Bool × Bool → Prop} (hr : r.val.n = (n : Int)) (hn : n ≤ 100000) (hl : l.length ≤ 1000000) (h1 : isSetB l (n : Int) = true → Φ (markL n l, true)) (h0 : isSetB l (n : Int) = false → Φ ([], false)) : Z17 r l Φ := by
  unfold Z17
  rw [hr]
  have z : List.replicate n false = markL n (l.take 0) := by
    refine ext_ix (by rw [markL_len, List.length_replicate]) fun j hj => ?_
    rw [List.length_replicate] at hj
    rw [ix_markL hj, ix_get (by rw [List.length_replicate]; exact hj), List.getElem_replicate]; simp
  refine ⟨by omega, ⟨by rw [Int.toNat_natCast]; omega, by rw [Int.toNat_natCast]; unfold maxLen; omega⟩, ?_⟩
  rw [Int.toNat_natCast, z]
  refine LoopW.upI l.length (fun k => ((k : Int), markL n (l.take k))) (fun k => ∀ j, j < k → isSetP l (n : Int) j = true) rfl (fun j hj => absurd hj (Nat.not_lt_zero j)) (fun k rec hk hI hrec => ⟨fun _ => ⟨iX (by omega) (by omega), ?_⟩, fun q => by omega⟩) fun rec hI => ⟨fun q => by omega, fun _ => ?_⟩
  · have bad : isSetP l (n : Int) k = false → Z15 l (k : Int) (markL n (l.take k)) rec Φ true := fun t => ⟨fun _ => h0 (allN_false hk t), fun u => absurd rfl u⟩
    have good : isSetP l (n : Int) k = true → 0 ≤ ix l (k : Int) → ix l (k : Int) < (n : Int) → Z15 l (k : Int) (markL n (l.take k)) rec Φ false := fun t a b => ⟨fun u => Bool.noConfusion u, fun _ => ⟨iX a (by rw [markL_len]; exact b), iI (by omega) (by omega), hrec (fun j hj => by
      rcases Nat.lt_or_ge j k with c | c
      · exact hI j c
      · obtain rfl : j = k := by omega
        exact t) _ (by
      have w : (((ix l (k : Int)).toNat : Nat) : Int) = ix l (k : Int) := Int.toNat_of_nonneg a
      rw [markL_put hk (w := (ix l (k : Int)).toNat) (by omega) w.symm, w]; rfl)⟩⟩
    unfold isSetP at bad good
    refine ⟨fun q => bad (decide_eq_false (by omega)), fun q => ⟨fun s => bad (decide_eq_false (by rw [hr] at s; omega)), fun s => ?_⟩⟩
    rw [hr] at s
    refine ⟨fun t => ⟨iI (by omega) (by omega), iX (by omega) (by omega), ?_⟩, fun t => good (decide_eq_true ⟨by omega, by omega, fun u => by omega⟩) (by omega) (by omega)⟩
    by_cases u : ix l (k : Int) ≤ ix l ((k : Int) - 1)
    · rw [decide_eq_true u]; exact bad (decide_eq_false (by omega))
    · rw [decide_eq_false u]; exact good (decide_eq_true ⟨by omega, by omega, fun _ => by omega⟩) (by omega) (by omega)
  · have := h1 (allN_true.2 hI)
    rw [List.take_length]; exact this
def memL (ms : List Bool) (k : Nat) : List (Int × Unit) := ((List.range' k (ms.length - k)).filter fun w : Nat => ix ms (w : Int)).map fun w : Nat => ((w : Int), ())
theorem memL_step {ms : List Bool} {k : Nat} (h : k < ms.length) : memL ms k = if ix ms (k : Int) = true then ((k : Int), ()) :: memL ms (k + 1) else memL ms (k + 1) := by
  unfold memL
  rw [show ms.length - k = (ms.length - (k + 1)) + 1 by omega, List.range'_succ, List.filter_cons]
  by_cases q : ix ms (k : Int) = true
  · rw [if_pos q, if_pos q]; rfl
  · rw [if_neg q, if_neg q]
theorem marks_members_ok {ms : List Bool} (hl : ms.length ≤ 1000000) : cut_marks_members_1_I ms (memL ms 0) := by
  refine LoopW.upT ms.length (fun k => (memL ms k, (k : Int))) rfl (fun k rec hk hr => ⟨fun _ => ⟨iX (by omega) (by omega), fun q => ?_, fun q => ⟨iI (by omega) (by omega), hr _ (by rw [memL_step hk, if_neg q]; rfl)⟩⟩, fun q => by omega⟩) fun rec => ⟨fun q => by omega, fun _ => by show memL ms ms.length = []; unfold memL; rw [Nat.sub_self]; rfl⟩
  rw [memL_step hk, if_pos q]
  exact ⟨rfl, ⟨iI (by omega) (by omega), hr _ rfl⟩, trivial⟩
theorem memL_le {ms : List Bool} {k : Nat} : (memL ms k).length ≤ ms.length := by
  unfold memL
  rw [List.length_map]
  have := List.length_filter_le (fun w : Nat => ix ms (w : Int)) (List.range' k (ms.length - k))
  rw [List.length_range'] at this
  omega
theorem marks_list_ok {ms : List Bool} {Φ : List Int → Prop} (hl : ms.length ≤ 1000000) (hΦ : Φ ((memL ms 0).map Prod.fst)) : Z32 ms Φ := by
  have hm := memL_le (ms := ms) (k := 0)
  refine ⟨_, marks_members_ok hl, LoopW.lst (memL ms 0) (fun k => ((memL ms 0).take k).map Prod.fst) rfl (fun k hk rec hr => ⟨⟨?_, ?_⟩, hr _ ?_⟩) fun rec => by show Φ _; rw [List.take_length]; exact hΦ⟩
  · show (List.map Prod.fst ((memL ms 0).take k) ++ [_]).length * 8 ≤ _
    rw [List.length_append, List.length_map, List.length_take, List.length_singleton]; omega
  · show (List.map Prod.fst ((memL ms 0).take k) ++ [_]).length ≤ maxLen
    rw [List.length_append, List.length_map, List.length_take, List.length_singleton]; unfold maxLen; omega
  · rw [List.take_succ_eq_append_getElem hk, List.map_append]; rfl
def befC (h : api_History) (a b : Nat) : Bool := decide (ix (ackW h) (a : Int) < ix (issW h) (b : Int))
theorem cut_before_ok {h : api_History} {n e : Int} {a b : Nat} {Φ : Bool → Prop} (ha : a < h.Writes.length) (hb : b < h.Writes.length) (hΦ : Φ (befC h a b)) : Z18 (Ptr.mk (cut_relation.mk n e (issW h) (ackW h))) (a : Int) (b : Int) Φ :=
  ⟨iX (by omega) (by show (a : Int) < ((ackW h).length : Int); unfold ackW; rw [relL_len]; omega), iX (by omega) (by show (b : Int) < ((issW h).length : Int); unfold issW; rw [relL_len]; omega), hΦ⟩
def growL (h : api_History) (ms : List Bool) (b k : Nat) : List Bool := (List.range ms.length).map fun a : Nat => ix ms (a : Int) || (decide (a < k) && befC h a b)
theorem growL_len {h : api_History} {ms : List Bool} {b k : Nat} : (growL h ms b k).length = ms.length := by unfold growL; rw [List.length_map, List.length_range]
theorem ix_growL {h : api_History} {ms : List Bool} {b k a : Nat} (ha : a < ms.length) : ix (growL h ms b k) (a : Int) = (ix ms (a : Int) || (decide (a < k) && befC h a b)) := by
  rw [ix_get (by rw [growL_len]; exact ha)]
  unfold growL
  rw [List.getElem_map, List.getElem_range]
theorem growL_zero {h : api_History} {ms : List Bool} {b : Nat} : growL h ms b 0 = ms := ext_ix growL_len fun a ha => by
  rw [growL_len] at ha
  rw [ix_growL ha]; simp
theorem growL_put {h : api_History} {ms : List Bool} {b k : Nat} (hk : k < ms.length) : growL h ms b (k + 1) = put (growL h ms b k) (k : Int) (ix ms (k : Int) || befC h k b) := ext_ix (by rw [put_len, growL_len, growL_len]) fun a ha => by
  rw [growL_len] at ha
  rw [ix_growL ha, ix_put _ _ (by rw [growL_len]; exact hk), ix_growL ha]
  by_cases q : a = k
  · subst q; simp
  · rw [if_neg q]
    have : decide (a < k + 1) = decide (a < k) := decide_eq_decide.2 (by omega)
    rw [this]
theorem least_L5 {h : api_History} {ms : List Bool} {b : Nat} {rec4 : (List (Int × Unit) × List Bool) → Prop} {r : List (Int × Unit)} {Φ : List Int × Int → Prop} (hw : h.Writes.length ≤ 4096) (hm : ms.length = h.Writes.length) (hb : b < h.Writes.length) (hr : rec4 (r, growL h ms b h.Writes.length)) :
    LoopW (cut_Least_L5 h (issW h) (ackW h) rec4 ((b : Int), ()) r Φ) (0, ms) := by
  refine LoopW.upT h.Writes.length (fun k => ((k : Int), growL h ms b k)) (by rw [growL_zero]; rfl) (fun k rec hk hrec => ?_) fun rec => ⟨fun q => by omega, fun _ => hr⟩
  have hx : ix (growL h ms b k) (k : Int) = ix ms (k : Int) := by
    rw [ix_growL (by omega)]
    have : decide (k < k) = false := decide_eq_false (by omega)
    rw [this, Bool.false_and, Bool.or_false]
  have hi : inX (k : Int) (growL h ms b k).length := iX (by omega) (by rw [growL_len]; omega)
  refine ⟨fun _ => ⟨hi, fun q => ⟨hi, iI (by omega) (by omega), hrec _ ?_⟩, fun q => ⟨_, cut_before_ok hk hb rfl, hi, iI (by omega) (by omega), hrec _ ?_⟩⟩, fun q => by omega⟩
  · rw [hx] at q; rw [growL_put (by omega), q]; rfl
  · rw [hx] at q; rw [growL_put (by omega), Bool.eq_false_iff.2 q]; rfl
def growsL (h : api_History) (ms : List Bool) : List (Int × Unit) → List Bool
  | [] => ms
  | p :: l => growsL h (growL h ms p.1.toNat h.Writes.length) l
theorem growsL_len {h : api_History} : ∀ {l : List (Int × Unit)} {ms : List Bool}, (growsL h ms l).length = ms.length
  | [], _ => rfl
  | _ :: l, _ => (growsL_len (l := l)).trans growL_len
theorem least_L4 {h : api_History} {Φ : List Int × Int → Prop} (hw : h.Writes.length ≤ 4096) : ∀ {l : List (Int × Unit)} {ms : List Bool}, ms.length = h.Writes.length → (∀ p ∈ l, 0 ≤ p.1 ∧ p.1 < (h.Writes.length : Int)) → Φ ((memL (growsL h ms l) 0).map Prod.fst, 0) → LoopW (cut_Least_L4 h (issW h) (ackW h) Φ) (l, ms) := by
  intro l ms hm hl hΦ
  refine LoopW.of_inv (fun s => s.2.length = h.Writes.length ∧ (∀ p ∈ s.1, 0 ≤ p.1 ∧ p.1 < (h.Writes.length : Int)) ∧ Φ ((memL (growsL h s.2 s.1) 0).map Prod.fst, 0)) (fun s => s.1.length) ?_ ⟨hm, hl, hΦ⟩
  rintro ⟨l, ms⟩ rec ⟨hm, hl, hΦ⟩ hrec
  cases l with
  | nil => exact marks_list_ok (by show ms.length ≤ 1000000; have : ms.length = h.Writes.length := hm; omega) hΦ
  | cons p l =>
    obtain ⟨b, u⟩ := p
    have hb := hl (b, u) List.mem_cons_self
    have e : ((b.toNat : Nat) : Int) = b := Int.toNat_of_nonneg hb.1
    have hq := least_L5 (Φ := Φ) (rec4 := rec) (r := l) (b := b.toNat) hw hm (by have := hb.2; have : b < (h.Writes.length : Int) := hb.2; omega) (hrec _ ⟨growL_len.trans hm, fun p hp => hl p (List.mem_cons_of_mem _ hp), hΦ⟩ (by show l.length < l.length + 1; omega))
    rw [e] at hq
    exact hq
def leastC (h : api_History) (l : List Int) : List Int := (memL (growsL h (markL h.Writes.length l) (memL (markL h.Writes.length l) 0)) 0).map Prod.fst
def leastR (h : api_History) (l : List Int) : List Int × Int := if histE h ≠ 0 then ([], histE h) else if isSetB l (h.Writes.length : Int) = false then ([], 2) else (leastC h l, 0)
theorem memL_rg {ms : List Bool} {p : Int × Unit} {k : Nat} (hp : p ∈ memL ms k) : 0 ≤ p.1 ∧ p.1 < (ms.length : Int) := by
  unfold memL at hp
  obtain ⟨w, hw, rfl⟩ := List.mem_map.1 hp
  have := List.mem_range'_1.1 (List.mem_filter.1 hw).1
  exact ⟨by show (0 : Int) ≤ (w : Int); omega, by show (w : Int) < (ms.length : Int); omega⟩
theorem cut_Least_ok {h : api_History} {l : List Int} {Φ : List Int × Int → Prop} (hh : SmallH h) (hl : l.length ≤ 1000000) (hΦ : Φ (leastR h l)) : cut_Least_W h l Φ := by
  unfold leastR at hΦ
  refine history_Check_ok hh ⟨fun q => ⟨fun _ => ⟨fun _ => by rw [if_pos q] at hΦ; exact hΦ, fun r => absurd q r⟩, fun r => absurd q r⟩, fun q => ?_⟩
  rw [if_neg q] at hΦ
  have hz : histE h = 0 := Classical.not_not.1 q
  have hw := hist_wr hz
  refine ⟨_, slices_Repeat_int_ok (by omega) rfl, _, slices_Repeat_int_ok (by omega) rfl, least_relate hh hz ⟨2, ?_⟩⟩
  refine ⟨fun _ => ⟨iX (by omega) (by show (0 : Int) < 1; omega), cut_relation_mark_ok (r := Ptr.mk (cut_relation.mk (h.Writes.length : Int) (h.Events.length : Int) (issW h) (ackW h))) rfl (by omega) hl (fun t => ⟨fun u => absurd rfl u, fun _ => ⟨⟨(by show 1 * 24 ≤ _; omega), (by show 1 ≤ maxLen; unfold maxLen; omega)⟩, iI (by omega) (by omega), ?_⟩⟩) fun t => ⟨fun _ => ⟨fun _ => by rw [if_pos (show isSetB l (h.Writes.length : Int) = false from t)] at hΦ; exact hΦ, fun r => absurd (by decide) r⟩, fun u => absurd (fun v => Bool.noConfusion v) u⟩⟩, fun r => absurd (by show (0 : Int) < 1; omega) r⟩
  have t : isSetB l (h.Writes.length : Int) = true := t
  rw [if_neg (by rw [t]; exact fun x => Bool.noConfusion x)] at hΦ
  refine ⟨fun r => absurd r (by show ¬ ((0 : Int) + 1 < 1); omega), fun _ => ⟨fun r => absurd rfl r, fun _ => ⟨iX (by omega) (by show (0 : Int) < 1; omega), ?_⟩⟩⟩
  have hx : ix (([] : List (List Bool)) ++ [markL h.Writes.length l]) 0 = markL h.Writes.length l := rfl
  have tl : inX 0 (([] : List (List Bool)) ++ [markL h.Writes.length l]).length ∧ ∃ l18, cut_marks_members_1_I (ix (([] : List (List Bool)) ++ [markL h.Writes.length l]) 0) l18 ∧ LoopW (cut_Least_L4 h (issW h) (ackW h) Φ) (l18, markL h.Writes.length l) :=
    ⟨iX (by omega) (by show (0 : Int) < 1; omega), _, marks_members_ok (by rw [hx, markL_len]; omega), least_L4 hw markL_len (fun p hp => by have := memL_rg hp; rw [hx, markL_len] at this; exact this) hΦ⟩
  refine ⟨fun e => ?_, ⟨⟨by show (markL h.Writes.length l).length * 1 ≤ _; rw [markL_len]; omega, by show (markL h.Writes.length l).length ≤ maxLen; rw [markL_len]; unfold maxLen; omega⟩, tl⟩⟩
  have e : markL h.Writes.length l = [] := e
  obtain ⟨t1, l18, t2, t3⟩ := tl
  rw [e] at t3
  exact ⟨t1, l18, t2, t3⟩
def selL (n : Nat) (p : Nat → Bool) : List Int := ((List.range n).filter p).map fun w : Nat => (w : Int)
theorem mem_selL {n : Nat} {p : Nat → Bool} {x : Int} : x ∈ selL n p ↔ ∃ w : Nat, x = (w : Int) ∧ w < n ∧ p w = true := by
  unfold selL
  rw [List.mem_map]
  constructor
  · rintro ⟨w, hw, rfl⟩
    have := List.mem_filter.1 hw
    exact ⟨w, rfl, List.mem_range.1 this.1, this.2⟩
  · rintro ⟨w, rfl, h1, h2⟩
    exact ⟨w, List.mem_filter.2 ⟨List.mem_range.2 h1, h2⟩, rfl⟩
theorem mem_selN {n : Nat} {p : Nat → Bool} {w : Nat} : (w : Int) ∈ selL n p ↔ w < n ∧ p w = true := by
  rw [mem_selL]
  exact ⟨fun ⟨v, e, a⟩ => by obtain rfl := Int.ofNat.inj e; exact a, fun a => ⟨w, rfl, a⟩⟩
theorem selL_congr {n : Nat} {p q : Nat → Bool} (h : ∀ w, w < n → p w = q w) : selL n p = selL n q := by
  unfold selL
  rw [List.filter_congr fun w hw => h w (List.mem_range.1 hw)]
theorem selL_len {n : Nat} {p : Nat → Bool} : (selL n p).length ≤ n := by
  unfold selL
  rw [List.length_map]
  have := List.length_filter_le p (List.range n)
  rw [List.length_range] at this; exact this
theorem selL_succ {n : Nat} {p : Nat → Bool} : selL (n + 1) p = selL n p ++ (if p n = true then [(n : Int)] else []) := by
  unfold selL
  rw [filter_range_snoc, List.map_append]
  by_cases q : p n = true
  · rw [if_pos q, if_pos q]; rfl
  · rw [if_neg q, if_neg q]; rfl
theorem memL_sel {ms : List Bool} : (memL ms 0).map Prod.fst = selL ms.length fun w => ix ms (w : Int) := by
  unfold memL selL
  rw [List.map_map, Nat.sub_zero, ← List.range_eq_range']
  rfl
theorem selL_lt {n : Nat} {p : Nat → Bool} : ∀ {k : Nat}, k < (selL n p).length → 0 ≤ ix (selL n p) (k : Int) ∧ ix (selL n p) (k : Int) < (n : Int) := by
  intro k hk
  obtain ⟨w, e, h1, _⟩ := mem_selL.1 (mem_ix (xs := selL n p) (i := (k : Int)) (by omega) (by omega))
  omega
theorem ix_app_l {xs ys : List Int} {k : Nat} (h : k < xs.length) : ix (xs ++ ys) (k : Int) = ix xs (k : Int) := by
  rw [ix_get (by rw [List.length_append]; omega), ix_get h, List.getElem_append_left h]
theorem selL_set {n : Nat} {p : Nat → Bool} {N : Int} : ∀ {m : Nat}, m ≤ n → (n : Int) ≤ N → isSetB (selL m p) N = true := by
  intro m
  induction m with
  | zero => intro _ _; exact allN_true.2 fun k hk => absurd hk (Nat.not_lt_zero k)
  | succ m ih =>
    intro hm hN
    have h0 := allN_true.1 (ih (by omega) hN)
    rw [selL_succ]
    by_cases q : p m = true
    · rw [if_pos q]
      refine allN_true.2 fun k hk => ?_
      rw [List.length_append, List.length_singleton] at hk
      rcases Nat.lt_or_ge k (selL m p).length with c | c
      · have := of_decide_eq_true (h0 k c)
        refine decide_eq_true ?_
        rw [ix_app_l c]
        refine ⟨this.1, this.2.1, fun u => ?_⟩
        have e : ((k : Int) - 1) = ((k - 1 : Nat) : Int) := by omega
        rw [e, ix_app_l (by omega), ← e]; exact this.2.2 u
      · obtain rfl : k = (selL m p).length := by omega
        have hx : ix (selL m p ++ [(m : Int)]) ((selL m p).length : Int) = (m : Int) := by
          rw [ix_get (by rw [List.length_append, List.length_singleton]; omega), List.getElem_append_right (Nat.le_refl _)]
          simp
        refine decide_eq_true ?_
        rw [hx]
        refine ⟨by omega, by omega, fun u => ?_⟩
        have e : (((selL m p).length : Int) - 1) = (((selL m p).length - 1 : Nat) : Int) := by omega
        rw [e, ix_app_l (by omega)]
        exact (selL_lt (n := m) (p := p) (k := (selL m p).length - 1) (by omega)).2
    · rw [if_neg q, List.append_nil]; exact ih (by omega) hN
theorem set_ext {n : Int} : ∀ {a b : List Int}, a.Pairwise (· < ·) → b.Pairwise (· < ·) → (∀ x, x ∈ a ↔ x ∈ b) → a = b
  | [], [], _, _, _ => rfl
  | [], y :: b, _, _, h => absurd ((h y).2 List.mem_cons_self) List.not_mem_nil
  | x :: a, [], _, _, h => absurd ((h x).1 List.mem_cons_self) List.not_mem_nil
  | x :: a, y :: b, ha, hb, h => by
    have ha' := List.pairwise_cons.1 ha
    have hb' := List.pairwise_cons.1 hb
    have e : x = y := by
      have h1 := (h x).1 List.mem_cons_self
      have h2 := (h y).2 List.mem_cons_self
      rcases List.mem_cons.1 h1 with r | r
      · exact r
      · rcases List.mem_cons.1 h2 with s | s
        · exact s.symm
        · have := hb'.1 x r; have := ha'.1 y s; omega
    subst e
    rw [set_ext (n := n) ha'.2 hb'.2 fun z => ?_]
    constructor
    · intro hz
      rcases List.mem_cons.1 ((h z).1 (List.mem_cons_of_mem _ hz)) with r | r
      · have := ha'.1 z hz; omega
      · exact r
    · intro hz
      rcases List.mem_cons.1 ((h z).2 (List.mem_cons_of_mem _ hz)) with r | r
      · have := hb'.1 z hz; omega
      · exact r
theorem set_pair {l : List Int} {n : Int} (h : isSetB l n = true) : l.Pairwise (· < ·) := by
  rw [List.pairwise_iff_getElem]
  intro i j hi hj hij
  have := isSetB_lt h hij hj
  rw [ix_get hi, ix_get hj] at this
  exact this
theorem set_filter {l : List Int} {n : Nat} (h : isSetB l (n : Int) = true) (p : Int → Bool) : l.filter p = selL n fun w => decide ((w : Int) ∈ l) && p (w : Int) :=
  set_ext (n := 0) ((set_pair h).filter p) (set_pair (selL_set (N := (n : Int)) (Nat.le_refl n) (Int.le_refl _))) fun x => by
    rw [mem_selL, List.mem_filter]
    constructor
    · rintro ⟨hx, hp⟩
      have := isSetB_mem h hx
      refine ⟨x.toNat, by omega, by omega, ?_⟩
      rw [Int.toNat_of_nonneg this.1, decide_eq_true hx, hp]; rfl
    · rintro ⟨w, rfl, _, hw⟩
      rw [Bool.and_eq_true, decide_eq_true_iff] at hw
      exact hw
def lowC (h : api_History) (l : List Int) (a : Nat) : Bool := decide ((a : Int) ∈ l) || l.any fun b => befC h a b.toNat
theorem ix_growsL {h : api_History} {a : Nat} (ha : a < h.Writes.length) : ∀ {ps : List (Int × Unit)} {ms : List Bool}, ms.length = h.Writes.length → ix (growsL h ms ps) (a : Int) = (ix ms (a : Int) || ps.any fun p => befC h a p.1.toNat)
  | [], ms, _ => by show ix ms _ = _; simp
  | p :: ps, ms, hm => by
    have := ix_growsL ha (ps := ps) (ms := growL h ms p.1.toNat h.Writes.length) (growL_len.trans hm)
    show ix (growsL h (growL h ms p.1.toNat h.Writes.length) ps) _ = _
    rw [this, ix_growL (by omega), decide_eq_true ha, Bool.true_and, List.any_cons, Bool.or_assoc]
theorem mem_members {n : Nat} {l : List Int} {p : Int × Unit} : p ∈ memL (markL n l) 0 ↔ p.1 ∈ l ∧ 0 ≤ p.1 ∧ p.1 < (n : Int) := by
  unfold memL
  rw [List.mem_map, markL_len]
  constructor
  · rintro ⟨w, hw, rfl⟩
    have h2 := List.mem_filter.1 hw
    have h3 := List.mem_range'_1.1 h2.1
    have h4 : ix (markL n l) (w : Int) = true := h2.2
    rw [ix_markL (by omega), decide_eq_true_iff] at h4
    exact ⟨h4, by show (0 : Int) ≤ (w : Int); omega, by show (w : Int) < (n : Int); omega⟩
  · obtain ⟨x, u⟩ := p
    rintro ⟨h1, h2, h3⟩
    have h1 : x ∈ l := h1
    have h2 : 0 ≤ x := h2
    have h3 : x < (n : Int) := h3
    have e : ((x.toNat : Nat) : Int) = x := Int.toNat_of_nonneg h2
    refine ⟨x.toNat, List.mem_filter.2 ⟨List.mem_range'_1.2 ⟨by omega, by omega⟩, ?_⟩, by rw [e]⟩
    show ix (markL n l) ((x.toNat : Nat) : Int) = true
    rw [ix_markL (by omega), decide_eq_true_iff, e]
    exact h1
theorem members_any {n : Nat} {l : List Int} (hl : isSetB l (n : Int) = true) (f : Nat → Bool) : ((memL (markL n l) 0).any fun p => f p.1.toNat) = l.any fun b => f b.toNat := by
  rw [Bool.eq_iff_iff, List.any_eq_true, List.any_eq_true]
  constructor
  · rintro ⟨p, hp, hf⟩
    exact ⟨p.1, (mem_members.1 hp).1, hf⟩
  · rintro ⟨x, hx, hf⟩
    have := isSetB_mem hl hx
    exact ⟨(x, ()), mem_members.2 ⟨hx, this.1, this.2⟩, hf⟩
theorem leastC_sel {h : api_History} {l : List Int} (hl : isSetB l (h.Writes.length : Int) = true) : leastC h l = selL h.Writes.length (lowC h l) := by
  unfold leastC
  rw [memL_sel, growsL_len, markL_len]
  refine selL_congr fun w hw => ?_
  rw [ix_growsL hw markL_len, ix_markL hw, members_any hl]; rfl
def topC (h : api_History) (l : List Int) (b : Nat) : Bool := decide ((b : Int) ∈ l) && allN (fun a => decide ((a : Int) ∈ l) || !befC h a b) h.Writes.length
def greatC (h : api_History) (l : List Int) : List Int := selL h.Writes.length (topC h l)
def greatR (h : api_History) (l : List Int) : List Int × Int := if histE h ≠ 0 then ([], histE h) else if isSetB l (h.Writes.length : Int) = false then ([], 2) else (greatC h l, 0)
def befP (h : api_History) (a b : Nat) : Bool := decide (0 ≤ atN h.Events h.Events.length ⟨1, (a : Int)⟩ ∧ atN h.Events h.Events.length ⟨1, (a : Int)⟩ < atN h.Events h.Events.length ⟨0, (b : Int)⟩)
theorem evE_cnt {h : api_History} (hz : histE h = 0) : cntI h.Events h.Events.length = h.Writes.length := by
  have h1 := (histE_zero hz).2.2.2
  have h2 := cnt_le (l := h.Events) (n := h.Writes.length) (k := h.Events.length) fun j hj => hist_ev hz hj
  unfold evE at h1
  split at h1
  · rename_i q; exact absurd h1 q
  · split at h1
    · omega
    · omega
theorem iss_nn {h : api_History} (hz : histE h = 0) {b : Nat} (hb : b < h.Writes.length) : 0 ≤ atN h.Events h.Events.length ⟨0, (b : Int)⟩ :=
  (at_issue (n := h.Writes.length) (fun j hj => hist_ev hz hj) _).2 ⟨by omega, by rw [evE_cnt hz]; omega⟩
theorem atN_top (l : List api_HistoryEvent) (n : Nat) (e : api_HistoryEvent) : atN l n e < (n : Int) := by
  rcases atN_lt l n e with h | h <;> omega
theorem befC_eq {h : api_History} (hz : histE h = 0) {a b : Nat} (ha : a < h.Writes.length) (hb : b < h.Writes.length) : befC h a b = befP h a b := by
  unfold befC befP ackW issW
  rw [ix_relL ha, ix_relL hb]
  have h1 := iss_nn hz hb
  rw [if_pos h1]
  refine decide_eq_decide.2 ?_
  by_cases q : 0 ≤ atN h.Events h.Events.length ⟨1, (a : Int)⟩
  · rw [if_pos q]; exact ⟨fun t => ⟨q, t⟩, fun t => t.2⟩
  · rw [if_neg q]
    have := atN_top h.Events h.Events.length ⟨0, (b : Int)⟩
    exact ⟨fun t => by omega, fun t => absurd t.1 q⟩
def orK {S R : Type} (a : S → Prop) (b : R → Prop) : S ⊕ R → Prop
 | .inl s => a s
 | .inr r => b r
def loopS {S R : Type} (step : S → Option (S ⊕ R)) : Nat → S → Option R
 | 0, _ => none
 | n + 1, s => match step s with
  | none => none
  | some (.inl s') => loopS step n s'
  | some (.inr r) => some r
theorem LoopW.of_S {S R : Type} {step : S → (S → Prop) → Prop} {stepS : S → Option (S ⊕ R)} {K : R → Prop} (hs : ∀ s q rec, stepS s = some q → orK rec K q → step s rec) : ∀ (n : Nat) (s : S) {o : R}, loopS stepS n s = some o → K o → LoopW step s := by
  intro n s o h hK
  refine ⟨n, ?_⟩
  induction n generalizing s with
  | zero => cases h
  | succ n ih =>
    unfold loopS at h
    split at h
    · cases h
    · rename_i s' e
      exact hs s _ _ e (ih s' h)
    · rename_i r e
      cases h
      exact hs s _ _ e hK
theorem ofBind {α β : Type} {x : Option α} {f : α → Option β} {o : β} (h : Option.bind x f = some o) : ∃ v, x = some v ∧ f v = some o := Option.bind_eq_some_iff.1 h
theorem ofIf {α : Type} {p : Prop} [Decidable p] {x : Option α} {o : α} (h : (if p then x else none) = some o) : p ∧ x = some o := by
  by_cases hp : p
  · rw [if_pos hp] at h; exact ⟨hp, h⟩
  · rw [if_neg hp] at h; cases h
theorem ofT {α : Type} {p : Prop} [Decidable p] {x y : Option α} {o : α} (hp : p) (h : (if p then x else y) = some o) : x = some o := by rw [if_pos hp] at h; exact h
theorem ofF {α : Type} {p : Prop} [Decidable p] {x y : Option α} {o : α} (hp : ¬ p) (h : (if p then x else y) = some o) : y = some o := by rw [if_neg hp] at h; exact h
def bothS {α : Type} [DecidableEq α] (b : Bool) (x y : Option α) : Option α := if b = true then (if x = y then x else none) else y
theorem ofBoth {α : Type} [DecidableEq α] {b : Bool} {x y : Option α} {o : α} (h : bothS b x y = some o) : (b = true → x = some o) ∧ y = some o := by
  unfold bothS at h
  by_cases hb : b = true
  · rw [if_pos hb] at h
    by_cases he : x = y
    · rw [if_pos he] at h; exact ⟨fun _ => h, he ▸ h⟩
    · rw [if_neg he] at h; cases h
  · rw [if_neg hb] at h; exact ⟨fun q => absurd q hb, h⟩
theorem lfS {α : Type} {K : α → Prop} {a o : α} (h : some a = some o) (hK : K o) : K a := by
  cases h; exact hK
theorem adS {α : Type} {p : Prop} [Decidable p] {x : Option α} {o : α} {B : Prop} (h : (if p then x else none) = some o) (b : x = some o → B) : p ∧ B := ⟨(ofIf h).1, b (ofIf h).2⟩
theorem ifS {α : Type} {p : Prop} [Decidable p] {x y : Option α} {o : α} {A B : Prop} (h : (if p then x else y) = some o) (a : x = some o → A) (b : y = some o → B) : (p → A) ∧ (¬ p → B) := ⟨fun c => a (ofT c h), fun c => b (ofF c h)⟩
theorem mpS {α β : Type} {g : α → β} {x : Option α} {o : β} {G : Prop} (h : Option.map g x = some o) (k : ∀ v, x = some v → g v = o → G) : G := by
  obtain ⟨v, h1, h2⟩ := Option.map_eq_some_iff.1 h
  exact k v h1 h2
theorem blS {α β : Type} {x : Option α} {f : α → Option β} {o : β} {G : Prop} (h : Option.bind x f = some o) (k : ∀ v, x = some v → f v = some o → G) : G := by
  obtain ⟨v, h1, h2⟩ := ofBind h
  exact k v h1 h2
instance decI (x : Int) : Decidable (inI x) := inferInstanceAs (Decidable (_ ∧ _))
instance decX (i : Int) (n : Nat) : Decidable (inX i n) := inferInstanceAs (Decidable (_ ∧ _))
instance decS (a b : Int) (n : Nat) : Decidable (inS a b n) := inferInstanceAs (Decidable (_ ∧ _))
instance decL (n b : Nat) : Decidable (lenOk n b) := inferInstanceAs (Decidable (_ ∧ _))
theorem nl2S {α : Type} [DecidableEq α] {p : Prop} [Decidable p] {x y : Option α} {o : α} {A B : Prop} (h : bothS (decide p) x y = some o) (a : x = some o → A) (b : y = some o → B) : (p → A) ∧ B := ⟨fun c => a ((ofBoth h).1 (decide_eq_true c)), b (ofBoth h).2⟩
def genS {S Y R : Type} (step : S → Option (List Y × (S ⊕ R))) : Nat → S → Option (List Y × R)
 | 0, _ => none
 | n + 1, s => match step s with
  | none => none
  | some (ys, .inr o) => some (ys, o)
  | some (ys, .inl s') => (genS step n s').map fun q => (ys ++ q.1, q.2)
theorem LoopW.of_G {S Y R : Type} {step : (List Y × S) → ((List Y × S) → Prop) → Prop} {stepS : S → Option (List Y × (S ⊕ R))} {K : List Y → R → Prop} (hs : ∀ s ys q r rec, stepS s = some (ys, q) → orK (fun s => rec (r, s)) (K r) q → step (ys ++ r, s) rec) : ∀ (n : Nat) (s : S) {ys : List Y} {o : R} (r : List Y), genS stepS n s = some (ys, o) → K r o → LoopW step (ys ++ r, s) := by
  intro n s ys o r h hK
  refine ⟨n, ?_⟩
  induction n generalizing s ys with
  | zero => cases h
  | succ n ih =>
    unfold genS at h
    split at h
    · cases h
    · rename_i ys o e
      cases h
      exact hs s _ _ _ (LoopN step n) e hK
    · rename_i ys s' e
      obtain ⟨v, h1, h2⟩ := Option.map_eq_some_iff.1 h
      cases h2
      rw [List.append_assoc]
      exact hs s _ _ _ (LoopN step n) e (show LoopN step n (v.1 ++ r, s') from ih s' h1)
def Z128 (x0 : Int) : Option (Bool) :=
 if x0 < 1 then
  some (true)
 else
  some (decide (4096 < x0))
theorem image_checkSizes_1_sound (x0 : Int) {Φ : Bool → Prop} {o} (h : Z128 x0 = some o) (hK : Φ o) : Z0 x0 Φ := by
  unfold Z128 at h
  unfold Z0
  exact ifS h (fun h => have t := lfS h hK; t) fun h => have t := lfS h hK; t
def Z129 (x0 : List Int) : (Int) → Option ((Int) ⊕ (Int))
 | v1 =>
  if v1 < (x0.length : Int) then
   if inX v1 x0.length then
   Option.bind (Z128 (ix x0 v1)) fun v2 =>
   if v2 = true then
    if 0 ≤ v1 then
     some (.inr 2)
    else
     some (.inr 0)
   else
    if inI (v1 + 1) then
    some (.inl (v1 + 1))
    else none
   else none
  else
   if 0 ≤ ((-1) : Int) then
    some (.inr 2)
   else
    some (.inr 0)
theorem image_checkSizes_L1_sound (x0 : List Int) (s : Int) {Φ : Int → Prop} {rec1 : (Int) → Prop} {o} (h : Z129 x0 s = some o) (hK : (orK rec1 Φ) o) : Z1 x0 Φ s rec1 := by
  unfold Z129 at h
  unfold Z1
  exact ifS h (fun h => adS h fun h => blS h fun _ hv h => image_checkSizes_1_sound _ hv (ifS h (fun h => ifS h (fun h => have t := lfS h hK; t) fun h => have t := lfS h hK; t) fun h => adS h fun h => have t := lfS h hK; t)) fun h => ifS h (fun h => have t := lfS h hK; t) fun h => have t := lfS h hK; t
def Z130 (x0 : List Int) : Option (Int) :=
 if (x0.length : Int) < 1 then
  some (6)
 else
  if 8 < (x0.length : Int) then
   some (6)
  else
   loopS (Z129 x0) 100000 0
theorem image_checkSizes_sound (x0 : List Int) {Φ : Int → Prop} {o} (h : Z130 x0 = some o) (hK : Φ o) : Z2 x0 Φ := by
  unfold Z130 at h
  unfold Z2
  exact ifS h (fun h => have t := lfS h hK; t) fun h => ifS h (fun h => have t := lfS h hK; t) fun h => LoopW.of_S (fun s q rec hs hq => image_checkSizes_L1_sound _ s hs hq) _ _ h hK
def image_New_1_S (x0 : Int) : Option (List Sec) :=
 if 0 ≤ x0 then
 if lenOk x0.toNat 8 then
 some ((List.replicate x0.toNat (sec0 : Sec)))
 else none
 else none
theorem image_New_1_sound (x0 : Int) {Φ : List Sec → Prop} {o} (h : image_New_1_S x0 = some o) (hK : Φ o) : image_New_1_W x0 Φ := by
  unfold image_New_1_S at h
  unfold image_New_1_W
  exact adS h fun h => adS h fun h => have t := lfS h hK; t
def Z131 (x0 : List Int) : (Int × List (List Sec)) → Option ((Int × List (List Sec)) ⊕ (List (List Sec) × Int))
 | (v2, v3) =>
  if v2 < (x0.length : Int) then
   if inX v2 x0.length then
   Option.bind (image_New_1_S (ix x0 v2)) fun v4 =>
   if lenOk (v3 ++ ([v4] : List (List Sec))).length 24 then
   if inI (v2 + 1) then
   some (.inl ((v2 + 1), (v3 ++ ([v4] : List (List Sec)))))
   else none
   else none
   else none
  else
   some (.inr (v3, 0))
theorem image_New_L1_sound (x0 : List Int) (s : Int × List (List Sec)) {Φ : List (List Sec) × Int → Prop} {rec1 : (Int × List (List Sec)) → Prop} {o} (h : Z131 x0 s = some o) (hK : (orK rec1 Φ) o) : image_New_L1 x0 Φ s rec1 := by
  obtain ⟨v2, v3⟩ := s
  unfold Z131 at h
  unfold image_New_L1
  exact ifS h (fun h => adS h fun h => blS h fun _ hv h => image_New_1_sound _ hv (adS h fun h => adS h fun h => have t := lfS h hK; t)) fun h => have t := lfS h hK; t
def image_New_S (x0 : List Int) : Option (List (List Sec) × Int) :=
 Option.bind (Z130 x0) fun v1 =>
 if v1 ≠ 0 then
  some ((([] : List (List Sec)), v1))
 else
  if 0 ≤ (x0.length : Int) then
  if lenOk (x0.length : Int).toNat 24 then
  loopS (Z131 x0) 100000 (0, ([] : List (List Sec)))
  else none
  else none
theorem image_New_sound (x0 : List Int) {Φ : List (List Sec) × Int → Prop} {o} (h : image_New_S x0 = some o) (hK : Φ o) : image_New_W x0 Φ := by
  unfold image_New_S at h
  unfold image_New_W
  exact blS h fun _ hv h => image_checkSizes_sound _ hv (ifS h (fun h => have t := lfS h hK; t) fun h => adS h fun h => adS h fun h => LoopW.of_S (fun s q rec hs hq => image_New_L1_sound _ s hs hq) _ _ h hK)
def Z132 (x0 : List Sec) : Option (Int) :=
 some ((x0.length : Int))
theorem image_sizes_1_sound (x0 : List Sec) {Φ : Int → Prop} {o} (h : Z132 x0 = some o) (hK : Φ o) : Z3 x0 Φ := by
  unfold Z132 at h
  unfold Z3
  exact have t := lfS h hK; t
def Z133 (x0 : List (List Sec)) : (Int × List Int) → Option ((Int × List Int) ⊕ (List Int))
 | (v1, v2) =>
  if v1 < (x0.length : Int) then
   if inX v1 x0.length then
   Option.bind (Z132 (ix x0 v1)) fun v3 =>
   if lenOk (v2 ++ ([v3] : List Int)).length 8 then
   if inI (v1 + 1) then
   some (.inl ((v1 + 1), (v2 ++ ([v3] : List Int))))
   else none
   else none
   else none
  else
   some (.inr v2)
theorem image_sizes_L1_sound (x0 : List (List Sec)) (s : Int × List Int) {Φ : List Int → Prop} {rec1 : (Int × List Int) → Prop} {o} (h : Z133 x0 s = some o) (hK : (orK rec1 Φ) o) : Z4 x0 Φ s rec1 := by
  obtain ⟨v1, v2⟩ := s
  unfold Z133 at h
  unfold Z4
  exact ifS h (fun h => adS h fun h => blS h fun _ hv h => image_sizes_1_sound _ hv (adS h fun h => adS h fun h => have t := lfS h hK; t)) fun h => have t := lfS h hK; t
def image_sizes_S (x0 : List (List Sec)) : Option (List Int) :=
 if 0 ≤ (x0.length : Int) then
 if lenOk (x0.length : Int).toNat 8 then
 loopS (Z133 x0) 100000 (0, ([] : List Int))
 else none
 else none
theorem image_sizes_sound (x0 : List (List Sec)) {Φ : List Int → Prop} {o} (h : image_sizes_S x0 = some o) (hK : Φ o) : image_sizes_W x0 Φ := by
  unfold image_sizes_S at h
  unfold image_sizes_W
  exact adS h fun h => adS h fun h => LoopW.of_S (fun s q rec hs hq => image_sizes_L1_sound _ s hs hq) _ _ h hK
def image_Check_S (x0 : List (List Sec)) : Option (Int) :=
 Option.bind (image_sizes_S x0) fun v1 =>
 Option.bind (Z130 v1) fun v2 =>
 some (v2)
theorem image_Check_sound (x0 : List (List Sec)) {Φ : Int → Prop} {o} (h : image_Check_S x0 = some o) (hK : Φ o) : image_Check_W x0 Φ := by
  unfold image_Check_S at h
  unfold image_Check_W
  exact blS h fun _ hv h => image_sizes_sound _ hv (blS h fun _ hv h => image_checkSizes_sound _ hv (have t := lfS h hK; t))
def Z134 (x0 : List (List Sec)) (x1 : api_Write) : (Bool) → Option (Int)
 | v1 =>
  if v1 = true then
   some (7)
  else
   if (x1.Data.length : Int) = 0 then
    some (1)
   else
    if x1.Start < 0 then
     some (2)
    else
     if inX x1.Volume x0.length then
     if inI (((ix x0 x1.Volume).length : Int) - (x1.Data.length : Int)) then
     if (((ix x0 x1.Volume).length : Int) - (x1.Data.length : Int)) < x1.Start then
      some (2)
     else
      some (0)
     else none
     else none
theorem image_fits_J1_sound (x0 : List (List Sec)) (x1 : api_Write) (s : Bool) {Φ : Int → Prop} {o} (h : Z134 x0 x1 s = some o) (hK : Φ o) : image_fits_J1 x0 x1 Φ s := by
  unfold Z134 at h
  unfold image_fits_J1
  exact ifS h (fun h => have t := lfS h hK; t) fun h => ifS h (fun h => have t := lfS h hK; t) fun h => ifS h (fun h => have t := lfS h hK; t) fun h => adS h fun h => adS h fun h => ifS h (fun h => have t := lfS h hK; t) fun h => have t := lfS h hK; t
def image_fits_S (x0 : List (List Sec)) (x1 : api_Write) : Option (Int) :=
 if x1.Volume < 0 then
  Z134 x0 x1 true
 else
  Z134 x0 x1 (decide ((x0.length : Int) ≤ x1.Volume))
theorem image_fits_sound (x0 : List (List Sec)) (x1 : api_Write) {Φ : Int → Prop} {o} (h : image_fits_S x0 x1 = some o) (hK : Φ o) : image_fits_W x0 x1 Φ := by
  unfold image_fits_S at h
  unfold image_fits_W
  exact ifS h (fun h => image_fits_J1_sound _ _ _ h hK) fun h => image_fits_J1_sound _ _ _ h hK
def image_Fits_S (x0 : List (List Sec)) (x1 : api_Write) : Option (Int) :=
 Option.bind (image_Check_S x0) fun v1 =>
 if v1 ≠ 0 then
  some (v1)
 else
  Option.bind (image_fits_S x0 x1) fun v2 =>
  some (v2)
theorem image_Fits_sound (x0 : List (List Sec)) (x1 : api_Write) {Φ : Int → Prop} {o} (h : image_Fits_S x0 x1 = some o) (hK : Φ o) : image_Fits_W x0 x1 Φ := by
  unfold image_Fits_S at h
  unfold image_Fits_W
  exact blS h fun _ hv h => image_Check_sound _ hv (ifS h (fun h => have t := lfS h hK; t) fun h => blS h fun _ hv h => image_fits_sound _ _ hv (have t := lfS h hK; t))
def Z135 (v4 : Int) : (Int × List Int × List Int) → Option ((Int × List Int × List Int) ⊕ ((Int) ⊕ (history_checked × Int)))
 | (v7, v8, v9) =>
  if v7 ≠ 0 then
   some (.inr (.inr ((history_checked.mk (api_History.mk ([] : List Int) ([] : List api_Write) ([] : List api_HistoryEvent)) (history_timeline.mk ([] : List Int) ([] : List Int))), v7)))
  else
   if inI (v4 + 1) then
   some (.inl ((v4 + 1), v8, v9))
   else none
theorem history_check_J3_sound (v4 : Int) (s : Int × List Int × List Int) {Φ : history_checked × Int → Prop} {rec1 : (Int) → Prop} {rec2 : (Int × List Int × List Int) → Prop} {o} (h : Z135 v4 s = some o) (hK : (orK rec2 (orK rec1 Φ)) o) : Z5 v4 rec2 Φ s := by
  obtain ⟨v7, v8, v9⟩ := s
  unfold Z135 at h
  unfold Z5
  exact ifS h (fun h => have t := lfS h hK; t) fun h => adS h fun h => have t := lfS h hK; t
def Z136 (x0 : api_History) : (Int × List Int × List Int) → Option ((Int × List Int × List Int) ⊕ ((Int) ⊕ (history_checked × Int)))
 | (v4, v5, v6) =>
  if v4 < (x0.Events.length : Int) then
   if inX v4 x0.Events.length then
   if ((ix x0.Events v4).Kind) = 0 then
    if ((ix x0.Events v4).Write) ≠ (v5.length : Int) then
     Z135 v4 (3, v5, v6)
    else
     if (x0.Writes.length : Int) ≤ ((ix x0.Events v4).Write) then
      Z135 v4 (3, v5, v6)
     else
      if lenOk (v5 ++ ([v4] : List Int)).length 8 then
      if lenOk (v6 ++ ([(-1)] : List Int)).length 8 then
      Z135 v4 (0, (v5 ++ ([v4] : List Int)), (v6 ++ ([(-1)] : List Int)))
      else none
      else none
   else
    if ((ix x0.Events v4).Kind) = 1 then
     if ((ix x0.Events v4).Write) < 0 then
      Z135 v4 (7, v5, v6)
     else
      if (v5.length : Int) ≤ ((ix x0.Events v4).Write) then
       Z135 v4 (7, v5, v6)
      else
       if inX ((ix x0.Events v4).Write) v6.length then
       if 0 ≤ (ix v6 ((ix x0.Events v4).Write)) then
        Z135 v4 (8, v5, v6)
       else
        if inX ((ix x0.Events v4).Write) v6.length then
        Z135 v4 (0, v5, (put v6 ((ix x0.Events v4).Write) v4))
        else none
       else none
    else
     Z135 v4 (3, v5, v6)
   else none
  else
   if (v5.length : Int) < (x0.Writes.length : Int) then
    some (.inr (.inr ((history_checked.mk (api_History.mk ([] : List Int) ([] : List api_Write) ([] : List api_HistoryEvent)) (history_timeline.mk ([] : List Int) ([] : List Int))), 3)))
   else
    some (.inr (.inr ((history_checked.mk x0 (history_timeline.mk v5 v6)), 0)))
theorem history_check_L2_sound (x0 : api_History) (s : Int × List Int × List Int) {Φ : history_checked × Int → Prop} {rec1 : (Int) → Prop} {rec2 : (Int × List Int × List Int) → Prop} {o} (h : Z136 x0 s = some o) (hK : (orK rec2 (orK rec1 Φ)) o) : Z6 x0 Φ s rec2 := by
  obtain ⟨v4, v5, v6⟩ := s
  unfold Z136 at h
  unfold Z6
  exact ifS h (fun h => adS h fun h => ifS h (fun h => ifS h (fun h => history_check_J3_sound _ _ h hK) fun h => ifS h (fun h => history_check_J3_sound _ _ h hK) fun h => adS h fun h => adS h fun h => history_check_J3_sound _ _ h hK) fun h => ifS h (fun h => ifS h (fun h => history_check_J3_sound _ _ h hK) fun h => ifS h (fun h => history_check_J3_sound _ _ h hK) fun h => adS h fun h => ifS h (fun h => history_check_J3_sound _ _ h hK) fun h => adS h fun h => history_check_J3_sound _ _ h hK) fun h => history_check_J3_sound _ _ h hK) fun h => ifS h (fun h => have t := lfS h hK; t) fun h => have t := lfS h hK; t
def Z137 (x0 : api_History) (v1 : List (List Sec) × Int) : (Int) → Option ((Int) ⊕ (history_checked × Int))
 | v2 =>
  if v2 < (x0.Writes.length : Int) then
   if inX v2 x0.Writes.length then
   Option.bind (image_Fits_S v1.1 (ix x0.Writes v2)) fun v3 =>
   if v3 ≠ 0 then
    some (.inr ((history_checked.mk (api_History.mk ([] : List Int) ([] : List api_Write) ([] : List api_HistoryEvent)) (history_timeline.mk ([] : List Int) ([] : List Int))), v3))
   else
    if inI (v2 + 1) then
    some (.inl (v2 + 1))
    else none
   else none
  else
   loopS (Z136 x0) 100000 (0, ([] : List Int), ([] : List Int))
theorem history_check_L1_sound (x0 : api_History) (v1 : List (List Sec) × Int) (s : Int) {Φ : history_checked × Int → Prop} {rec1 : (Int) → Prop} {o} (h : Z137 x0 v1 s = some o) (hK : (orK rec1 Φ) o) : Z7 x0 v1 Φ s rec1 := by
  unfold Z137 at h
  unfold Z7
  exact ifS h (fun h => adS h fun h => blS h fun _ hv h => image_Fits_sound _ _ hv (ifS h (fun h => have t := lfS h hK; t) fun h => adS h fun h => have t := lfS h hK; t)) fun h => LoopW.of_S (fun s q rec hs hq => history_check_L2_sound _ s hs hq) _ _ h hK
def Z138 (x0 : api_History) : Option (history_checked × Int) :=
 Option.bind (image_New_S x0.Sizes) fun v1 =>
 if v1.2 ≠ 0 then
  some (((history_checked.mk (api_History.mk ([] : List Int) ([] : List api_Write) ([] : List api_HistoryEvent)) (history_timeline.mk ([] : List Int) ([] : List Int))), v1.2))
 else
  if 4096 < (x0.Writes.length : Int) then
   some (((history_checked.mk (api_History.mk ([] : List Int) ([] : List api_Write) ([] : List api_HistoryEvent)) (history_timeline.mk ([] : List Int) ([] : List Int))), 6))
  else
   loopS (Z137 x0 v1) 100000 0
theorem history_check_sound (x0 : api_History) {Φ : history_checked × Int → Prop} {o} (h : Z138 x0 = some o) (hK : Φ o) : Z8 x0 Φ := by
  unfold Z138 at h
  unfold Z8
  exact blS h fun _ hv h => image_New_sound _ hv (ifS h (fun h => have t := lfS h hK; t) fun h => ifS h (fun h => have t := lfS h hK; t) fun h => LoopW.of_S (fun s q rec hs hq => history_check_L1_sound _ _ s hs hq) _ _ h hK)
def Z139 (x0 : api_History) : Option (Int) :=
 Option.bind (Z138 x0) fun v1 =>
 some (v1.2)
theorem history_Check_sound (x0 : api_History) {Φ : Int → Prop} {o} (h : Z139 x0 = some o) (hK : Φ o) : Z9 x0 Φ := by
  unfold Z139 at h
  unfold Z9
  exact blS h fun _ hv h => history_check_sound _ hv (have t := lfS h hK; t)
def Z140 (x0 : BitVec 64) (x1 : BitVec 64) : Option (BitVec 64 × BitVec 64) :=
 some ((((((x0 >>> ((32#64).toNat : Int).toNat) * (x1 >>> ((32#64).toNat : Int).toNat)) + ((((x0 >>> ((32#64).toNat : Int).toNat) * (x1 &&& (4294967295#64))) + (((x0 &&& (4294967295#64)) * (x1 &&& (4294967295#64))) >>> ((32#64).toNat : Int).toNat)) >>> ((32#64).toNat : Int).toNat)) + ((((((x0 >>> ((32#64).toNat : Int).toNat) * (x1 &&& (4294967295#64))) + (((x0 &&& (4294967295#64)) * (x1 &&& (4294967295#64))) >>> ((32#64).toNat : Int).toNat)) &&& (4294967295#64)) + ((x0 &&& (4294967295#64)) * (x1 >>> ((32#64).toNat : Int).toNat))) >>> ((32#64).toNat : Int).toNat)), (x0 * x1)))
theorem math_bits_Mul64_sound (x0 : BitVec 64) (x1 : BitVec 64) {Φ : BitVec 64 × BitVec 64 → Prop} {o} (h : Z140 x0 x1 = some o) (hK : Φ o) : Z10 x0 x1 Φ := by
  unfold Z140 at h
  unfold Z10
  exact have t := lfS h hK; t
def Z141 (x0 : BitVec 64) (x1 : BitVec 64) : Option (BitVec 64 × BitVec 64) :=
 Option.bind (Z140 x0 x1) fun v1 =>
 some ((v1.1, v1.2))
theorem math_bits_Mul_sound (x0 : BitVec 64) (x1 : BitVec 64) {Φ : BitVec 64 × BitVec 64 → Prop} {o} (h : Z141 x0 x1 = some o) (hK : Φ o) : Z11 x0 x1 Φ := by
  unfold Z141 at h
  unfold Z11
  exact blS h fun _ hv h => math_bits_Mul64_sound _ _ hv (have t := lfS h hK; t)
def Z142 : (Int × List Int) → Option ((Int × List Int) ⊕ (List Int))
 | (v3, v4) =>
  if v3 < (v4.length : Int) then
   if inS v3 (v4.length : Int) v4.length then
   if inS 0 v3 v4.length then
   if inI (v3 + ((min (sub v4 0 v3).length (v4.length - (v3 : Int).toNat) : Nat) : Int)) then
   some (.inl ((v3 + ((min (sub v4 0 v3).length (v4.length - (v3 : Int).toNat) : Nat) : Int)), (paste v4 v3 (sub v4 0 v3))))
   else none
   else none
   else none
  else
   some (.inr v4)
theorem slices_Repeat_int_int_L2_sound (s : Int × List Int) {Φ : List Int → Prop} {rec2 : (Int × List Int) → Prop} {o} (h : Z142 s = some o) (hK : (orK rec2 Φ) o) : Z12 Φ s rec2 := by
  obtain ⟨v3, v4⟩ := s
  unfold Z142 at h
  unfold Z12
  exact ifS h (fun h => adS h fun h => adS h fun h => adS h fun h => have t := lfS h hK; t) fun h => have t := lfS h hK; t
def Z143 (x0 : List Int) (v1 : BitVec 64 × BitVec 64) : (Bool) → Option (List Int)
 | v2 =>
  if v2 = true then
   none
  else
   if 0 ≤ v1.2.toInt then
   if lenOk v1.2.toInt.toNat 8 then
   loopS (Z142) 100000 (((min x0.length ((List.replicate v1.2.toInt.toNat (0 : Int)).length - (0 : Int).toNat) : Nat) : Int), (paste (List.replicate v1.2.toInt.toNat (0 : Int)) 0 x0))
   else none
   else none
theorem slices_Repeat_int_int_J1_sound (x0 : List Int) (v1 : BitVec 64 × BitVec 64) (s : Bool) {Φ : List Int → Prop} {o} (h : Z143 x0 v1 s = some o) (hK : Φ o) : Z13 x0 v1 Φ s := by
  unfold Z143 at h
  unfold Z13
  exact ifS h (fun h => (by cases h)) fun h => adS h fun h => adS h fun h => LoopW.of_S (fun s q rec hs hq => slices_Repeat_int_int_L2_sound s hs hq) _ _ h hK
def Z144 (x0 : List Int) (x1 : Int) : Option (List Int) :=
 if x1 < 0 then
  none
 else
  Option.bind (Z141 (BitVec.ofInt 64 (x0.length : Int)) (BitVec.ofInt 64 x1)) fun v1 =>
  if (0#64) < v1.1 then
   Z143 x0 v1 true
  else
   Z143 x0 v1 (decide ((9223372036854775807#64) < v1.2))
theorem slices_Repeat_int_int_sound (x0 : List Int) (x1 : Int) {Φ : List Int → Prop} {o} (h : Z144 x0 x1 = some o) (hK : Φ o) : Z14 x0 x1 Φ := by
  unfold Z144 at h
  unfold Z14
  exact ifS h (fun h => (by cases h)) fun h => blS h fun _ hv h => math_bits_Mul_sound _ _ hv (ifS h (fun h => slices_Repeat_int_int_J1_sound _ _ _ h hK) fun h => slices_Repeat_int_int_J1_sound _ _ _ h hK)
def Z145 (x1 : List Int) (v1 : Int) (v2 : List Bool) : (Bool) → Option ((Int × List Bool) ⊕ (List Bool × Bool))
 | v3 =>
  if v3 = true then
   some (.inr (([] : List Bool), false))
  else
   if inX (ix x1 v1) v2.length then
   if inI (v1 + 1) then
   some (.inl ((v1 + 1), (put v2 (ix x1 v1) true)))
   else none
   else none
theorem cut_relation_mark_J2_sound (x1 : List Int) (v1 : Int) (v2 : List Bool) (s : Bool) {Φ : List Bool × Bool → Prop} {rec1 : (Int × List Bool) → Prop} {o} (h : Z145 x1 v1 v2 s = some o) (hK : (orK rec1 Φ) o) : Z15 x1 v1 v2 rec1 Φ s := by
  unfold Z145 at h
  unfold Z15
  exact ifS h (fun h => have t := lfS h hK; t) fun h => adS h fun h => adS h fun h => have t := lfS h hK; t
def Z146 (x0 : Ptr cut_relation) (x1 : List Int) : (Int × List Bool) → Option ((Int × List Bool) ⊕ (List Bool × Bool))
 | (v1, v2) =>
  if v1 < (x1.length : Int) then
   if inX v1 x1.length then
   if (ix x1 v1) < 0 then
    Z145 x1 v1 v2 true
   else
    if x0.val.n ≤ (ix x1 v1) then
     Z145 x1 v1 v2 true
    else
     if 0 < v1 then
      if inI (v1 - 1) then
      if inX (v1 - 1) x1.length then
      Z145 x1 v1 v2 (decide ((ix x1 v1) ≤ (ix x1 (v1 - 1))))
      else none
      else none
     else
      Z145 x1 v1 v2 false
   else none
  else
   some (.inr (v2, true))
theorem cut_relation_mark_L1_sound (x0 : Ptr cut_relation) (x1 : List Int) (s : Int × List Bool) {Φ : List Bool × Bool → Prop} {rec1 : (Int × List Bool) → Prop} {o} (h : Z146 x0 x1 s = some o) (hK : (orK rec1 Φ) o) : Z16 x0 x1 Φ s rec1 := by
  obtain ⟨v1, v2⟩ := s
  unfold Z146 at h
  unfold Z16
  exact ifS h (fun h => adS h fun h => ifS h (fun h => cut_relation_mark_J2_sound _ _ _ _ h hK) fun h => ifS h (fun h => cut_relation_mark_J2_sound _ _ _ _ h hK) fun h => ifS h (fun h => adS h fun h => adS h fun h => cut_relation_mark_J2_sound _ _ _ _ h hK) fun h => cut_relation_mark_J2_sound _ _ _ _ h hK) fun h => have t := lfS h hK; t
def Z147 (x0 : Ptr cut_relation) (x1 : List Int) : Option (List Bool × Bool) :=
 if 0 ≤ x0.val.n then
 if lenOk x0.val.n.toNat 1 then
 loopS (Z146 x0 x1) 100000 (0, (List.replicate x0.val.n.toNat (false : Bool)))
 else none
 else none
theorem cut_relation_mark_sound (x0 : Ptr cut_relation) (x1 : List Int) {Φ : List Bool × Bool → Prop} {o} (h : Z147 x0 x1 = some o) (hK : Φ o) : Z17 x0 x1 Φ := by
  unfold Z147 at h
  unfold Z17
  exact adS h fun h => adS h fun h => LoopW.of_S (fun s q rec hs hq => cut_relation_mark_L1_sound _ _ s hs hq) _ _ h hK
def Z148 (x0 : Ptr cut_relation) (x1 : Int) (x2 : Int) : Option (Bool) :=
 if inX x1 x0.val.acked.length then
 if inX x2 x0.val.issued.length then
 some (decide ((ix x0.val.acked x1) < (ix x0.val.issued x2)))
 else none
 else none
theorem cut_relation_before_sound (x0 : Ptr cut_relation) (x1 : Int) (x2 : Int) {Φ : Bool → Prop} {o} (h : Z148 x0 x1 x2 = some o) (hK : Φ o) : Z18 x0 x1 x2 Φ := by
  unfold Z148 at h
  unfold Z18
  exact adS h fun h => adS h fun h => have t := lfS h hK; t
def Z149 (x0 : List Bool) : Option (List Bool) :=
 bothS (decide (x0 = [])) (
  some (([] : List Bool))) (
  if lenOk (([] : List Bool) ++ x0).length 1 then
  some ((([] : List Bool) ++ x0))
  else none)
theorem slices_Clone_cut_marks_bool_sound (x0 : List Bool) {Φ : List Bool → Prop} {o} (h : Z149 x0 = some o) (hK : Φ o) : Z29 x0 Φ := by
  unfold Z149 at h
  unfold Z29
  exact nl2S h (fun h => have t := lfS h hK; t) fun h => adS h fun h => have t := lfS h hK; t
def Z150 (x0 : List Bool) : (Int) → Option (List (Int × Unit) × ((Int) ⊕ (Unit)))
 | v1 =>
  if v1 < (x0.length : Int) then
   if inX v1 x0.length then
   if (ix x0 v1) = true then
    Option.map (fun q => ((v1, ()) :: q.1, q.2)) (
     if inI (v1 + 1) then
     some ([], .inl (v1 + 1))
     else none)
   else
    if inI (v1 + 1) then
    some ([], .inl (v1 + 1))
    else none
   else none
  else
   some ([], .inr ())
theorem cut_marks_members_1_L1_sound (x0 : List Bool) (s : Int) {ys : List (Int × Unit)} {q} {r : List (Int × Unit)} {rec1 : (List (Int × Unit) × Int) → Prop} (h : Z150 x0 s = some (ys, q)) (hr : (orK (fun s => rec1 (r, s)) (fun _ => r = [])) q) : Z30 x0 (ys ++ r, s) rec1 := by
  unfold Z150 at h
  unfold Z30
  exact ifS h (fun h => adS h fun h => ifS h (fun h => mpS h fun q_ h_ he => (by obtain ⟨_, _⟩ := q_; cases he; exact ⟨rfl, (have h := h_; adS h fun h => (by cases h; exact hr)), trivial⟩)) fun h => adS h fun h => (by cases h; exact hr)) fun h => (by cases h; exact hr)
def cut_marks_members_1_S0 (x0 : List Bool) : Option (List (Int × Unit) × Unit) :=
 genS (Z150 x0) 100000 0
def Z151 (x0 : List Bool) : Option (List (Int × Unit)) := Option.map Prod.fst (cut_marks_members_1_S0 x0)
theorem cut_marks_members_1_sound (x0 : List Bool) {l : List (Int × Unit)} (h : Z151 x0 = some l) : cut_marks_members_1_I x0 l := by
  obtain ⟨⟨ys, q⟩, h0, h1⟩ := Option.map_eq_some_iff.1 h
  clear h
  have h := h0
  subst h1
  unfold cut_marks_members_1_S0 at h
  unfold cut_marks_members_1_I
  have hr : (fun _ => ([] : List (Int × Unit)) = []) q := rfl
  rw [← List.append_nil ys]
  exact LoopW.of_G (K := fun r => (fun _ => r = [])) (fun s ys q r rec hs hr => cut_marks_members_1_L1_sound _ s hs hr) _ _ _ h hr
def Z152 : (List (Int × Unit) × List Int) → Option ((List (Int × Unit) × List Int) ⊕ (List Int))
 | (lst, v1) =>
  match lst with
  | [] =>
   some (.inr v1)
  | v2 :: r3 =>
   if lenOk (v1 ++ ([v2.1] : List Int)).length 8 then
   some (.inl (r3, (v1 ++ ([v2.1] : List Int))))
   else none
theorem cut_marks_list_L1_sound (s : List (Int × Unit) × List Int) {Φ : List Int → Prop} {rec1 : (List (Int × Unit) × List Int) → Prop} {o} (h : Z152 s = some o) (hK : (orK rec1 Φ) o) : Z31 Φ s rec1 := by
  obtain ⟨lst, v1⟩ := s
  unfold Z152 at h
  unfold Z31
  cases lst with
  | nil => exact have t := lfS h hK; t
  | cons _ _ => exact adS h fun h => have t := lfS h hK; t
def Z153 (x0 : List Bool) : Option (List Int) :=
 Option.bind (Z151 x0) fun l4 =>
 loopS (Z152) 100000 (l4, ([] : List Int))
theorem cut_marks_list_sound (x0 : List Bool) {Φ : List Int → Prop} {o} (h : Z153 x0 = some o) (hK : Φ o) : Z32 x0 Φ := by
  unfold Z153 at h
  unfold Z32
  exact blS h fun _ hv h => ⟨_, cut_marks_members_1_sound _ hv, LoopW.of_S (fun s q rec hs hq => cut_marks_list_L1_sound s hs hq) _ _ h hK⟩
def Z154 (x1 : List Int) : (Unit) → Option ((Unit) ⊕ (List Int × Int))
 | _ =>
  if 0 < (([x1] : List (List Int)).length : Int) then
   if inX 0 ([x1] : List (List Int)).length then
   none
   else none
  else
   if (0 : Int) ≠ 0 then
    some (.inr (([] : List Int), 0))
   else
    none
theorem cut_Least_L1_sound (x1 : List Int) (s : Unit) {Φ : List Int × Int → Prop} {rec1 : (Unit) → Prop} {o} (h : Z154 x1 s = some o) (hK : (orK rec1 Φ) o) : cut_Least_L1 x1 Φ s rec1 := by
  unfold Z154 at h
  unfold cut_Least_L1
  exact ifS h (fun h => adS h fun h => (by cases h)) fun h => ifS h (fun h => have t := lfS h hK; t) fun h => (by cases h)
def Z155 (x0 : api_History) (v5 : List Int) (v6 : List Int) (v12 : Int × Unit) (r13 : List (Int × Unit)) : (Int × List Bool) → Option ((Int × List Bool) ⊕ ((List (Int × Unit) × List Bool) ⊕ ((Int × List (List Bool)) ⊕ ((Int × List Int × List Int) ⊕ (List Int × Int)))))
 | (v14, v15) =>
  if v14 < (x0.Writes.length : Int) then
   if inX v14 v15.length then
   if (ix v15 v14) = true then
    if inX v14 v15.length then
    if inI (v14 + 1) then
    some (.inl ((v14 + 1), (put v15 v14 true)))
    else none
    else none
   else
    Option.bind (Z148 (Ptr.mk (cut_relation.mk (x0.Writes.length : Int) (x0.Events.length : Int) v5 v6)) v14 v12.1) fun z =>
    let v16 : Bool × Unit := (z, ())
    if inX v14 v15.length then
    if inI (v14 + 1) then
    some (.inl ((v14 + 1), (put v15 v14 v16.1)))
    else none
    else none
   else none
  else
   some (.inr (.inl (r13, v15)))
theorem cut_Least_L5_sound (x0 : api_History) (v5 : List Int) (v6 : List Int) (v12 : Int × Unit) (r13 : List (Int × Unit)) (s : Int × List Bool) {Φ : List Int × Int → Prop} {rec2 : (Int × List Int × List Int) → Prop} {rec3 : (Int × List (List Bool)) → Prop} {rec4 : (List (Int × Unit) × List Bool) → Prop} {rec5 : (Int × List Bool) → Prop} {o} (h : Z155 x0 v5 v6 v12 r13 s = some o) (hK : (orK rec5 (orK rec4 (orK rec3 (orK rec2 Φ)))) o) : cut_Least_L5 x0 v5 v6 rec4 v12 r13 Φ s rec5 := by
  obtain ⟨v14, v15⟩ := s
  unfold Z155 at h
  unfold cut_Least_L5
  exact ifS h (fun h => adS h fun h => ifS h (fun h => adS h fun h => adS h fun h => have t := lfS h hK; t) fun h => blS h fun _ hv h => ⟨_, cut_relation_before_sound _ _ _ hv rfl, adS h fun h => adS h fun h => have t := lfS h hK; t⟩) fun h => have t := lfS h hK; t
def Z156 (x0 : api_History) (v5 : List Int) (v6 : List Int) : (List (Int × Unit) × List Bool) → Option ((List (Int × Unit) × List Bool) ⊕ ((Int × List (List Bool)) ⊕ ((Int × List Int × List Int) ⊕ (List Int × Int))))
 | (lst, v11) =>
  match lst with
  | [] =>
   Option.bind (Z153 v11) fun v17 =>
   some (.inr (.inr (.inr (v17, 0))))
  | v12 :: r13 =>
   loopS (Z155 x0 v5 v6 v12 r13) 100000 (0, v11)
theorem cut_Least_L4_sound (x0 : api_History) (v5 : List Int) (v6 : List Int) (s : List (Int × Unit) × List Bool) {Φ : List Int × Int → Prop} {rec2 : (Int × List Int × List Int) → Prop} {rec3 : (Int × List (List Bool)) → Prop} {rec4 : (List (Int × Unit) × List Bool) → Prop} {o} (h : Z156 x0 v5 v6 s = some o) (hK : (orK rec4 (orK rec3 (orK rec2 Φ))) o) : cut_Least_L4 x0 v5 v6 Φ s rec4 := by
  obtain ⟨lst, v11⟩ := s
  unfold Z156 at h
  unfold cut_Least_L4
  cases lst with
  | nil => exact blS h fun _ hv h => cut_marks_list_sound _ hv (have t := lfS h hK; t)
  | cons _ _ => exact LoopW.of_S (fun s q rec hs hq => cut_Least_L5_sound _ _ _ _ _ s hs hq) _ _ h hK
def Z157 (x0 : api_History) (x1 : List Int) (v5 : List Int) (v6 : List Int) : (Int × List (List Bool)) → Option ((Int × List (List Bool)) ⊕ ((Int × List Int × List Int) ⊕ (List Int × Int)))
 | (v7, v8) =>
  if v7 < (([x1] : List (List Int)).length : Int) then
   if inX v7 ([x1] : List (List Int)).length then
   Option.bind (Z147 (Ptr.mk (cut_relation.mk (x0.Writes.length : Int) (x0.Events.length : Int) v5 v6)) (ix ([x1] : List (List Int)) v7)) fun v9 =>
   if ¬ (v9.2 = true) then
    if (2 : Int) ≠ 0 then
     some (.inr (.inr (([] : List Int), 2)))
    else
     none
   else
    if lenOk (v8 ++ ([v9.1] : List (List Bool))).length 24 then
    if inI (v7 + 1) then
    some (.inl ((v7 + 1), (v8 ++ ([v9.1] : List (List Bool)))))
    else none
    else none
   else none
  else
   if (0 : Int) ≠ 0 then
    some (.inr (.inr (([] : List Int), 0)))
   else
    if inX 0 v8.length then
    Option.bind (Z149 (ix v8 0)) fun v10 =>
    if inX 0 v8.length then
    Option.bind (Z151 (ix v8 0)) fun l18 =>
    loopS (Z156 x0 v5 v6) 100000 (l18, v10)
    else none
    else none
theorem cut_Least_L3_sound (x0 : api_History) (x1 : List Int) (v5 : List Int) (v6 : List Int) (s : Int × List (List Bool)) {Φ : List Int × Int → Prop} {rec2 : (Int × List Int × List Int) → Prop} {rec3 : (Int × List (List Bool)) → Prop} {o} (h : Z157 x0 x1 v5 v6 s = some o) (hK : (orK rec3 (orK rec2 Φ)) o) : cut_Least_L3 x0 x1 v5 v6 Φ s rec3 := by
  obtain ⟨v7, v8⟩ := s
  unfold Z157 at h
  unfold cut_Least_L3
  exact ifS h (fun h => adS h fun h => blS h fun _ hv h => cut_relation_mark_sound _ _ hv (ifS h (fun h => ifS h (fun h => have t := lfS h hK; t) fun h => (by cases h)) fun h => adS h fun h => adS h fun h => have t := lfS h hK; t)) fun h => ifS h (fun h => have t := lfS h hK; t) fun h => adS h fun h => blS h fun _ hv h => slices_Clone_cut_marks_bool_sound _ hv (adS h fun h => blS h fun _ hv h => ⟨_, cut_marks_members_1_sound _ hv, LoopW.of_S (fun s q rec hs hq => cut_Least_L4_sound _ _ _ s hs hq) _ _ h hK⟩)
def Z158 (x0 : api_History) (x1 : List Int) : (Int × List Int × List Int) → Option ((Int × List Int × List Int) ⊕ (List Int × Int))
 | (v4, v5, v6) =>
  if v4 < (x0.Events.length : Int) then
   if inX v4 x0.Events.length then
   if ((ix x0.Events v4).Kind) = 0 then
    if inX ((ix x0.Events v4).Write) v5.length then
    if inI (v4 + 1) then
    some (.inl ((v4 + 1), (put v5 ((ix x0.Events v4).Write) v4), v6))
    else none
    else none
   else
    if inX ((ix x0.Events v4).Write) v6.length then
    if inI (v4 + 1) then
    some (.inl ((v4 + 1), v5, (put v6 ((ix x0.Events v4).Write) v4)))
    else none
    else none
   else none
  else
   if (0 : Int) ≠ 0 then
    if (0 : Int) ≠ 0 then
     some (.inr (([] : List Int), 0))
    else
     none
   else
    loopS (Z157 x0 x1 v5 v6) 100000 (0, ([] : List (List Bool)))
theorem cut_Least_L2_sound (x0 : api_History) (x1 : List Int) (s : Int × List Int × List Int) {Φ : List Int × Int → Prop} {rec2 : (Int × List Int × List Int) → Prop} {o} (h : Z158 x0 x1 s = some o) (hK : (orK rec2 Φ) o) : cut_Least_L2 x0 x1 Φ s rec2 := by
  obtain ⟨v4, v5, v6⟩ := s
  unfold Z158 at h
  unfold cut_Least_L2
  exact ifS h (fun h => adS h fun h => ifS h (fun h => adS h fun h => adS h fun h => have t := lfS h hK; t) fun h => adS h fun h => adS h fun h => have t := lfS h hK; t) fun h => ifS h (fun h => ifS h (fun h => have t := lfS h hK; t) fun h => (by cases h)) fun h => LoopW.of_S (fun s q rec hs hq => cut_Least_L3_sound _ _ _ _ s hs hq) _ _ h hK
def cut_Least_S (x0 : api_History) (x1 : List Int) : Option (List Int × Int) :=
 Option.bind (Z139 x0) fun v1 =>
 if v1 ≠ 0 then
  if v1 ≠ 0 then
   if v1 ≠ 0 then
    some ((([] : List Int), v1))
   else
    none
  else
   loopS (Z154 x1) 100000 ()
 else
  Option.bind (Z144 ([(x0.Events.length : Int)] : List Int) (x0.Writes.length : Int)) fun z =>
  let v2 : List Int × Unit := (z, ())
  Option.bind (Z144 ([(x0.Events.length : Int)] : List Int) (x0.Writes.length : Int)) fun z =>
  let v3 : List Int × Unit := (z, ())
  loopS (Z158 x0 x1) 100000 (0, v2.1, v3.1)
theorem cut_Least_sound (x0 : api_History) (x1 : List Int) {Φ : List Int × Int → Prop} {o} (h : cut_Least_S x0 x1 = some o) (hK : Φ o) : cut_Least_W x0 x1 Φ := by
  unfold cut_Least_S at h
  unfold cut_Least_W
  exact blS h fun _ hv h => history_Check_sound _ hv (ifS h (fun h => ifS h (fun h => ifS h (fun h => have t := lfS h hK; t) fun h => (by cases h)) fun h => LoopW.of_S (fun s q rec hs hq => cut_Least_L1_sound _ s hs hq) _ _ h hK) fun h => blS h fun _ hv h => ⟨_, slices_Repeat_int_int_sound _ _ hv rfl, blS h fun _ hv h => ⟨_, slices_Repeat_int_int_sound _ _ hv rfl, LoopW.of_S (fun s q rec hs hq => cut_Least_L2_sound _ _ s hs hq) _ _ h hK⟩⟩)
def Z159 (x1 : List Int) : (Unit) → Option ((Unit) ⊕ (List Int × Int))
 | _ =>
  if 0 < (([x1] : List (List Int)).length : Int) then
   if inX 0 ([x1] : List (List Int)).length then
   none
   else none
  else
   if (0 : Int) ≠ 0 then
    some (.inr (([] : List Int), 0))
   else
    none
theorem cut_Greatest_L1_sound (x1 : List Int) (s : Unit) {Φ : List Int × Int → Prop} {rec1 : (Unit) → Prop} {o} (h : Z159 x1 s = some o) (hK : (orK rec1 Φ) o) : Z33 x1 Φ s rec1 := by
  unfold Z159 at h
  unfold Z33
  exact ifS h (fun h => adS h fun h => (by cases h)) fun h => ifS h (fun h => have t := lfS h hK; t) fun h => (by cases h)
def Z160 (x0 : api_History) (v5 : List Int) (v6 : List Int) (v8 : List (List Bool)) (v12 : Int × Unit) (r13 : List (Int × Unit)) : (Int × List Bool) → Option ((Int × List Bool) ⊕ ((List (Int × Unit) × List Bool) ⊕ ((Int × List (List Bool)) ⊕ ((Int × List Int × List Int) ⊕ (List Int × Int)))))
 | (v14, v15) =>
  if v14 < (x0.Writes.length : Int) then
   if inX v12.1 v15.length then
   if (ix v15 v12.1) = true then
    if inX 0 v8.length then
    if inX v14 (ix v8 0).length then
    if (ix (ix v8 0) v14) = true then
     if inX v12.1 v15.length then
     if inI (v14 + 1) then
     some (.inl ((v14 + 1), (put v15 v12.1 true)))
     else none
     else none
    else
     Option.bind (Z148 (Ptr.mk (cut_relation.mk (x0.Writes.length : Int) (x0.Events.length : Int) v5 v6)) v14 v12.1) fun z =>
     let v16 : Bool × Unit := (z, ())
     if inX v12.1 v15.length then
     if inI (v14 + 1) then
     some (.inl ((v14 + 1), (put v15 v12.1 (decide (¬ (v16.1 = true))))))
     else none
     else none
    else none
    else none
   else
    if inX v12.1 v15.length then
    if inI (v14 + 1) then
    some (.inl ((v14 + 1), (put v15 v12.1 false)))
    else none
    else none
   else none
  else
   some (.inr (.inl (r13, v15)))
theorem cut_Greatest_L5_sound (x0 : api_History) (v5 : List Int) (v6 : List Int) (v8 : List (List Bool)) (v12 : Int × Unit) (r13 : List (Int × Unit)) (s : Int × List Bool) {Φ : List Int × Int → Prop} {rec2 : (Int × List Int × List Int) → Prop} {rec3 : (Int × List (List Bool)) → Prop} {rec4 : (List (Int × Unit) × List Bool) → Prop} {rec5 : (Int × List Bool) → Prop} {o} (h : Z160 x0 v5 v6 v8 v12 r13 s = some o) (hK : (orK rec5 (orK rec4 (orK rec3 (orK rec2 Φ)))) o) : Z34 x0 v5 v6 v8 rec4 v12 r13 Φ s rec5 := by
  obtain ⟨v14, v15⟩ := s
  unfold Z160 at h
  unfold Z34
  exact ifS h (fun h => adS h fun h => ifS h (fun h => adS h fun h => adS h fun h => ifS h (fun h => adS h fun h => adS h fun h => have t := lfS h hK; t) fun h => blS h fun _ hv h => ⟨_, cut_relation_before_sound _ _ _ hv rfl, adS h fun h => adS h fun h => have t := lfS h hK; t⟩) fun h => adS h fun h => adS h fun h => have t := lfS h hK; t) fun h => have t := lfS h hK; t
def Z161 (x0 : api_History) (v5 : List Int) (v6 : List Int) (v8 : List (List Bool)) : (List (Int × Unit) × List Bool) → Option ((List (Int × Unit) × List Bool) ⊕ ((Int × List (List Bool)) ⊕ ((Int × List Int × List Int) ⊕ (List Int × Int))))
 | (lst, v11) =>
  match lst with
  | [] =>
   Option.bind (Z153 v11) fun v17 =>
   some (.inr (.inr (.inr (v17, 0))))
  | v12 :: r13 =>
   loopS (Z160 x0 v5 v6 v8 v12 r13) 100000 (0, v11)
theorem cut_Greatest_L4_sound (x0 : api_History) (v5 : List Int) (v6 : List Int) (v8 : List (List Bool)) (s : List (Int × Unit) × List Bool) {Φ : List Int × Int → Prop} {rec2 : (Int × List Int × List Int) → Prop} {rec3 : (Int × List (List Bool)) → Prop} {rec4 : (List (Int × Unit) × List Bool) → Prop} {o} (h : Z161 x0 v5 v6 v8 s = some o) (hK : (orK rec4 (orK rec3 (orK rec2 Φ))) o) : Z35 x0 v5 v6 v8 Φ s rec4 := by
  obtain ⟨lst, v11⟩ := s
  unfold Z161 at h
  unfold Z35
  cases lst with
  | nil => exact blS h fun _ hv h => cut_marks_list_sound _ hv (have t := lfS h hK; t)
  | cons _ _ => exact LoopW.of_S (fun s q rec hs hq => cut_Greatest_L5_sound _ _ _ _ _ _ s hs hq) _ _ h hK
def Z162 (x0 : api_History) (x1 : List Int) (v5 : List Int) (v6 : List Int) : (Int × List (List Bool)) → Option ((Int × List (List Bool)) ⊕ ((Int × List Int × List Int) ⊕ (List Int × Int)))
 | (v7, v8) =>
  if v7 < (([x1] : List (List Int)).length : Int) then
   if inX v7 ([x1] : List (List Int)).length then
   Option.bind (Z147 (Ptr.mk (cut_relation.mk (x0.Writes.length : Int) (x0.Events.length : Int) v5 v6)) (ix ([x1] : List (List Int)) v7)) fun v9 =>
   if ¬ (v9.2 = true) then
    if (2 : Int) ≠ 0 then
     some (.inr (.inr (([] : List Int), 2)))
    else
     none
   else
    if lenOk (v8 ++ ([v9.1] : List (List Bool))).length 24 then
    if inI (v7 + 1) then
    some (.inl ((v7 + 1), (v8 ++ ([v9.1] : List (List Bool)))))
    else none
    else none
   else none
  else
   if (0 : Int) ≠ 0 then
    some (.inr (.inr (([] : List Int), 0)))
   else
    if inX 0 v8.length then
    Option.bind (Z149 (ix v8 0)) fun v10 =>
    if inX 0 v8.length then
    Option.bind (Z151 (ix v8 0)) fun l18 =>
    loopS (Z161 x0 v5 v6 v8) 100000 (l18, v10)
    else none
    else none
theorem cut_Greatest_L3_sound (x0 : api_History) (x1 : List Int) (v5 : List Int) (v6 : List Int) (s : Int × List (List Bool)) {Φ : List Int × Int → Prop} {rec2 : (Int × List Int × List Int) → Prop} {rec3 : (Int × List (List Bool)) → Prop} {o} (h : Z162 x0 x1 v5 v6 s = some o) (hK : (orK rec3 (orK rec2 Φ)) o) : Z36 x0 x1 v5 v6 Φ s rec3 := by
  obtain ⟨v7, v8⟩ := s
  unfold Z162 at h
  unfold Z36
  exact ifS h (fun h => adS h fun h => blS h fun _ hv h => cut_relation_mark_sound _ _ hv (ifS h (fun h => ifS h (fun h => have t := lfS h hK; t) fun h => (by cases h)) fun h => adS h fun h => adS h fun h => have t := lfS h hK; t)) fun h => ifS h (fun h => have t := lfS h hK; t) fun h => adS h fun h => blS h fun _ hv h => slices_Clone_cut_marks_bool_sound _ hv (adS h fun h => blS h fun _ hv h => ⟨_, cut_marks_members_1_sound _ hv, LoopW.of_S (fun s q rec hs hq => cut_Greatest_L4_sound _ _ _ _ s hs hq) _ _ h hK⟩)
def Z163 (x0 : api_History) (x1 : List Int) : (Int × List Int × List Int) → Option ((Int × List Int × List Int) ⊕ (List Int × Int))
 | (v4, v5, v6) =>
  if v4 < (x0.Events.length : Int) then
   if inX v4 x0.Events.length then
   if ((ix x0.Events v4).Kind) = 0 then
    if inX ((ix x0.Events v4).Write) v5.length then
    if inI (v4 + 1) then
    some (.inl ((v4 + 1), (put v5 ((ix x0.Events v4).Write) v4), v6))
    else none
    else none
   else
    if inX ((ix x0.Events v4).Write) v6.length then
    if inI (v4 + 1) then
    some (.inl ((v4 + 1), v5, (put v6 ((ix x0.Events v4).Write) v4)))
    else none
    else none
   else none
  else
   if (0 : Int) ≠ 0 then
    if (0 : Int) ≠ 0 then
     some (.inr (([] : List Int), 0))
    else
     none
   else
    loopS (Z162 x0 x1 v5 v6) 100000 (0, ([] : List (List Bool)))
theorem cut_Greatest_L2_sound (x0 : api_History) (x1 : List Int) (s : Int × List Int × List Int) {Φ : List Int × Int → Prop} {rec2 : (Int × List Int × List Int) → Prop} {o} (h : Z163 x0 x1 s = some o) (hK : (orK rec2 Φ) o) : Z37 x0 x1 Φ s rec2 := by
  obtain ⟨v4, v5, v6⟩ := s
  unfold Z163 at h
  unfold Z37
  exact ifS h (fun h => adS h fun h => ifS h (fun h => adS h fun h => adS h fun h => have t := lfS h hK; t) fun h => adS h fun h => adS h fun h => have t := lfS h hK; t) fun h => ifS h (fun h => ifS h (fun h => have t := lfS h hK; t) fun h => (by cases h)) fun h => LoopW.of_S (fun s q rec hs hq => cut_Greatest_L3_sound _ _ _ _ s hs hq) _ _ h hK
def Z164 (x0 : api_History) (x1 : List Int) : Option (List Int × Int) :=
 Option.bind (Z139 x0) fun v1 =>
 if v1 ≠ 0 then
  if v1 ≠ 0 then
   if v1 ≠ 0 then
    some ((([] : List Int), v1))
   else
    none
  else
   loopS (Z159 x1) 100000 ()
 else
  Option.bind (Z144 ([(x0.Events.length : Int)] : List Int) (x0.Writes.length : Int)) fun z =>
  let v2 : List Int × Unit := (z, ())
  Option.bind (Z144 ([(x0.Events.length : Int)] : List Int) (x0.Writes.length : Int)) fun z =>
  let v3 : List Int × Unit := (z, ())
  loopS (Z163 x0 x1) 100000 (0, v2.1, v3.1)
theorem cut_Greatest_sound (x0 : api_History) (x1 : List Int) {Φ : List Int × Int → Prop} {o} (h : Z164 x0 x1 = some o) (hK : Φ o) : Z38 x0 x1 Φ := by
  unfold Z164 at h
  unfold Z38
  exact blS h fun _ hv h => history_Check_sound _ hv (ifS h (fun h => ifS h (fun h => ifS h (fun h => have t := lfS h hK; t) fun h => (by cases h)) fun h => LoopW.of_S (fun s q rec hs hq => cut_Greatest_L1_sound _ s hs hq) _ _ h hK) fun h => blS h fun _ hv h => ⟨_, slices_Repeat_int_int_sound _ _ hv rfl, blS h fun _ hv h => ⟨_, slices_Repeat_int_int_sound _ _ hv rfl, LoopW.of_S (fun s q rec hs hq => cut_Greatest_L2_sound _ _ s hs hq) _ _ h hK⟩⟩)
def Z165 (x0 : List Int) (x1 : List Int) : (Int) → Option ((Int) ⊕ (Bool))
 | v1 =>
  if v1 < (x0.length : Int) then
   if inX v1 x0.length then
   if inX v1 x1.length then
   if (ix x0 v1) ≠ (ix x1 v1) then
    some (.inr false)
   else
    if inI (v1 + 1) then
    some (.inl (v1 + 1))
    else none
   else none
   else none
  else
   some (.inr true)
theorem slices_Equal_int_int_L1_sound (x0 : List Int) (x1 : List Int) (s : Int) {Φ : Bool → Prop} {rec1 : (Int) → Prop} {o} (h : Z165 x0 x1 s = some o) (hK : (orK rec1 Φ) o) : Z39 x0 x1 Φ s rec1 := by
  unfold Z165 at h
  unfold Z39
  exact ifS h (fun h => adS h fun h => adS h fun h => ifS h (fun h => have t := lfS h hK; t) fun h => adS h fun h => have t := lfS h hK; t) fun h => have t := lfS h hK; t
def Z166 (x0 : List Int) (x1 : List Int) : Option (Bool) :=
 if (x0.length : Int) ≠ (x1.length : Int) then
  some (false)
 else
  loopS (Z165 x0 x1) 100000 0
theorem slices_Equal_int_int_sound (x0 : List Int) (x1 : List Int) {Φ : Bool → Prop} {o} (h : Z166 x0 x1 = some o) (hK : Φ o) : Z40 x0 x1 Φ := by
  unfold Z166 at h
  unfold Z40
  exact ifS h (fun h => have t := lfS h hK; t) fun h => LoopW.of_S (fun s q rec hs hq => slices_Equal_int_int_L1_sound _ _ s hs hq) _ _ h hK
def Z167 (x0 : Int) : (Int × List Int) → Option ((Int × List Int) ⊕ (List Int))
 | (v1, v2) =>
  if v1 < x0 then
   if lenOk (v2 ++ ([v1] : List Int)).length 8 then
   if inI (v1 + 1) then
   some (.inl ((v1 + 1), (v2 ++ ([v1] : List Int))))
   else none
   else none
  else
   some (.inr v2)
theorem ref15_First_L1_sound (x0 : Int) (s : Int × List Int) {Φ : List Int → Prop} {rec1 : (Int × List Int) → Prop} {o} (h : Z167 x0 s = some o) (hK : (orK rec1 Φ) o) : Z41 x0 Φ s rec1 := by
  obtain ⟨v1, v2⟩ := s
  unfold Z167 at h
  unfold Z41
  exact ifS h (fun h => adS h fun h => adS h fun h => have t := lfS h hK; t) fun h => have t := lfS h hK; t
def ref15_First_S (x0 : Int) : Option (List Int) :=
 loopS (Z167 x0) 100000 (0, ([] : List Int))
theorem ref15_First_sound (x0 : Int) {Φ : List Int → Prop} {o} (h : ref15_First_S x0 = some o) (hK : Φ o) : ref15_First_W x0 Φ := by
  unfold ref15_First_S at h
  unfold ref15_First_W
  exact LoopW.of_S (fun s q rec hs hq => ref15_First_L1_sound _ s hs hq) _ _ h hK
def Z168 (x0 : history_checked) (x1 : List Int) : (Int) → Option ((Int) ⊕ (Bool))
 | v1 =>
  if v1 < (x1.length : Int) then
   if inX v1 x1.length then
   if (ix x1 v1) < 0 then
    some (.inr false)
   else
    if (x0.History.Writes.length : Int) ≤ (ix x1 v1) then
     some (.inr false)
    else
     if 0 < v1 then
      if inI (v1 - 1) then
      if inX (v1 - 1) x1.length then
      if (ix x1 v1) ≤ (ix x1 (v1 - 1)) then
       some (.inr false)
      else
       if inI (v1 + 1) then
       some (.inl (v1 + 1))
       else none
      else none
      else none
     else
      if inI (v1 + 1) then
      some (.inl (v1 + 1))
      else none
   else none
  else
   some (.inr true)
theorem history_checked_isSet_L1_sound (x0 : history_checked) (x1 : List Int) (s : Int) {Φ : Bool → Prop} {rec1 : (Int) → Prop} {o} (h : Z168 x0 x1 s = some o) (hK : (orK rec1 Φ) o) : Z45 x0 x1 Φ s rec1 := by
  unfold Z168 at h
  unfold Z45
  exact ifS h (fun h => adS h fun h => ifS h (fun h => have t := lfS h hK; t) fun h => ifS h (fun h => have t := lfS h hK; t) fun h => ifS h (fun h => adS h fun h => adS h fun h => ifS h (fun h => have t := lfS h hK; t) fun h => adS h fun h => have t := lfS h hK; t) fun h => adS h fun h => have t := lfS h hK; t) fun h => have t := lfS h hK; t
def Z169 (x0 : history_checked) (x1 : List Int) : Option (Bool) :=
 loopS (Z168 x0 x1) 100000 0
theorem history_checked_isSet_sound (x0 : history_checked) (x1 : List Int) {Φ : Bool → Prop} {o} (h : Z169 x0 x1 = some o) (hK : Φ o) : Z46 x0 x1 Φ := by
  unfold Z169 at h
  unfold Z46
  exact LoopW.of_S (fun s q rec hs hq => history_checked_isSet_L1_sound _ _ s hs hq) _ _ h hK
def Z170 (x0 : List Int) (x1 : history_checked) : (Int) → Option (List (Int × api_Write × Unit) × ((Int) ⊕ (Unit)))
 | v1 =>
  if v1 < (x0.length : Int) then
   if inX v1 x0.length then
   if inX (ix x0 v1) x1.History.Writes.length then
   Option.map (fun q => (((ix x0 v1), (ix x1.History.Writes (ix x0 v1)), ()) :: q.1, q.2)) (
    if inI (v1 + 1) then
    some ([], .inl (v1 + 1))
    else none)
   else none
   else none
  else
   some ([], .inr ())
theorem history_checked_members_1_L1_sound (x0 : List Int) (x1 : history_checked) (s : Int) {ys : List (Int × api_Write × Unit)} {q} {r : List (Int × api_Write × Unit)} {rec1 : (List (Int × api_Write × Unit) × Int) → Prop} (h : Z170 x0 x1 s = some (ys, q)) (hr : (orK (fun s => rec1 (r, s)) (fun _ => r = [])) q) : Z47 x0 x1 (ys ++ r, s) rec1 := by
  unfold Z170 at h
  unfold Z47
  exact ifS h (fun h => adS h fun h => adS h fun h => mpS h fun q_ h_ he => (by obtain ⟨_, _⟩ := q_; cases he; exact ⟨rfl, (have h := h_; adS h fun h => (by cases h; exact hr)), trivial⟩)) fun h => (by cases h; exact hr)
def history_checked_members_1_S0 (x0 : List Int) (x1 : history_checked) : Option (List (Int × api_Write × Unit) × Unit) :=
 genS (Z170 x0 x1) 100000 0
def Z171 (x0 : List Int) (x1 : history_checked) : Option (List (Int × api_Write × Unit)) := Option.map Prod.fst (history_checked_members_1_S0 x0 x1)
theorem history_checked_members_1_sound (x0 : List Int) (x1 : history_checked) {l : List (Int × api_Write × Unit)} (h : Z171 x0 x1 = some l) : history_checked_members_1_I x0 x1 l := by
  obtain ⟨⟨ys, q⟩, h0, h1⟩ := Option.map_eq_some_iff.1 h
  clear h
  have h := h0
  subst h1
  unfold history_checked_members_1_S0 at h
  unfold history_checked_members_1_I
  have hr : (fun _ => ([] : List (Int × api_Write × Unit)) = []) q := rfl
  rw [← List.append_nil ys]
  exact LoopW.of_G (K := fun r => (fun _ => r = [])) (fun s ys q r rec hs hr => history_checked_members_1_L1_sound _ _ s hs hr) _ _ _ h hr
def Z172 (x0 : List (BitVec 8)) : (Int × List Sec) → Option ((Int × List Sec) ⊕ (List Sec))
 | (v1, v2) =>
  if v1 < (x0.length : Int) then
   if inX v1 x0.length then
   if lenOk (v2 ++ ([(Sec.mk (ix x0 v1) (0#8) (0#8) (0#8) (0#8) (0#8) (0#8) (0#8))] : List Sec)).length 8 then
   if inI (v1 + 1) then
   some (.inl ((v1 + 1), (v2 ++ ([(Sec.mk (ix x0 v1) (0#8) (0#8) (0#8) (0#8) (0#8) (0#8) (0#8))] : List Sec))))
   else none
   else none
   else none
  else
   some (.inr v2)
theorem law18_example_1_L1_sound (x0 : List (BitVec 8)) (s : Int × List Sec) {Φ : List Sec → Prop} {rec1 : (Int × List Sec) → Prop} {o} (h : Z172 x0 s = some o) (hK : (orK rec1 Φ) o) : Z48 x0 Φ s rec1 := by
  obtain ⟨v1, v2⟩ := s
  unfold Z172 at h
  unfold Z48
  exact ifS h (fun h => adS h fun h => adS h fun h => adS h fun h => have t := lfS h hK; t) fun h => have t := lfS h hK; t
def Z173 (x0 : List (BitVec 8)) : Option (List Sec) :=
 loopS (Z172 x0) 100000 (0, ([] : List Sec))
theorem law18_example_1_sound (x0 : List (BitVec 8)) {Φ : List Sec → Prop} {o} (h : Z173 x0 = some o) (hK : Φ o) : Z49 x0 Φ := by
  unfold Z173 at h
  unfold Z49
  exact LoopW.of_S (fun s q rec hs hq => law18_example_1_L1_sound _ s hs hq) _ _ h hK
def Z174 (x0 : Int) (x1 : Int) : Option (api_HistoryEvent) :=
 some ((api_HistoryEvent.mk x0 x1))
theorem law18_example_2_sound (x0 : Int) (x1 : Int) {Φ : api_HistoryEvent → Prop} {o} (h : Z174 x0 x1 = some o) (hK : Φ o) : Z50 x0 x1 Φ := by
  unfold Z174 at h
  unfold Z50
  exact have t := lfS h hK; t
def Z175 : Option (api_History) :=
 Option.bind (Z173 ([1#8] : List (BitVec 8))) fun v1 =>
 Option.bind (Z173 ([2#8] : List (BitVec 8))) fun v2 =>
 Option.bind (Z173 ([3#8, 4#8] : List (BitVec 8))) fun v3 =>
 Option.bind (Z174 0 0) fun v4 =>
 Option.bind (Z174 1 0) fun v5 =>
 Option.bind (Z174 0 1) fun v6 =>
 Option.bind (Z174 1 1) fun v7 =>
 Option.bind (Z174 0 2) fun v8 =>
 some ((api_History.mk ([3] : List Int) ([(api_Write.mk 0 0 v1), (api_Write.mk 0 1 v2), (api_Write.mk 0 0 v3)] : List api_Write) ([v4, v5, v6, v7, v8] : List api_HistoryEvent)))
theorem law18_example_sound {Φ : api_History → Prop} {o} (h : Z175 = some o) (hK : Φ o) : Z51 Φ := by
  unfold Z175 at h
  unfold Z51
  exact blS h fun _ hv h => law18_example_1_sound _ hv (blS h fun _ hv h => law18_example_1_sound _ hv (blS h fun _ hv h => law18_example_1_sound _ hv (blS h fun _ hv h => law18_example_2_sound _ _ hv (blS h fun _ hv h => law18_example_2_sound _ _ hv (blS h fun _ hv h => law18_example_2_sound _ _ hv (blS h fun _ hv h => law18_example_2_sound _ _ hv (blS h fun _ hv h => law18_example_2_sound _ _ hv (have t := lfS h hK; t))))))))
def law18_of_S (x0 : BitVec 8) (x1 : BitVec 8) (x2 : BitVec 8) : Option (List (List Sec)) :=
 some (([([(Sec.mk x0 (0#8) (0#8) (0#8) (0#8) (0#8) (0#8) (0#8)), (Sec.mk x1 (0#8) (0#8) (0#8) (0#8) (0#8) (0#8) (0#8)), (Sec.mk x2 (0#8) (0#8) (0#8) (0#8) (0#8) (0#8) (0#8))] : List Sec)] : List (List Sec)))
theorem law18_of_sound (x0 : BitVec 8) (x1 : BitVec 8) (x2 : BitVec 8) {Φ : List (List Sec) → Prop} {o} (h : law18_of_S x0 x1 x2 = some o) (hK : Φ o) : law18_of_W x0 x1 x2 Φ := by
  unfold law18_of_S at h
  unfold law18_of_W
  exact have t := lfS h hK; t
def Z176 (x0 : List Sec) (x1 : Int) : Option (Bool) :=
 some (decide ((x0.length : Int) = x1))
theorem consistency_newJudge_1_sound (x0 : List Sec) (x1 : Int) {Φ : Bool → Prop} {o} (h : Z176 x0 x1 = some o) (hK : Φ o) : Z52 x0 x1 Φ := by
  unfold Z176 at h
  unfold Z52
  exact have t := lfS h hK; t
def Z177 (x0 : consistency_place) (x1 : Sec) : Option (api_Write) :=
 some ((api_Write.mk x0.volume x0.sector ([x1] : List Sec)))
theorem consistency_single_sound (x0 : consistency_place) (x1 : Sec) {Φ : api_Write → Prop} {o} (h : Z177 x0 x1 = some o) (hK : Φ o) : Z53 x0 x1 Φ := by
  unfold Z177 at h
  unfold Z53
  exact have t := lfS h hK; t
def Z178 (x0 : List Sec) : Option (List Sec) :=
 bothS (decide (x0 = [])) (
  some (([] : List Sec))) (
  if lenOk (([] : List Sec) ++ x0).length 8 then
  some ((([] : List Sec) ++ x0))
  else none)
theorem slices_Clone_api_Sector_api_Sector_sound (x0 : List Sec) {Φ : List Sec → Prop} {o} (h : Z178 x0 = some o) (hK : Φ o) : Z54 x0 Φ := by
  unfold Z178 at h
  unfold Z54
  exact nl2S h (fun h => have t := lfS h hK; t) fun h => adS h fun h => have t := lfS h hK; t
def Z179 (x0 : List (List Sec)) : (List (List Sec) × Int) → Option ((List (List Sec) × Int) ⊕ (List (List Sec)))
 | (v12, v20) =>
  if v20 < (x0.length : Int) then
   if inX v20 x0.length then
   Option.bind (Z178 (ix x0 v20)) fun v27 =>
   if lenOk (v12 ++ [v27]).length 24 then
   if inI (v20 + 1) then
   some (.inl ((v12 ++ [v27]), v20 + 1))
   else none
   else none
   else none
  else
   some (.inr v12)
theorem image_mappedE_L1_sound (x0 : List (List Sec)) (s : List (List Sec) × Int) {Φ : List (List Sec) → Prop} {rec1 : (List (List Sec) × Int) → Prop} {o} (h : Z179 x0 s = some o) (hK : (orK rec1 Φ) o) : Z55 x0 Φ s rec1 := by
  obtain ⟨v12, v20⟩ := s
  unfold Z179 at h
  unfold Z55
  exact ifS h (fun h => adS h fun h => blS h fun _ hv h => slices_Clone_api_Sector_api_Sector_sound _ hv (adS h fun h => adS h fun h => have t := lfS h hK; t)) fun h => have t := lfS h hK; t
def Z180 (x0 : List (List Sec)) : Option (List (List Sec)) :=
 if 0 ≤ (x0.length : Int) then
 if lenOk (x0.length : Int).toNat 24 then
 loopS (Z179 x0) 100000 (([] : List (List Sec)), 0)
 else none
 else none
theorem image_mappedE_sound (x0 : List (List Sec)) {Φ : List (List Sec) → Prop} {o} (h : Z180 x0 = some o) (hK : Φ o) : Z56 x0 Φ := by
  unfold Z180 at h
  unfold Z56
  exact adS h fun h => adS h fun h => LoopW.of_S (fun s q rec hs hq => image_mappedE_L1_sound _ s hs hq) _ _ h hK
def Z181 (x0 : List (List Sec)) : Option (List (List Sec)) :=
 Option.bind (Z180 x0) fun v2 =>
 some (v2)
theorem image_copiedE_sound (x0 : List (List Sec)) {Φ : List (List Sec) → Prop} {o} (h : Z181 x0 = some o) (hK : Φ o) : Z57 x0 Φ := by
  unfold Z181 at h
  unfold Z57
  exact blS h fun _ hv h => image_mappedE_sound _ hv (have t := lfS h hK; t)
def Z182 (x1 : List api_Write) : (List (List Sec) × Int) → Option ((List (List Sec) × Int) ⊕ (List (List Sec) × Int × Int))
 | (v16, v24) =>
  if v24 < (x1.length : Int) then
   if inX v24 x1.length then
   Option.bind (image_fits_S v16 (ix x1 v24)) fun v38 =>
   if v38 ≠ 0 then
    some (.inr (([] : List (List Sec)), v24, v38))
   else
    if inX ((ix x1 v24).Volume) v16.length then
    if inS ((ix x1 v24).Start) ((ix v16 ((ix x1 v24).Volume)).length : Int) (ix v16 ((ix x1 v24).Volume)).length then
    if inI (v24 + 1) then
    some (.inl ((put v16 ((ix x1 v24).Volume) (paste (ix v16 ((ix x1 v24).Volume)) ((ix x1 v24).Start) ((ix x1 v24).Data))), v24 + 1))
    else none
    else none
    else none
   else none
  else
   some (.inr (v16, 0, 0))
theorem image_Apply_L1_sound (x1 : List api_Write) (s : List (List Sec) × Int) {Φ : List (List Sec) × Int × Int → Prop} {rec1 : (List (List Sec) × Int) → Prop} {o} (h : Z182 x1 s = some o) (hK : (orK rec1 Φ) o) : Z58 x1 Φ s rec1 := by
  obtain ⟨v16, v24⟩ := s
  unfold Z182 at h
  unfold Z58
  exact ifS h (fun h => adS h fun h => blS h fun _ hv h => image_fits_sound _ _ hv (ifS h (fun h => have t := lfS h hK; t) fun h => adS h fun h => adS h fun h => adS h fun h => have t := lfS h hK; t)) fun h => have t := lfS h hK; t
def image_Apply_S (x0 : List (List Sec)) (x1 : List api_Write) : Option (List (List Sec) × Int × Int) :=
 Option.bind (image_Check_S x0) fun v3 =>
 if v3 ≠ 0 then
  some ((([] : List (List Sec)), 0, v3))
 else
  Option.bind (Z181 x0) fun v7 =>
  loopS (Z182 x1) 100000 (v7, 0)
theorem image_Apply_sound (x0 : List (List Sec)) (x1 : List api_Write) {Φ : List (List Sec) × Int × Int → Prop} {o} (h : image_Apply_S x0 x1 = some o) (hK : Φ o) : image_Apply_W x0 x1 Φ := by
  unfold image_Apply_S at h
  unfold image_Apply_W
  exact blS h fun _ hv h => image_Check_sound _ hv (ifS h (fun h => have t := lfS h hK; t) fun h => blS h fun _ hv h => image_copiedE_sound _ hv (LoopW.of_S (fun s q rec hs hq => image_Apply_L1_sound _ s hs hq) _ _ h hK))
def Z183 (v3 : List (List Sec) × Int) : (List (Int × api_Write × Unit) × List api_Write) → Option ((List (Int × api_Write × Unit) × List api_Write) ⊕ (List (List Sec) × Int))
 | (lst, v4) =>
  match lst with
  | [] =>
   Option.bind (image_Apply_S v3.1 v4) fun v7 =>
   some (.inr (v7.1, v7.2.2))
  | v5 :: r6 =>
   if lenOk (v4 ++ ([v5.2.1] : List api_Write)).length 40 then
   some (.inl (r6, (v4 ++ ([v5.2.1] : List api_Write))))
   else none
theorem history_Image_L1_sound (v3 : List (List Sec) × Int) (s : List (Int × api_Write × Unit) × List api_Write) {Φ : List (List Sec) × Int → Prop} {rec1 : (List (Int × api_Write × Unit) × List api_Write) → Prop} {o} (h : Z183 v3 s = some o) (hK : (orK rec1 Φ) o) : Z59 v3 Φ s rec1 := by
  obtain ⟨lst, v4⟩ := s
  unfold Z183 at h
  unfold Z59
  cases lst with
  | nil => exact blS h fun _ hv h => image_Apply_sound _ _ hv (have t := lfS h hK; t)
  | cons _ _ => exact adS h fun h => have t := lfS h hK; t
def Z184 (x0 : api_History) (x1 : List Int) : Option (List (List Sec) × Int) :=
 Option.bind (Z138 x0) fun v1 =>
 if v1.2 ≠ 0 then
  some ((([] : List (List Sec)), v1.2))
 else
  Option.bind (Z169 v1.1 x1) fun v2 =>
  if ¬ (v2 = true) then
   some ((([] : List (List Sec)), 2))
  else
   Option.bind (image_New_S x0.Sizes) fun v3 =>
   Option.bind (Z171 x1 v1.1) fun l8 =>
   loopS (Z183 v3) 100000 (l8, ([] : List api_Write))
theorem history_Image_sound (x0 : api_History) (x1 : List Int) {Φ : List (List Sec) × Int → Prop} {o} (h : Z184 x0 x1 = some o) (hK : Φ o) : Z60 x0 x1 Φ := by
  unfold Z184 at h
  unfold Z60
  exact blS h fun _ hv h => history_check_sound _ hv (ifS h (fun h => have t := lfS h hK; t) fun h => blS h fun _ hv h => history_checked_isSet_sound _ _ hv (ifS h (fun h => have t := lfS h hK; t) fun h => blS h fun _ hv h => image_New_sound _ hv (blS h fun _ hv h => ⟨_, history_checked_members_1_sound _ _ hv, LoopW.of_S (fun s q rec hs hq => history_Image_L1_sound _ s hs hq) _ _ h hK⟩)))
def Z185 (v4 : Int) : (Bool × (List (consistency_content × Int))) → Option ((Int × (List (consistency_content × Int))) ⊕ (List Int × Bool × Int))
 | (v6, v7) =>
  if ¬ (v6 = true) then
   if (1 : Int) ≠ 0 then
    some (.inr (([] : List Int), false, 1))
   else
    none
  else
   if inI (v4 + 1) then
   some (.inl ((v4 + 1), v7))
   else none
theorem consistency_Find_J3_sound (v4 : Int) (s : Bool × (List (consistency_content × Int))) {Φ : List Int × Bool × Int → Prop} {rec2 : (Int × (List (consistency_content × Int))) → Prop} {o} (h : Z185 v4 s = some o) (hK : (orK rec2 Φ) o) : Z61 v4 rec2 Φ s := by
  obtain ⟨v6, v7⟩ := s
  unfold Z185 at h
  unfold Z61
  exact ifS h (fun h => ifS h (fun h => have t := lfS h hK; t) fun h => (by cases h)) fun h => adS h fun h => have t := lfS h hK; t
def Z186 (x0 : api_History) (v4 : Int) : (Int × (List (consistency_content × Int))) → Option ((Int × (List (consistency_content × Int))) ⊕ ((Int × (List (consistency_content × Int))) ⊕ (List Int × Bool × Int)))
 | (v8, v9) =>
  if v8 < (((ix x0.Writes v4).Data).length : Int) then
   if inX v8 ((ix x0.Writes v4).Data).length then
   if inI (((ix x0.Writes v4).Start) + v8) then
   if ¬ ((mhas v9 (consistency_content.mk (consistency_place.mk ((ix x0.Writes v4).Volume) (((ix x0.Writes v4).Start) + v8)) (ix ((ix x0.Writes v4).Data) v8))) = true) then
    if ¬ ((ix ((ix x0.Writes v4).Data) v8) ≠ sec0) then
     Option.map (fun z => .inr z) (Z185 v4 (false, (mput v9 (consistency_content.mk (consistency_place.mk ((ix x0.Writes v4).Volume) (((ix x0.Writes v4).Start) + v8)) (ix ((ix x0.Writes v4).Data) v8)) v4)))
    else
     if inI (v8 + 1) then
     some (.inl ((v8 + 1), (mput v9 (consistency_content.mk (consistency_place.mk ((ix x0.Writes v4).Volume) (((ix x0.Writes v4).Start) + v8)) (ix ((ix x0.Writes v4).Data) v8)) v4)))
     else none
   else
    Option.map (fun z => .inr z) (Z185 v4 (false, (mput v9 (consistency_content.mk (consistency_place.mk ((ix x0.Writes v4).Volume) (((ix x0.Writes v4).Start) + v8)) (ix ((ix x0.Writes v4).Data) v8)) v4)))
   else none
   else none
  else
   Option.map (fun z => .inr z) (Z185 v4 (true, v9))
theorem consistency_Find_L4_sound (x0 : api_History) (v4 : Int) (s : Int × (List (consistency_content × Int))) {Φ : List Int × Bool × Int → Prop} {rec2 : (Int × (List (consistency_content × Int))) → Prop} {rec4 : (Int × (List (consistency_content × Int))) → Prop} {o} (h : Z186 x0 v4 s = some o) (hK : (orK rec4 (orK rec2 Φ)) o) : Z62 x0 v4 rec2 Φ s rec4 := by
  obtain ⟨v8, v9⟩ := s
  unfold Z186 at h
  unfold Z62
  exact ifS h (fun h => adS h fun h => adS h fun h => ifS h (fun h => ifS h (fun h => mpS h fun _ hx he => consistency_Find_J3_sound _ _ hx (by subst he; exact hK)) fun h => adS h fun h => have t := lfS h hK; t) fun h => mpS h fun _ hx he => consistency_Find_J3_sound _ _ hx (by subst he; exact hK)) fun h => mpS h fun _ hx he => consistency_Find_J3_sound _ _ hx (by subst he; exact hK)
def Z187 (v10 : Int) (v11 : List Int) : (Bool) → Option ((Int × (List (consistency_content × Int))) ⊕ (List Int × Bool × Int))
 | v13 =>
  if v13 = true then
   some (.inr (([] : List Int), false, v10))
  else
   some (.inr (v11, true, 0))
theorem consistency_Find_J6_sound (v10 : Int) (v11 : List Int) (s : Bool) {Φ : List Int × Bool × Int → Prop} {rec2 : (Int × (List (consistency_content × Int))) → Prop} {o} (h : Z187 v10 v11 s = some o) (hK : (orK rec2 Φ) o) : Z63 v10 v11 Φ s := by
  unfold Z187 at h
  unfold Z63
  exact ifS h (fun h => have t := lfS h hK; t) fun h => have t := lfS h hK; t
def Z188 : (Int × List Int × Bool) → Option ((Int × (List (consistency_content × Int))) ⊕ (List Int × Bool × Int))
 | (v10, v11, v12) =>
  if v10 ≠ 0 then
   Z187 v10 v11 true
  else
   Z187 v10 v11 v12
theorem consistency_Find_J5_sound (s : Int × List Int × Bool) {Φ : List Int × Bool × Int → Prop} {rec2 : (Int × (List (consistency_content × Int))) → Prop} {o} (h : Z188 s = some o) (hK : (orK rec2 Φ) o) : Z64 Φ s := by
  obtain ⟨v10, v11, v12⟩ := s
  unfold Z188 at h
  unfold Z64
  exact ifS h (fun h => consistency_Find_J6_sound _ _ _ h hK) fun h => consistency_Find_J6_sound _ _ _ h hK
def Z189 (v21 : List Int × Int) : (Bool × Int × Int × List Sec) → Option ((Int × List Int) ⊕ ((Int × (List (consistency_content × Int))) ⊕ (List Int × Bool × Int)))
 | (v23, _, _, _) =>
  Option.map (fun z => .inr z) (Z188 (0, v21.1, v23))
theorem consistency_Find_J9_sound (v21 : List Int × Int) (s : Bool × Int × Int × List Sec) {Φ : List Int × Bool × Int → Prop} {rec2 : (Int × (List (consistency_content × Int))) → Prop} {rec8 : (Int × List Int) → Prop} {o} (h : Z189 v21 s = some o) (hK : (orK rec8 (orK rec2 Φ)) o) : Z65 v21 Φ s := by
  obtain ⟨v23, v24, v25, v26⟩ := s
  unfold Z189 at h
  unfold Z65
  exact mpS h fun _ hx he => consistency_Find_J5_sound _ hx (by subst he; exact hK)
def Z190 (x1 : List (List Sec)) (v14 : Bool) (v15 : Int) (v16 : Int) (v18 : List Sec) (v21 : List Int × Int) (v22 : List (List Sec) × Int) (v27 : Int) : (Int) → Option ((Int) ⊕ ((Int) ⊕ ((Int × List Int) ⊕ ((Int × (List (consistency_content × Int))) ⊕ (List Int × Bool × Int)))))
 | v28 =>
  if v28 < ((ix v22.1 v27).length : Int) then
   if inX v28 (ix v22.1 v27).length then
   if inX v27 x1.length then
   if inX v28 (ix x1 v27).length then
   if (ix (ix v22.1 v27) v28) ≠ (ix (ix x1 v27) v28) then
    Option.bind (Z177 (consistency_place.mk v27 v28) (ix (ix v22.1 v27) v28)) fun v29 =>
    Option.map (fun z => .inr (.inr z)) (Z189 v21 (true, v29.Volume, v29.Start, v29.Data))
   else
    if ¬ (¬ (v14 = true)) then
     Option.map (fun z => .inr (.inr z)) (Z189 v21 (v14, v15, v16, v18))
    else
     if inI (v28 + 1) then
     some (.inl (v28 + 1))
     else none
   else none
   else none
   else none
  else
   if inI (v27 + 1) then
   some (.inr (.inl (v27 + 1)))
   else none
theorem consistency_Find_L11_sound (x1 : List (List Sec)) (v14 : Bool) (v15 : Int) (v16 : Int) (v18 : List Sec) (v21 : List Int × Int) (v22 : List (List Sec) × Int) (v27 : Int) (s : Int) {Φ : List Int × Bool × Int → Prop} {rec2 : (Int × (List (consistency_content × Int))) → Prop} {rec8 : (Int × List Int) → Prop} {rec10 : (Int) → Prop} {rec11 : (Int) → Prop} {o} (h : Z190 x1 v14 v15 v16 v18 v21 v22 v27 s = some o) (hK : (orK rec11 (orK rec10 (orK rec8 (orK rec2 Φ)))) o) : Z66 x1 v14 v15 v16 v18 v21 v22 v27 rec10 Φ s rec11 := by
  unfold Z190 at h
  unfold Z66
  exact ifS h (fun h => adS h fun h => adS h fun h => adS h fun h => ifS h (fun h => blS h fun _ hv h => consistency_single_sound _ _ hv (mpS h fun _ hx he => consistency_Find_J9_sound _ _ hx (by subst he; exact hK))) fun h => ifS h (fun h => mpS h fun _ hx he => consistency_Find_J9_sound _ _ hx (by subst he; exact hK)) fun h => adS h fun h => have t := lfS h hK; t) fun h => adS h fun h => have t := lfS h hK; t
def Z191 (x1 : List (List Sec)) (v14 : Bool) (v15 : Int) (v16 : Int) (v18 : List Sec) (v21 : List Int × Int) (v22 : List (List Sec) × Int) : (Int) → Option ((Int) ⊕ ((Int × List Int) ⊕ ((Int × (List (consistency_content × Int))) ⊕ (List Int × Bool × Int))))
 | v27 =>
  if v27 < (v22.1.length : Int) then
   if inX v27 v22.1.length then
   loopS (Z190 x1 v14 v15 v16 v18 v21 v22 v27) 100000 0
   else none
  else
   Option.map (fun z => .inr z) (Z189 v21 (v14, v15, v16, v18))
theorem consistency_Find_L10_sound (x1 : List (List Sec)) (v14 : Bool) (v15 : Int) (v16 : Int) (v18 : List Sec) (v21 : List Int × Int) (v22 : List (List Sec) × Int) (s : Int) {Φ : List Int × Bool × Int → Prop} {rec2 : (Int × (List (consistency_content × Int))) → Prop} {rec8 : (Int × List Int) → Prop} {rec10 : (Int) → Prop} {o} (h : Z191 x1 v14 v15 v16 v18 v21 v22 s = some o) (hK : (orK rec10 (orK rec8 (orK rec2 Φ))) o) : Z67 x1 v14 v15 v16 v18 v21 v22 Φ s rec10 := by
  unfold Z191 at h
  unfold Z67
  exact ifS h (fun h => adS h fun h => LoopW.of_S (fun s q rec hs hq => consistency_Find_L11_sound _ _ _ _ _ _ _ _ s hs hq) _ _ h hK) fun h => mpS h fun _ hx he => consistency_Find_J9_sound _ _ hx (by subst he; exact hK)
def Z192 (x0 : api_History) (x1 : List (List Sec)) (v14 : Bool) (v15 : Int) (v16 : Int) (v17 : List (Int × Bool)) (v18 : List Sec) : (Int × List Int) → Option ((Int × List Int) ⊕ ((Int × (List (consistency_content × Int))) ⊕ (List Int × Bool × Int)))
 | (v19, v20) =>
  if v19 < (x0.Writes.length : Int) then
   if (mget v17 v19 false) = true then
    if lenOk (v20 ++ ([v19] : List Int)).length 8 then
    if inI (v19 + 1) then
    some (.inl ((v19 + 1), (v20 ++ ([v19] : List Int))))
    else none
    else none
   else
    if inI (v19 + 1) then
    some (.inl ((v19 + 1), v20))
    else none
  else
   Option.bind (cut_Least_S x0 v20) fun v21 =>
   if v21.2 ≠ 0 then
    Option.map (fun z => .inr z) (Z188 (v21.2, ([] : List Int), false))
   else
    Option.bind (Z184 x0 v21.1) fun v22 =>
    if v22.2 ≠ 0 then
     Option.map (fun z => .inr z) (Z188 (v22.2, ([] : List Int), false))
    else
     loopS (Z191 x1 v14 v15 v16 v18 v21 v22) 100000 0
theorem consistency_Find_L8_sound (x0 : api_History) (x1 : List (List Sec)) (v14 : Bool) (v15 : Int) (v16 : Int) (v17 : List (Int × Bool)) (v18 : List Sec) (s : Int × List Int) {Φ : List Int × Bool × Int → Prop} {rec2 : (Int × (List (consistency_content × Int))) → Prop} {rec8 : (Int × List Int) → Prop} {o} (h : Z192 x0 x1 v14 v15 v16 v17 v18 s = some o) (hK : (orK rec8 (orK rec2 Φ)) o) : Z68 x0 x1 v14 v15 v16 v17 v18 Φ s rec8 := by
  obtain ⟨v19, v20⟩ := s
  unfold Z192 at h
  unfold Z68
  exact ifS h (fun h => ifS h (fun h => adS h fun h => adS h fun h => have t := lfS h hK; t) fun h => adS h fun h => have t := lfS h hK; t) fun h => blS h fun _ hv h => cut_Least_sound _ _ hv (ifS h (fun h => mpS h fun _ hx he => consistency_Find_J5_sound _ hx (by subst he; exact hK)) fun h => blS h fun _ hv h => history_Image_sound _ _ hv (ifS h (fun h => mpS h fun _ hx he => consistency_Find_J5_sound _ hx (by subst he; exact hK)) fun h => LoopW.of_S (fun s q rec hs hq => consistency_Find_L10_sound _ _ _ _ _ _ _ s hs hq) _ _ h hK))
def Z193 (x0 : api_History) (x1 : List (List Sec)) : (Bool × Int × Int × (List (Int × Bool)) × List Sec) → Option ((Int × (List (consistency_content × Int))) ⊕ (List Int × Bool × Int))
 | (v14, v15, v16, v17, v18) =>
  if v14 = true then
   Z188 (0, ([] : List Int), true)
  else
   loopS (Z192 x0 x1 v14 v15 v16 v17 v18) 100000 (0, ([] : List Int))
theorem consistency_Find_J7_sound (x0 : api_History) (x1 : List (List Sec)) (s : Bool × Int × Int × (List (Int × Bool)) × List Sec) {Φ : List Int × Bool × Int → Prop} {rec2 : (Int × (List (consistency_content × Int))) → Prop} {o} (h : Z193 x0 x1 s = some o) (hK : (orK rec2 Φ) o) : Z69 x0 x1 Φ s := by
  obtain ⟨v14, v15, v16, v17, v18⟩ := s
  unfold Z193 at h
  unfold Z69
  exact ifS h (fun h => consistency_Find_J5_sound _ h hK) fun h => LoopW.of_S (fun s q rec hs hq => consistency_Find_L8_sound _ _ _ _ _ _ _ s hs hq) _ _ h hK
def Z194 (x0 : api_History) (x1 : List (List Sec)) (v5 : List (consistency_content × Int)) (v30 : Int) : (Int × (List (Int × Bool))) → Option ((Int × (List (Int × Bool))) ⊕ ((Int × (List (Int × Bool))) ⊕ ((Int × (List (consistency_content × Int))) ⊕ (List Int × Bool × Int))))
 | (v32, v33) =>
  if v32 < ((ix x1 v30).length : Int) then
   if inX v32 (ix x1 v30).length then
   if (ix (ix x1 v30) v32) = sec0 then
    if inI (v32 + 1) then
    some (.inl ((v32 + 1), v33))
    else none
   else
    if ¬ ((mhas v5 (consistency_content.mk (consistency_place.mk v30 v32) (ix (ix x1 v30) v32))) = true) then
     Option.bind (Z177 (consistency_place.mk v30 v32) (ix (ix x1 v30) v32)) fun v34 =>
     Option.map (fun z => .inr (.inr z)) (Z193 x0 x1 (true, v34.Volume, v34.Start, v33, v34.Data))
    else
     if inI (v32 + 1) then
     some (.inl ((v32 + 1), (mput v33 (mget v5 (consistency_content.mk (consistency_place.mk v30 v32) (ix (ix x1 v30) v32)) 0) true)))
     else none
   else none
  else
   if inI (v30 + 1) then
   some (.inr (.inl ((v30 + 1), v33)))
   else none
theorem consistency_Find_L13_sound (x0 : api_History) (x1 : List (List Sec)) (v5 : List (consistency_content × Int)) (v30 : Int) (s : Int × (List (Int × Bool))) {Φ : List Int × Bool × Int → Prop} {rec2 : (Int × (List (consistency_content × Int))) → Prop} {rec12 : (Int × (List (Int × Bool))) → Prop} {rec13 : (Int × (List (Int × Bool))) → Prop} {o} (h : Z194 x0 x1 v5 v30 s = some o) (hK : (orK rec13 (orK rec12 (orK rec2 Φ))) o) : Z70 x0 x1 v5 v30 rec12 Φ s rec13 := by
  obtain ⟨v32, v33⟩ := s
  unfold Z194 at h
  unfold Z70
  exact ifS h (fun h => adS h fun h => ifS h (fun h => adS h fun h => have t := lfS h hK; t) fun h => ifS h (fun h => blS h fun _ hv h => consistency_single_sound _ _ hv (mpS h fun _ hx he => consistency_Find_J7_sound _ _ _ hx (by subst he; exact hK))) fun h => adS h fun h => have t := lfS h hK; t) fun h => adS h fun h => have t := lfS h hK; t
def Z195 (x0 : api_History) (x1 : List (List Sec)) (v5 : List (consistency_content × Int)) : (Int × (List (Int × Bool))) → Option ((Int × (List (Int × Bool))) ⊕ ((Int × (List (consistency_content × Int))) ⊕ (List Int × Bool × Int)))
 | (v30, v31) =>
  if v30 < (x1.length : Int) then
   if inX v30 x1.length then
   loopS (Z194 x0 x1 v5 v30) 100000 (0, v31)
   else none
  else
   Option.map (fun z => .inr z) (Z193 x0 x1 (false, 0, 0, v31, ([] : List Sec)))
theorem consistency_Find_L12_sound (x0 : api_History) (x1 : List (List Sec)) (v5 : List (consistency_content × Int)) (s : Int × (List (Int × Bool))) {Φ : List Int × Bool × Int → Prop} {rec2 : (Int × (List (consistency_content × Int))) → Prop} {rec12 : (Int × (List (Int × Bool))) → Prop} {o} (h : Z195 x0 x1 v5 s = some o) (hK : (orK rec12 (orK rec2 Φ)) o) : Z71 x0 x1 v5 Φ s rec12 := by
  obtain ⟨v30, v31⟩ := s
  unfold Z195 at h
  unfold Z71
  exact ifS h (fun h => adS h fun h => LoopW.of_S (fun s q rec hs hq => consistency_Find_L13_sound _ _ _ _ s hs hq) _ _ h hK) fun h => mpS h fun _ hx he => consistency_Find_J7_sound _ _ _ hx (by subst he; exact hK)
def Z196 (x0 : api_History) (x1 : List (List Sec)) : (Int × (List (consistency_content × Int))) → Option ((Int × (List (consistency_content × Int))) ⊕ (List Int × Bool × Int))
 | (v4, v5) =>
  if v4 < (x0.Writes.length : Int) then
   if inX v4 x0.Writes.length then
   loopS (Z186 x0 v4) 100000 (0, v5)
   else none
  else
   if (0 : Int) ≠ 0 then
    some (.inr (([] : List Int), false, 0))
   else
    loopS (Z195 x0 x1 v5) 100000 (0, ([] : List (Int × Bool)))
theorem consistency_Find_L2_sound (x0 : api_History) (x1 : List (List Sec)) (s : Int × (List (consistency_content × Int))) {Φ : List Int × Bool × Int → Prop} {rec2 : (Int × (List (consistency_content × Int))) → Prop} {o} (h : Z196 x0 x1 s = some o) (hK : (orK rec2 Φ) o) : Z72 x0 x1 Φ s rec2 := by
  obtain ⟨v4, v5⟩ := s
  unfold Z196 at h
  unfold Z72
  exact ifS h (fun h => adS h fun h => LoopW.of_S (fun s q rec hs hq => consistency_Find_L4_sound _ _ s hs hq) _ _ h hK) fun h => ifS h (fun h => have t := lfS h hK; t) fun h => LoopW.of_S (fun s q rec hs hq => consistency_Find_L12_sound _ _ _ s hs hq) _ _ h hK
def Z197 (x0 : api_History) (x1 : List (List Sec)) : (Bool) → Option (List Int × Bool × Int)
 | v3 =>
  if v3 = true then
   if (22 : Int) ≠ 0 then
    some ((([] : List Int), false, 22))
   else
    none
  else
   loopS (Z196 x0 x1) 100000 (0, ([] : List (consistency_content × Int)))
theorem consistency_Find_J1_sound (x0 : api_History) (x1 : List (List Sec)) (s : Bool) {Φ : List Int × Bool × Int → Prop} {o} (h : Z197 x0 x1 s = some o) (hK : Φ o) : Z73 x0 x1 Φ s := by
  unfold Z197 at h
  unfold Z73
  exact ifS h (fun h => ifS h (fun h => have t := lfS h hK; t) fun h => (by cases h)) fun h => LoopW.of_S (fun s q rec hs hq => consistency_Find_L2_sound _ _ s hs hq) _ _ h hK
def Z198 (x0 : api_History) (x1 : List (List Sec)) : (Int) → Option ((Int) ⊕ (List Int × Bool × Int))
 | v35 =>
  if v35 < (x1.length : Int) then
   if inX v35 x1.length then
   if inX v35 x0.Sizes.length then
   Option.bind (Z176 (ix x1 v35) (ix x0.Sizes v35)) fun v36 =>
   if ¬ (v36 = true) then
    Option.map (fun z => .inr z) (Z197 x0 x1 true)
   else
    if inI (v35 + 1) then
    some (.inl (v35 + 1))
    else none
   else none
   else none
  else
   Option.map (fun z => .inr z) (Z197 x0 x1 false)
theorem consistency_Find_L14_sound (x0 : api_History) (x1 : List (List Sec)) (s : Int) {Φ : List Int × Bool × Int → Prop} {rec14 : (Int) → Prop} {o} (h : Z198 x0 x1 s = some o) (hK : (orK rec14 Φ) o) : Z74 x0 x1 Φ s rec14 := by
  unfold Z198 at h
  unfold Z74
  exact ifS h (fun h => adS h fun h => adS h fun h => blS h fun _ hv h => consistency_newJudge_1_sound _ _ hv (ifS h (fun h => mpS h fun _ hx he => consistency_Find_J1_sound _ _ _ hx (by subst he; exact hK)) fun h => adS h fun h => have t := lfS h hK; t)) fun h => mpS h fun _ hx he => consistency_Find_J1_sound _ _ _ hx (by subst he; exact hK)
def Z199 (x0 : api_History) (x1 : List (List Sec)) : Option (List Int × Bool × Int) :=
 Option.bind (Z139 x0) fun v1 =>
 if v1 ≠ 0 then
  if v1 ≠ 0 then
   some ((([] : List Int), false, v1))
  else
   none
 else
  Option.bind (image_Check_S x1) fun v2 =>
  if v2 ≠ 0 then
   if v2 ≠ 0 then
    some ((([] : List Int), false, v2))
   else
    none
  else
   if (x1.length : Int) ≠ (x0.Sizes.length : Int) then
    Z197 x0 x1 true
   else
    loopS (Z198 x0 x1) 100000 0
theorem consistency_Find_sound (x0 : api_History) (x1 : List (List Sec)) {Φ : List Int × Bool × Int → Prop} {o} (h : Z199 x0 x1 = some o) (hK : Φ o) : Z75 x0 x1 Φ := by
  unfold Z199 at h
  unfold Z75
  exact blS h fun _ hv h => history_Check_sound _ hv (ifS h (fun h => ifS h (fun h => have t := lfS h hK; t) fun h => (by cases h)) fun h => blS h fun _ hv h => image_Check_sound _ hv (ifS h (fun h => ifS h (fun h => have t := lfS h hK; t) fun h => (by cases h)) fun h => ifS h (fun h => consistency_Find_J1_sound _ _ _ h hK) fun h => LoopW.of_S (fun s q rec hs hq => consistency_Find_L14_sound _ _ s hs hq) _ _ h hK))
def Z200 (v4 : Int) : (Bool × (List (consistency_content × Int))) → Option ((Int × (List (consistency_content × Int))) ⊕ (List Int × Bool × Int))
 | (v6, v7) =>
  if ¬ (v6 = true) then
   if (1 : Int) ≠ 0 then
    some (.inr (([] : List Int), false, 1))
   else
    none
  else
   if inI (v4 + 1) then
   some (.inl ((v4 + 1), v7))
   else none
theorem consistency_Newest_J3_sound (v4 : Int) (s : Bool × (List (consistency_content × Int))) {Φ : List Int × Bool × Int → Prop} {rec2 : (Int × (List (consistency_content × Int))) → Prop} {o} (h : Z200 v4 s = some o) (hK : (orK rec2 Φ) o) : Z76 v4 rec2 Φ s := by
  obtain ⟨v6, v7⟩ := s
  unfold Z200 at h
  unfold Z76
  exact ifS h (fun h => ifS h (fun h => have t := lfS h hK; t) fun h => (by cases h)) fun h => adS h fun h => have t := lfS h hK; t
def Z201 (x0 : api_History) (v4 : Int) : (Int × (List (consistency_content × Int))) → Option ((Int × (List (consistency_content × Int))) ⊕ ((Int × (List (consistency_content × Int))) ⊕ (List Int × Bool × Int)))
 | (v8, v9) =>
  if v8 < (((ix x0.Writes v4).Data).length : Int) then
   if inX v8 ((ix x0.Writes v4).Data).length then
   if inI (((ix x0.Writes v4).Start) + v8) then
   if ¬ ((mhas v9 (consistency_content.mk (consistency_place.mk ((ix x0.Writes v4).Volume) (((ix x0.Writes v4).Start) + v8)) (ix ((ix x0.Writes v4).Data) v8))) = true) then
    if ¬ ((ix ((ix x0.Writes v4).Data) v8) ≠ sec0) then
     Option.map (fun z => .inr z) (Z200 v4 (false, (mput v9 (consistency_content.mk (consistency_place.mk ((ix x0.Writes v4).Volume) (((ix x0.Writes v4).Start) + v8)) (ix ((ix x0.Writes v4).Data) v8)) v4)))
    else
     if inI (v8 + 1) then
     some (.inl ((v8 + 1), (mput v9 (consistency_content.mk (consistency_place.mk ((ix x0.Writes v4).Volume) (((ix x0.Writes v4).Start) + v8)) (ix ((ix x0.Writes v4).Data) v8)) v4)))
     else none
   else
    Option.map (fun z => .inr z) (Z200 v4 (false, (mput v9 (consistency_content.mk (consistency_place.mk ((ix x0.Writes v4).Volume) (((ix x0.Writes v4).Start) + v8)) (ix ((ix x0.Writes v4).Data) v8)) v4)))
   else none
   else none
  else
   Option.map (fun z => .inr z) (Z200 v4 (true, v9))
theorem consistency_Newest_L4_sound (x0 : api_History) (v4 : Int) (s : Int × (List (consistency_content × Int))) {Φ : List Int × Bool × Int → Prop} {rec2 : (Int × (List (consistency_content × Int))) → Prop} {rec4 : (Int × (List (consistency_content × Int))) → Prop} {o} (h : Z201 x0 v4 s = some o) (hK : (orK rec4 (orK rec2 Φ)) o) : Z77 x0 v4 rec2 Φ s rec4 := by
  obtain ⟨v8, v9⟩ := s
  unfold Z201 at h
  unfold Z77
  exact ifS h (fun h => adS h fun h => adS h fun h => ifS h (fun h => ifS h (fun h => mpS h fun _ hx he => consistency_Newest_J3_sound _ _ hx (by subst he; exact hK)) fun h => adS h fun h => have t := lfS h hK; t) fun h => mpS h fun _ hx he => consistency_Newest_J3_sound _ _ hx (by subst he; exact hK)) fun h => mpS h fun _ hx he => consistency_Newest_J3_sound _ _ hx (by subst he; exact hK)
def Z202 (v13 : Int) (v14 : List Int) : (Bool) → Option ((Int × List Int) ⊕ ((Int × (List (consistency_content × Int))) ⊕ (List Int × Bool × Int)))
 | v15 =>
  if v15 = true then
   if lenOk (v14 ++ ([v13] : List Int)).length 8 then
   if inI (v13 + 1) then
   some (.inl ((v13 + 1), (v14 ++ ([v13] : List Int))))
   else none
   else none
  else
   if inI (v13 + 1) then
   some (.inl ((v13 + 1), v14))
   else none
theorem consistency_Newest_J8_sound (v13 : Int) (v14 : List Int) (s : Bool) {Φ : List Int × Bool × Int → Prop} {rec2 : (Int × (List (consistency_content × Int))) → Prop} {rec7 : (Int × List Int) → Prop} {o} (h : Z202 v13 v14 s = some o) (hK : (orK rec7 (orK rec2 Φ)) o) : Z78 v13 v14 rec7 Φ s := by
  unfold Z202 at h
  unfold Z78
  exact ifS h (fun h => adS h fun h => adS h fun h => have t := lfS h hK; t) fun h => adS h fun h => have t := lfS h hK; t
def Z203 (x0 : api_History) (x1 : List (List Sec)) (v5 : List (consistency_content × Int)) (v13 : Int) (v14 : List Int) : (Int) → Option ((Int) ⊕ ((Int × List Int) ⊕ ((Int × (List (consistency_content × Int))) ⊕ (List Int × Bool × Int))))
 | v16 =>
  if v16 < (((ix x0.Writes v13).Data).length : Int) then
   if inX v16 ((ix x0.Writes v13).Data).length then
   if inI (((ix x0.Writes v13).Start) + v16) then
   if inX ((ix x0.Writes v13).Volume) x1.length then
   if inX (((ix x0.Writes v13).Start) + v16) (ix x1 ((ix x0.Writes v13).Volume)).length then
   if (mhas v5 (consistency_content.mk (consistency_place.mk ((ix x0.Writes v13).Volume) (((ix x0.Writes v13).Start) + v16)) (ix (ix x1 ((ix x0.Writes v13).Volume)) (((ix x0.Writes v13).Start) + v16)))) = true then
    if ¬ (v13 ≤ (mget v5 (consistency_content.mk (consistency_place.mk ((ix x0.Writes v13).Volume) (((ix x0.Writes v13).Start) + v16)) (ix (ix x1 ((ix x0.Writes v13).Volume)) (((ix x0.Writes v13).Start) + v16))) 0)) then
     Option.map (fun z => .inr z) (Z202 v13 v14 false)
    else
     if inI (v16 + 1) then
     some (.inl (v16 + 1))
     else none
   else
    Option.map (fun z => .inr z) (Z202 v13 v14 false)
   else none
   else none
   else none
   else none
  else
   Option.map (fun z => .inr z) (Z202 v13 v14 true)
theorem consistency_Newest_L9_sound (x0 : api_History) (x1 : List (List Sec)) (v5 : List (consistency_content × Int)) (v13 : Int) (v14 : List Int) (s : Int) {Φ : List Int × Bool × Int → Prop} {rec2 : (Int × (List (consistency_content × Int))) → Prop} {rec7 : (Int × List Int) → Prop} {rec9 : (Int) → Prop} {o} (h : Z203 x0 x1 v5 v13 v14 s = some o) (hK : (orK rec9 (orK rec7 (orK rec2 Φ))) o) : Z79 x0 x1 v5 v13 v14 rec7 Φ s rec9 := by
  unfold Z203 at h
  unfold Z79
  exact ifS h (fun h => adS h fun h => adS h fun h => adS h fun h => adS h fun h => ifS h (fun h => ifS h (fun h => mpS h fun _ hx he => consistency_Newest_J8_sound _ _ _ hx (by subst he; exact hK)) fun h => adS h fun h => have t := lfS h hK; t) fun h => mpS h fun _ hx he => consistency_Newest_J8_sound _ _ _ hx (by subst he; exact hK)) fun h => mpS h fun _ hx he => consistency_Newest_J8_sound _ _ _ hx (by subst he; exact hK)
def Z204 (x0 : api_History) (x1 : List (List Sec)) (v5 : List (consistency_content × Int)) : (Int × List Int) → Option ((Int × List Int) ⊕ ((Int × (List (consistency_content × Int))) ⊕ (List Int × Bool × Int)))
 | (v13, v14) =>
  if v13 < (x0.Writes.length : Int) then
   if inX v13 x0.Writes.length then
   loopS (Z203 x0 x1 v5 v13 v14) 100000 0
   else none
  else
   Option.bind (Z164 x0 v14) fun v17 =>
   some (.inr (.inr (v17.1, decide (v17.2 = 0), v17.2)))
theorem consistency_Newest_L7_sound (x0 : api_History) (x1 : List (List Sec)) (v5 : List (consistency_content × Int)) (s : Int × List Int) {Φ : List Int × Bool × Int → Prop} {rec2 : (Int × (List (consistency_content × Int))) → Prop} {rec7 : (Int × List Int) → Prop} {o} (h : Z204 x0 x1 v5 s = some o) (hK : (orK rec7 (orK rec2 Φ)) o) : Z80 x0 x1 v5 Φ s rec7 := by
  obtain ⟨v13, v14⟩ := s
  unfold Z204 at h
  unfold Z80
  exact ifS h (fun h => adS h fun h => LoopW.of_S (fun s q rec hs hq => consistency_Newest_L9_sound _ _ _ _ _ s hs hq) _ _ h hK) fun h => blS h fun _ hv h => cut_Greatest_sound _ _ hv (have t := lfS h hK; t)
def Z205 (x0 : api_History) (x1 : List (List Sec)) (v5 : List (consistency_content × Int)) (v11 : Int) : (Bool) → Option ((Int × (List (consistency_content × Int))) ⊕ (List Int × Bool × Int))
 | v12 =>
  if v12 = true then
   some (.inr (([] : List Int), false, v11))
  else
   loopS (Z204 x0 x1 v5) 100000 (0, ([] : List Int))
theorem consistency_Newest_J6_sound (x0 : api_History) (x1 : List (List Sec)) (v5 : List (consistency_content × Int)) (v11 : Int) (s : Bool) {Φ : List Int × Bool × Int → Prop} {rec2 : (Int × (List (consistency_content × Int))) → Prop} {o} (h : Z205 x0 x1 v5 v11 s = some o) (hK : (orK rec2 Φ) o) : Z81 x0 x1 v5 v11 Φ s := by
  unfold Z205 at h
  unfold Z81
  exact ifS h (fun h => have t := lfS h hK; t) fun h => LoopW.of_S (fun s q rec hs hq => consistency_Newest_L7_sound _ _ _ s hs hq) _ _ h hK
def Z206 (x0 : api_History) (x1 : List (List Sec)) (v5 : List (consistency_content × Int)) : (Bool × Int) → Option ((Int × (List (consistency_content × Int))) ⊕ (List Int × Bool × Int))
 | (v10, v11) =>
  if v11 ≠ 0 then
   Z205 x0 x1 v5 v11 true
  else
   Z205 x0 x1 v5 v11 v10
theorem consistency_Newest_J5_sound (x0 : api_History) (x1 : List (List Sec)) (v5 : List (consistency_content × Int)) (s : Bool × Int) {Φ : List Int × Bool × Int → Prop} {rec2 : (Int × (List (consistency_content × Int))) → Prop} {o} (h : Z206 x0 x1 v5 s = some o) (hK : (orK rec2 Φ) o) : Z82 x0 x1 v5 Φ s := by
  obtain ⟨v10, v11⟩ := s
  unfold Z206 at h
  unfold Z82
  exact ifS h (fun h => consistency_Newest_J6_sound _ _ _ _ _ h hK) fun h => consistency_Newest_J6_sound _ _ _ _ _ h hK
def Z207 (x0 : api_History) (x1 : List (List Sec)) (v5 : List (consistency_content × Int)) : (Bool × Int × Int × List Sec) → Option ((Int × List Int) ⊕ ((Int × (List (consistency_content × Int))) ⊕ (List Int × Bool × Int)))
 | (v27, _, _, _) =>
  Option.map (fun z => .inr z) (Z206 x0 x1 v5 (v27, 0))
theorem consistency_Newest_J12_sound (x0 : api_History) (x1 : List (List Sec)) (v5 : List (consistency_content × Int)) (s : Bool × Int × Int × List Sec) {Φ : List Int × Bool × Int → Prop} {rec2 : (Int × (List (consistency_content × Int))) → Prop} {rec11 : (Int × List Int) → Prop} {o} (h : Z207 x0 x1 v5 s = some o) (hK : (orK rec11 (orK rec2 Φ)) o) : Z83 x0 x1 v5 Φ s := by
  obtain ⟨v27, v28, v29, v30⟩ := s
  unfold Z207 at h
  unfold Z83
  exact mpS h fun _ hx he => consistency_Newest_J5_sound _ _ _ _ hx (by subst he; exact hK)
def Z208 (x0 : api_History) (x1 : List (List Sec)) (v5 : List (consistency_content × Int)) (v18 : Bool) (v19 : Int) (v20 : Int) (v22 : List Sec) (v26 : List (List Sec) × Int) (v31 : Int) : (Int) → Option ((Int) ⊕ ((Int) ⊕ ((Int × List Int) ⊕ ((Int × (List (consistency_content × Int))) ⊕ (List Int × Bool × Int)))))
 | v32 =>
  if v32 < ((ix v26.1 v31).length : Int) then
   if inX v32 (ix v26.1 v31).length then
   if inX v31 x1.length then
   if inX v32 (ix x1 v31).length then
   if (ix (ix v26.1 v31) v32) ≠ (ix (ix x1 v31) v32) then
    Option.bind (Z177 (consistency_place.mk v31 v32) (ix (ix v26.1 v31) v32)) fun v33 =>
    Option.map (fun z => .inr (.inr z)) (Z207 x0 x1 v5 (true, v33.Volume, v33.Start, v33.Data))
   else
    if ¬ (¬ (v18 = true)) then
     Option.map (fun z => .inr (.inr z)) (Z207 x0 x1 v5 (v18, v19, v20, v22))
    else
     if inI (v32 + 1) then
     some (.inl (v32 + 1))
     else none
   else none
   else none
   else none
  else
   if inI (v31 + 1) then
   some (.inr (.inl (v31 + 1)))
   else none
theorem consistency_Newest_L14_sound (x0 : api_History) (x1 : List (List Sec)) (v5 : List (consistency_content × Int)) (v18 : Bool) (v19 : Int) (v20 : Int) (v22 : List Sec) (v26 : List (List Sec) × Int) (v31 : Int) (s : Int) {Φ : List Int × Bool × Int → Prop} {rec2 : (Int × (List (consistency_content × Int))) → Prop} {rec11 : (Int × List Int) → Prop} {rec13 : (Int) → Prop} {rec14 : (Int) → Prop} {o} (h : Z208 x0 x1 v5 v18 v19 v20 v22 v26 v31 s = some o) (hK : (orK rec14 (orK rec13 (orK rec11 (orK rec2 Φ)))) o) : Z84 x0 x1 v5 v18 v19 v20 v22 v26 v31 rec13 Φ s rec14 := by
  unfold Z208 at h
  unfold Z84
  exact ifS h (fun h => adS h fun h => adS h fun h => adS h fun h => ifS h (fun h => blS h fun _ hv h => consistency_single_sound _ _ hv (mpS h fun _ hx he => consistency_Newest_J12_sound _ _ _ _ hx (by subst he; exact hK))) fun h => ifS h (fun h => mpS h fun _ hx he => consistency_Newest_J12_sound _ _ _ _ hx (by subst he; exact hK)) fun h => adS h fun h => have t := lfS h hK; t) fun h => adS h fun h => have t := lfS h hK; t
def Z209 (x0 : api_History) (x1 : List (List Sec)) (v5 : List (consistency_content × Int)) (v18 : Bool) (v19 : Int) (v20 : Int) (v22 : List Sec) (v26 : List (List Sec) × Int) : (Int) → Option ((Int) ⊕ ((Int × List Int) ⊕ ((Int × (List (consistency_content × Int))) ⊕ (List Int × Bool × Int))))
 | v31 =>
  if v31 < (v26.1.length : Int) then
   if inX v31 v26.1.length then
   loopS (Z208 x0 x1 v5 v18 v19 v20 v22 v26 v31) 100000 0
   else none
  else
   Option.map (fun z => .inr z) (Z207 x0 x1 v5 (v18, v19, v20, v22))
theorem consistency_Newest_L13_sound (x0 : api_History) (x1 : List (List Sec)) (v5 : List (consistency_content × Int)) (v18 : Bool) (v19 : Int) (v20 : Int) (v22 : List Sec) (v26 : List (List Sec) × Int) (s : Int) {Φ : List Int × Bool × Int → Prop} {rec2 : (Int × (List (consistency_content × Int))) → Prop} {rec11 : (Int × List Int) → Prop} {rec13 : (Int) → Prop} {o} (h : Z209 x0 x1 v5 v18 v19 v20 v22 v26 s = some o) (hK : (orK rec13 (orK rec11 (orK rec2 Φ))) o) : Z85 x0 x1 v5 v18 v19 v20 v22 v26 Φ s rec13 := by
  unfold Z209 at h
  unfold Z85
  exact ifS h (fun h => adS h fun h => LoopW.of_S (fun s q rec hs hq => consistency_Newest_L14_sound _ _ _ _ _ _ _ _ _ s hs hq) _ _ h hK) fun h => mpS h fun _ hx he => consistency_Newest_J12_sound _ _ _ _ hx (by subst he; exact hK)
def Z210 (x0 : api_History) (x1 : List (List Sec)) (v5 : List (consistency_content × Int)) (v18 : Bool) (v19 : Int) (v20 : Int) (v21 : List (Int × Bool)) (v22 : List Sec) : (Int × List Int) → Option ((Int × List Int) ⊕ ((Int × (List (consistency_content × Int))) ⊕ (List Int × Bool × Int)))
 | (v23, v24) =>
  if v23 < (x0.Writes.length : Int) then
   if (mget v21 v23 false) = true then
    if lenOk (v24 ++ ([v23] : List Int)).length 8 then
    if inI (v23 + 1) then
    some (.inl ((v23 + 1), (v24 ++ ([v23] : List Int))))
    else none
    else none
   else
    if inI (v23 + 1) then
    some (.inl ((v23 + 1), v24))
    else none
  else
   Option.bind (cut_Least_S x0 v24) fun v25 =>
   if v25.2 ≠ 0 then
    Option.map (fun z => .inr z) (Z206 x0 x1 v5 (false, v25.2))
   else
    Option.bind (Z184 x0 v25.1) fun v26 =>
    if v26.2 ≠ 0 then
     Option.map (fun z => .inr z) (Z206 x0 x1 v5 (false, v26.2))
    else
     loopS (Z209 x0 x1 v5 v18 v19 v20 v22 v26) 100000 0
theorem consistency_Newest_L11_sound (x0 : api_History) (x1 : List (List Sec)) (v5 : List (consistency_content × Int)) (v18 : Bool) (v19 : Int) (v20 : Int) (v21 : List (Int × Bool)) (v22 : List Sec) (s : Int × List Int) {Φ : List Int × Bool × Int → Prop} {rec2 : (Int × (List (consistency_content × Int))) → Prop} {rec11 : (Int × List Int) → Prop} {o} (h : Z210 x0 x1 v5 v18 v19 v20 v21 v22 s = some o) (hK : (orK rec11 (orK rec2 Φ)) o) : Z86 x0 x1 v5 v18 v19 v20 v21 v22 Φ s rec11 := by
  obtain ⟨v23, v24⟩ := s
  unfold Z210 at h
  unfold Z86
  exact ifS h (fun h => ifS h (fun h => adS h fun h => adS h fun h => have t := lfS h hK; t) fun h => adS h fun h => have t := lfS h hK; t) fun h => blS h fun _ hv h => cut_Least_sound _ _ hv (ifS h (fun h => mpS h fun _ hx he => consistency_Newest_J5_sound _ _ _ _ hx (by subst he; exact hK)) fun h => blS h fun _ hv h => history_Image_sound _ _ hv (ifS h (fun h => mpS h fun _ hx he => consistency_Newest_J5_sound _ _ _ _ hx (by subst he; exact hK)) fun h => LoopW.of_S (fun s q rec hs hq => consistency_Newest_L13_sound _ _ _ _ _ _ _ _ s hs hq) _ _ h hK))
def Z211 (x0 : api_History) (x1 : List (List Sec)) (v5 : List (consistency_content × Int)) : (Bool × Int × Int × (List (Int × Bool)) × List Sec) → Option ((Int × (List (consistency_content × Int))) ⊕ (List Int × Bool × Int))
 | (v18, v19, v20, v21, v22) =>
  if v18 = true then
   Z206 x0 x1 v5 (true, 0)
  else
   loopS (Z210 x0 x1 v5 v18 v19 v20 v21 v22) 100000 (0, ([] : List Int))
theorem consistency_Newest_J10_sound (x0 : api_History) (x1 : List (List Sec)) (v5 : List (consistency_content × Int)) (s : Bool × Int × Int × (List (Int × Bool)) × List Sec) {Φ : List Int × Bool × Int → Prop} {rec2 : (Int × (List (consistency_content × Int))) → Prop} {o} (h : Z211 x0 x1 v5 s = some o) (hK : (orK rec2 Φ) o) : Z87 x0 x1 v5 Φ s := by
  obtain ⟨v18, v19, v20, v21, v22⟩ := s
  unfold Z211 at h
  unfold Z87
  exact ifS h (fun h => consistency_Newest_J5_sound _ _ _ _ h hK) fun h => LoopW.of_S (fun s q rec hs hq => consistency_Newest_L11_sound _ _ _ _ _ _ _ _ s hs hq) _ _ h hK
def Z212 (x0 : api_History) (x1 : List (List Sec)) (v5 : List (consistency_content × Int)) (v34 : Int) : (Int × (List (Int × Bool))) → Option ((Int × (List (Int × Bool))) ⊕ ((Int × (List (Int × Bool))) ⊕ ((Int × (List (consistency_content × Int))) ⊕ (List Int × Bool × Int))))
 | (v36, v37) =>
  if v36 < ((ix x1 v34).length : Int) then
   if inX v36 (ix x1 v34).length then
   if (ix (ix x1 v34) v36) = sec0 then
    if inI (v36 + 1) then
    some (.inl ((v36 + 1), v37))
    else none
   else
    if ¬ ((mhas v5 (consistency_content.mk (consistency_place.mk v34 v36) (ix (ix x1 v34) v36))) = true) then
     Option.bind (Z177 (consistency_place.mk v34 v36) (ix (ix x1 v34) v36)) fun v38 =>
     Option.map (fun z => .inr (.inr z)) (Z211 x0 x1 v5 (true, v38.Volume, v38.Start, v37, v38.Data))
    else
     if inI (v36 + 1) then
     some (.inl ((v36 + 1), (mput v37 (mget v5 (consistency_content.mk (consistency_place.mk v34 v36) (ix (ix x1 v34) v36)) 0) true)))
     else none
   else none
  else
   if inI (v34 + 1) then
   some (.inr (.inl ((v34 + 1), v37)))
   else none
theorem consistency_Newest_L16_sound (x0 : api_History) (x1 : List (List Sec)) (v5 : List (consistency_content × Int)) (v34 : Int) (s : Int × (List (Int × Bool))) {Φ : List Int × Bool × Int → Prop} {rec2 : (Int × (List (consistency_content × Int))) → Prop} {rec15 : (Int × (List (Int × Bool))) → Prop} {rec16 : (Int × (List (Int × Bool))) → Prop} {o} (h : Z212 x0 x1 v5 v34 s = some o) (hK : (orK rec16 (orK rec15 (orK rec2 Φ))) o) : Z88 x0 x1 v5 v34 rec15 Φ s rec16 := by
  obtain ⟨v36, v37⟩ := s
  unfold Z212 at h
  unfold Z88
  exact ifS h (fun h => adS h fun h => ifS h (fun h => adS h fun h => have t := lfS h hK; t) fun h => ifS h (fun h => blS h fun _ hv h => consistency_single_sound _ _ hv (mpS h fun _ hx he => consistency_Newest_J10_sound _ _ _ _ hx (by subst he; exact hK))) fun h => adS h fun h => have t := lfS h hK; t) fun h => adS h fun h => have t := lfS h hK; t
def Z213 (x0 : api_History) (x1 : List (List Sec)) (v5 : List (consistency_content × Int)) : (Int × (List (Int × Bool))) → Option ((Int × (List (Int × Bool))) ⊕ ((Int × (List (consistency_content × Int))) ⊕ (List Int × Bool × Int)))
 | (v34, v35) =>
  if v34 < (x1.length : Int) then
   if inX v34 x1.length then
   loopS (Z212 x0 x1 v5 v34) 100000 (0, v35)
   else none
  else
   Option.map (fun z => .inr z) (Z211 x0 x1 v5 (false, 0, 0, v35, ([] : List Sec)))
theorem consistency_Newest_L15_sound (x0 : api_History) (x1 : List (List Sec)) (v5 : List (consistency_content × Int)) (s : Int × (List (Int × Bool))) {Φ : List Int × Bool × Int → Prop} {rec2 : (Int × (List (consistency_content × Int))) → Prop} {rec15 : (Int × (List (Int × Bool))) → Prop} {o} (h : Z213 x0 x1 v5 s = some o) (hK : (orK rec15 (orK rec2 Φ)) o) : Z89 x0 x1 v5 Φ s rec15 := by
  obtain ⟨v34, v35⟩ := s
  unfold Z213 at h
  unfold Z89
  exact ifS h (fun h => adS h fun h => LoopW.of_S (fun s q rec hs hq => consistency_Newest_L16_sound _ _ _ _ s hs hq) _ _ h hK) fun h => mpS h fun _ hx he => consistency_Newest_J10_sound _ _ _ _ hx (by subst he; exact hK)
def Z214 (x0 : api_History) (x1 : List (List Sec)) : (Int × (List (consistency_content × Int))) → Option ((Int × (List (consistency_content × Int))) ⊕ (List Int × Bool × Int))
 | (v4, v5) =>
  if v4 < (x0.Writes.length : Int) then
   if inX v4 x0.Writes.length then
   loopS (Z201 x0 v4) 100000 (0, v5)
   else none
  else
   if (0 : Int) ≠ 0 then
    some (.inr (([] : List Int), false, 0))
   else
    loopS (Z213 x0 x1 v5) 100000 (0, ([] : List (Int × Bool)))
theorem consistency_Newest_L2_sound (x0 : api_History) (x1 : List (List Sec)) (s : Int × (List (consistency_content × Int))) {Φ : List Int × Bool × Int → Prop} {rec2 : (Int × (List (consistency_content × Int))) → Prop} {o} (h : Z214 x0 x1 s = some o) (hK : (orK rec2 Φ) o) : Z90 x0 x1 Φ s rec2 := by
  obtain ⟨v4, v5⟩ := s
  unfold Z214 at h
  unfold Z90
  exact ifS h (fun h => adS h fun h => LoopW.of_S (fun s q rec hs hq => consistency_Newest_L4_sound _ _ s hs hq) _ _ h hK) fun h => ifS h (fun h => have t := lfS h hK; t) fun h => LoopW.of_S (fun s q rec hs hq => consistency_Newest_L15_sound _ _ _ s hs hq) _ _ h hK
def Z215 (x0 : api_History) (x1 : List (List Sec)) : (Bool) → Option (List Int × Bool × Int)
 | v3 =>
  if v3 = true then
   if (22 : Int) ≠ 0 then
    some ((([] : List Int), false, 22))
   else
    none
  else
   loopS (Z214 x0 x1) 100000 (0, ([] : List (consistency_content × Int)))
theorem consistency_Newest_J1_sound (x0 : api_History) (x1 : List (List Sec)) (s : Bool) {Φ : List Int × Bool × Int → Prop} {o} (h : Z215 x0 x1 s = some o) (hK : Φ o) : Z91 x0 x1 Φ s := by
  unfold Z215 at h
  unfold Z91
  exact ifS h (fun h => ifS h (fun h => have t := lfS h hK; t) fun h => (by cases h)) fun h => LoopW.of_S (fun s q rec hs hq => consistency_Newest_L2_sound _ _ s hs hq) _ _ h hK
def Z216 (x0 : api_History) (x1 : List (List Sec)) : (Int) → Option ((Int) ⊕ (List Int × Bool × Int))
 | v39 =>
  if v39 < (x1.length : Int) then
   if inX v39 x1.length then
   if inX v39 x0.Sizes.length then
   Option.bind (Z176 (ix x1 v39) (ix x0.Sizes v39)) fun v40 =>
   if ¬ (v40 = true) then
    Option.map (fun z => .inr z) (Z215 x0 x1 true)
   else
    if inI (v39 + 1) then
    some (.inl (v39 + 1))
    else none
   else none
   else none
  else
   Option.map (fun z => .inr z) (Z215 x0 x1 false)
theorem consistency_Newest_L17_sound (x0 : api_History) (x1 : List (List Sec)) (s : Int) {Φ : List Int × Bool × Int → Prop} {rec17 : (Int) → Prop} {o} (h : Z216 x0 x1 s = some o) (hK : (orK rec17 Φ) o) : Z92 x0 x1 Φ s rec17 := by
  unfold Z216 at h
  unfold Z92
  exact ifS h (fun h => adS h fun h => adS h fun h => blS h fun _ hv h => consistency_newJudge_1_sound _ _ hv (ifS h (fun h => mpS h fun _ hx he => consistency_Newest_J1_sound _ _ _ hx (by subst he; exact hK)) fun h => adS h fun h => have t := lfS h hK; t)) fun h => mpS h fun _ hx he => consistency_Newest_J1_sound _ _ _ hx (by subst he; exact hK)
def Z217 (x0 : api_History) (x1 : List (List Sec)) : Option (List Int × Bool × Int) :=
 Option.bind (Z139 x0) fun v1 =>
 if v1 ≠ 0 then
  if v1 ≠ 0 then
   some ((([] : List Int), false, v1))
  else
   none
 else
  Option.bind (image_Check_S x1) fun v2 =>
  if v2 ≠ 0 then
   if v2 ≠ 0 then
    some ((([] : List Int), false, v2))
   else
    none
  else
   if (x1.length : Int) ≠ (x0.Sizes.length : Int) then
    Z215 x0 x1 true
   else
    loopS (Z216 x0 x1) 100000 0
theorem consistency_Newest_sound (x0 : api_History) (x1 : List (List Sec)) {Φ : List Int × Bool × Int → Prop} {o} (h : Z217 x0 x1 = some o) (hK : Φ o) : Z93 x0 x1 Φ := by
  unfold Z217 at h
  unfold Z93
  exact blS h fun _ hv h => history_Check_sound _ hv (ifS h (fun h => ifS h (fun h => have t := lfS h hK; t) fun h => (by cases h)) fun h => blS h fun _ hv h => image_Check_sound _ hv (ifS h (fun h => ifS h (fun h => have t := lfS h hK; t) fun h => (by cases h)) fun h => ifS h (fun h => consistency_Newest_J1_sound _ _ _ h hK) fun h => LoopW.of_S (fun s q rec hs hq => consistency_Newest_L17_sound _ _ s hs hq) _ _ h hK))
def Z218 (v4 : Int) : (Bool × (List (consistency_content × Int))) → Option ((Int × (List (consistency_content × Int))) ⊕ (api_Write × Bool × Int))
 | (v6, v7) =>
  if ¬ (v6 = true) then
   if (1 : Int) ≠ 0 then
    some (.inr ((api_Write.mk 0 0 ([] : List Sec)), false, 1))
   else
    none
  else
   if inI (v4 + 1) then
   some (.inl ((v4 + 1), v7))
   else none
theorem consistency_Conflict_J3_sound (v4 : Int) (s : Bool × (List (consistency_content × Int))) {Φ : api_Write × Bool × Int → Prop} {rec2 : (Int × (List (consistency_content × Int))) → Prop} {o} (h : Z218 v4 s = some o) (hK : (orK rec2 Φ) o) : Z94 v4 rec2 Φ s := by
  obtain ⟨v6, v7⟩ := s
  unfold Z218 at h
  unfold Z94
  exact ifS h (fun h => ifS h (fun h => have t := lfS h hK; t) fun h => (by cases h)) fun h => adS h fun h => have t := lfS h hK; t
def Z219 (x0 : api_History) (v4 : Int) : (Int × (List (consistency_content × Int))) → Option ((Int × (List (consistency_content × Int))) ⊕ ((Int × (List (consistency_content × Int))) ⊕ (api_Write × Bool × Int)))
 | (v8, v9) =>
  if v8 < (((ix x0.Writes v4).Data).length : Int) then
   if inX v8 ((ix x0.Writes v4).Data).length then
   if inI (((ix x0.Writes v4).Start) + v8) then
   if ¬ ((mhas v9 (consistency_content.mk (consistency_place.mk ((ix x0.Writes v4).Volume) (((ix x0.Writes v4).Start) + v8)) (ix ((ix x0.Writes v4).Data) v8))) = true) then
    if ¬ ((ix ((ix x0.Writes v4).Data) v8) ≠ sec0) then
     Option.map (fun z => .inr z) (Z218 v4 (false, (mput v9 (consistency_content.mk (consistency_place.mk ((ix x0.Writes v4).Volume) (((ix x0.Writes v4).Start) + v8)) (ix ((ix x0.Writes v4).Data) v8)) v4)))
    else
     if inI (v8 + 1) then
     some (.inl ((v8 + 1), (mput v9 (consistency_content.mk (consistency_place.mk ((ix x0.Writes v4).Volume) (((ix x0.Writes v4).Start) + v8)) (ix ((ix x0.Writes v4).Data) v8)) v4)))
     else none
   else
    Option.map (fun z => .inr z) (Z218 v4 (false, (mput v9 (consistency_content.mk (consistency_place.mk ((ix x0.Writes v4).Volume) (((ix x0.Writes v4).Start) + v8)) (ix ((ix x0.Writes v4).Data) v8)) v4)))
   else none
   else none
  else
   Option.map (fun z => .inr z) (Z218 v4 (true, v9))
theorem consistency_Conflict_L4_sound (x0 : api_History) (v4 : Int) (s : Int × (List (consistency_content × Int))) {Φ : api_Write × Bool × Int → Prop} {rec2 : (Int × (List (consistency_content × Int))) → Prop} {rec4 : (Int × (List (consistency_content × Int))) → Prop} {o} (h : Z219 x0 v4 s = some o) (hK : (orK rec4 (orK rec2 Φ)) o) : Z95 x0 v4 rec2 Φ s rec4 := by
  obtain ⟨v8, v9⟩ := s
  unfold Z219 at h
  unfold Z95
  exact ifS h (fun h => adS h fun h => adS h fun h => ifS h (fun h => ifS h (fun h => mpS h fun _ hx he => consistency_Conflict_J3_sound _ _ hx (by subst he; exact hK)) fun h => adS h fun h => have t := lfS h hK; t) fun h => mpS h fun _ hx he => consistency_Conflict_J3_sound _ _ hx (by subst he; exact hK)) fun h => mpS h fun _ hx he => consistency_Conflict_J3_sound _ _ hx (by subst he; exact hK)
def Z220 : (Bool × Int × Int × List Sec) → Option ((Int × List Int) ⊕ ((Int × (List (consistency_content × Int))) ⊕ (api_Write × Bool × Int)))
 | (v19, v20, v21, v22) =>
  some (.inr (.inr ((api_Write.mk v20 v21 v22), v19, 0)))
theorem consistency_Conflict_J7_sound (s : Bool × Int × Int × List Sec) {Φ : api_Write × Bool × Int → Prop} {rec2 : (Int × (List (consistency_content × Int))) → Prop} {rec6 : (Int × List Int) → Prop} {o} (h : Z220 s = some o) (hK : (orK rec6 (orK rec2 Φ)) o) : Z96 Φ s := by
  obtain ⟨v19, v20, v21, v22⟩ := s
  unfold Z220 at h
  unfold Z96
  exact have t := lfS h hK; t
def Z221 (x1 : List (List Sec)) (v10 : Bool) (v11 : Int) (v12 : Int) (v14 : List Sec) (v18 : List (List Sec) × Int) (v23 : Int) : (Int) → Option ((Int) ⊕ ((Int) ⊕ ((Int × List Int) ⊕ ((Int × (List (consistency_content × Int))) ⊕ (api_Write × Bool × Int)))))
 | v24 =>
  if v24 < ((ix v18.1 v23).length : Int) then
   if inX v24 (ix v18.1 v23).length then
   if inX v23 x1.length then
   if inX v24 (ix x1 v23).length then
   if (ix (ix v18.1 v23) v24) ≠ (ix (ix x1 v23) v24) then
    Option.bind (Z177 (consistency_place.mk v23 v24) (ix (ix v18.1 v23) v24)) fun v25 =>
    Option.map (fun z => .inr (.inr z)) (Z220 (true, v25.Volume, v25.Start, v25.Data))
   else
    if ¬ (¬ (v10 = true)) then
     Option.map (fun z => .inr (.inr z)) (Z220 (v10, v11, v12, v14))
    else
     if inI (v24 + 1) then
     some (.inl (v24 + 1))
     else none
   else none
   else none
   else none
  else
   if inI (v23 + 1) then
   some (.inr (.inl (v23 + 1)))
   else none
theorem consistency_Conflict_L9_sound (x1 : List (List Sec)) (v10 : Bool) (v11 : Int) (v12 : Int) (v14 : List Sec) (v18 : List (List Sec) × Int) (v23 : Int) (s : Int) {Φ : api_Write × Bool × Int → Prop} {rec2 : (Int × (List (consistency_content × Int))) → Prop} {rec6 : (Int × List Int) → Prop} {rec8 : (Int) → Prop} {rec9 : (Int) → Prop} {o} (h : Z221 x1 v10 v11 v12 v14 v18 v23 s = some o) (hK : (orK rec9 (orK rec8 (orK rec6 (orK rec2 Φ)))) o) : Z97 x1 v10 v11 v12 v14 v18 v23 rec8 Φ s rec9 := by
  unfold Z221 at h
  unfold Z97
  exact ifS h (fun h => adS h fun h => adS h fun h => adS h fun h => ifS h (fun h => blS h fun _ hv h => consistency_single_sound _ _ hv (mpS h fun _ hx he => consistency_Conflict_J7_sound _ hx (by subst he; exact hK))) fun h => ifS h (fun h => mpS h fun _ hx he => consistency_Conflict_J7_sound _ hx (by subst he; exact hK)) fun h => adS h fun h => have t := lfS h hK; t) fun h => adS h fun h => have t := lfS h hK; t
def Z222 (x1 : List (List Sec)) (v10 : Bool) (v11 : Int) (v12 : Int) (v14 : List Sec) (v18 : List (List Sec) × Int) : (Int) → Option ((Int) ⊕ ((Int × List Int) ⊕ ((Int × (List (consistency_content × Int))) ⊕ (api_Write × Bool × Int))))
 | v23 =>
  if v23 < (v18.1.length : Int) then
   if inX v23 v18.1.length then
   loopS (Z221 x1 v10 v11 v12 v14 v18 v23) 100000 0
   else none
  else
   Option.map (fun z => .inr z) (Z220 (v10, v11, v12, v14))
theorem consistency_Conflict_L8_sound (x1 : List (List Sec)) (v10 : Bool) (v11 : Int) (v12 : Int) (v14 : List Sec) (v18 : List (List Sec) × Int) (s : Int) {Φ : api_Write × Bool × Int → Prop} {rec2 : (Int × (List (consistency_content × Int))) → Prop} {rec6 : (Int × List Int) → Prop} {rec8 : (Int) → Prop} {o} (h : Z222 x1 v10 v11 v12 v14 v18 s = some o) (hK : (orK rec8 (orK rec6 (orK rec2 Φ))) o) : Z98 x1 v10 v11 v12 v14 v18 Φ s rec8 := by
  unfold Z222 at h
  unfold Z98
  exact ifS h (fun h => adS h fun h => LoopW.of_S (fun s q rec hs hq => consistency_Conflict_L9_sound _ _ _ _ _ _ _ s hs hq) _ _ h hK) fun h => mpS h fun _ hx he => consistency_Conflict_J7_sound _ hx (by subst he; exact hK)
def Z223 (x0 : api_History) (x1 : List (List Sec)) (v10 : Bool) (v11 : Int) (v12 : Int) (v13 : List (Int × Bool)) (v14 : List Sec) : (Int × List Int) → Option ((Int × List Int) ⊕ ((Int × (List (consistency_content × Int))) ⊕ (api_Write × Bool × Int)))
 | (v15, v16) =>
  if v15 < (x0.Writes.length : Int) then
   if (mget v13 v15 false) = true then
    if lenOk (v16 ++ ([v15] : List Int)).length 8 then
    if inI (v15 + 1) then
    some (.inl ((v15 + 1), (v16 ++ ([v15] : List Int))))
    else none
    else none
   else
    if inI (v15 + 1) then
    some (.inl ((v15 + 1), v16))
    else none
  else
   Option.bind (cut_Least_S x0 v16) fun v17 =>
   if v17.2 ≠ 0 then
    some (.inr (.inr ((api_Write.mk 0 0 ([] : List Sec)), false, v17.2)))
   else
    Option.bind (Z184 x0 v17.1) fun v18 =>
    if v18.2 ≠ 0 then
     some (.inr (.inr ((api_Write.mk 0 0 ([] : List Sec)), false, v18.2)))
    else
     loopS (Z222 x1 v10 v11 v12 v14 v18) 100000 0
theorem consistency_Conflict_L6_sound (x0 : api_History) (x1 : List (List Sec)) (v10 : Bool) (v11 : Int) (v12 : Int) (v13 : List (Int × Bool)) (v14 : List Sec) (s : Int × List Int) {Φ : api_Write × Bool × Int → Prop} {rec2 : (Int × (List (consistency_content × Int))) → Prop} {rec6 : (Int × List Int) → Prop} {o} (h : Z223 x0 x1 v10 v11 v12 v13 v14 s = some o) (hK : (orK rec6 (orK rec2 Φ)) o) : Z99 x0 x1 v10 v11 v12 v13 v14 Φ s rec6 := by
  obtain ⟨v15, v16⟩ := s
  unfold Z223 at h
  unfold Z99
  exact ifS h (fun h => ifS h (fun h => adS h fun h => adS h fun h => have t := lfS h hK; t) fun h => adS h fun h => have t := lfS h hK; t) fun h => blS h fun _ hv h => cut_Least_sound _ _ hv (ifS h (fun h => have t := lfS h hK; t) fun h => blS h fun _ hv h => history_Image_sound _ _ hv (ifS h (fun h => have t := lfS h hK; t) fun h => LoopW.of_S (fun s q rec hs hq => consistency_Conflict_L8_sound _ _ _ _ _ _ s hs hq) _ _ h hK))
def Z224 (x0 : api_History) (x1 : List (List Sec)) : (Bool × Int × Int × (List (Int × Bool)) × List Sec) → Option ((Int × (List (consistency_content × Int))) ⊕ (api_Write × Bool × Int))
 | (v10, v11, v12, v13, v14) =>
  if v10 = true then
   some (.inr ((api_Write.mk v11 v12 v14), true, 0))
  else
   loopS (Z223 x0 x1 v10 v11 v12 v13 v14) 100000 (0, ([] : List Int))
theorem consistency_Conflict_J5_sound (x0 : api_History) (x1 : List (List Sec)) (s : Bool × Int × Int × (List (Int × Bool)) × List Sec) {Φ : api_Write × Bool × Int → Prop} {rec2 : (Int × (List (consistency_content × Int))) → Prop} {o} (h : Z224 x0 x1 s = some o) (hK : (orK rec2 Φ) o) : Z100 x0 x1 Φ s := by
  obtain ⟨v10, v11, v12, v13, v14⟩ := s
  unfold Z224 at h
  unfold Z100
  exact ifS h (fun h => have t := lfS h hK; t) fun h => LoopW.of_S (fun s q rec hs hq => consistency_Conflict_L6_sound _ _ _ _ _ _ _ s hs hq) _ _ h hK
def Z225 (x0 : api_History) (x1 : List (List Sec)) (v5 : List (consistency_content × Int)) (v26 : Int) : (Int × (List (Int × Bool))) → Option ((Int × (List (Int × Bool))) ⊕ ((Int × (List (Int × Bool))) ⊕ ((Int × (List (consistency_content × Int))) ⊕ (api_Write × Bool × Int))))
 | (v28, v29) =>
  if v28 < ((ix x1 v26).length : Int) then
   if inX v28 (ix x1 v26).length then
   if (ix (ix x1 v26) v28) = sec0 then
    if inI (v28 + 1) then
    some (.inl ((v28 + 1), v29))
    else none
   else
    if ¬ ((mhas v5 (consistency_content.mk (consistency_place.mk v26 v28) (ix (ix x1 v26) v28))) = true) then
     Option.bind (Z177 (consistency_place.mk v26 v28) (ix (ix x1 v26) v28)) fun v30 =>
     Option.map (fun z => .inr (.inr z)) (Z224 x0 x1 (true, v30.Volume, v30.Start, v29, v30.Data))
    else
     if inI (v28 + 1) then
     some (.inl ((v28 + 1), (mput v29 (mget v5 (consistency_content.mk (consistency_place.mk v26 v28) (ix (ix x1 v26) v28)) 0) true)))
     else none
   else none
  else
   if inI (v26 + 1) then
   some (.inr (.inl ((v26 + 1), v29)))
   else none
theorem consistency_Conflict_L11_sound (x0 : api_History) (x1 : List (List Sec)) (v5 : List (consistency_content × Int)) (v26 : Int) (s : Int × (List (Int × Bool))) {Φ : api_Write × Bool × Int → Prop} {rec2 : (Int × (List (consistency_content × Int))) → Prop} {rec10 : (Int × (List (Int × Bool))) → Prop} {rec11 : (Int × (List (Int × Bool))) → Prop} {o} (h : Z225 x0 x1 v5 v26 s = some o) (hK : (orK rec11 (orK rec10 (orK rec2 Φ))) o) : Z101 x0 x1 v5 v26 rec10 Φ s rec11 := by
  obtain ⟨v28, v29⟩ := s
  unfold Z225 at h
  unfold Z101
  exact ifS h (fun h => adS h fun h => ifS h (fun h => adS h fun h => have t := lfS h hK; t) fun h => ifS h (fun h => blS h fun _ hv h => consistency_single_sound _ _ hv (mpS h fun _ hx he => consistency_Conflict_J5_sound _ _ _ hx (by subst he; exact hK))) fun h => adS h fun h => have t := lfS h hK; t) fun h => adS h fun h => have t := lfS h hK; t
def Z226 (x0 : api_History) (x1 : List (List Sec)) (v5 : List (consistency_content × Int)) : (Int × (List (Int × Bool))) → Option ((Int × (List (Int × Bool))) ⊕ ((Int × (List (consistency_content × Int))) ⊕ (api_Write × Bool × Int)))
 | (v26, v27) =>
  if v26 < (x1.length : Int) then
   if inX v26 x1.length then
   loopS (Z225 x0 x1 v5 v26) 100000 (0, v27)
   else none
  else
   Option.map (fun z => .inr z) (Z224 x0 x1 (false, 0, 0, v27, ([] : List Sec)))
theorem consistency_Conflict_L10_sound (x0 : api_History) (x1 : List (List Sec)) (v5 : List (consistency_content × Int)) (s : Int × (List (Int × Bool))) {Φ : api_Write × Bool × Int → Prop} {rec2 : (Int × (List (consistency_content × Int))) → Prop} {rec10 : (Int × (List (Int × Bool))) → Prop} {o} (h : Z226 x0 x1 v5 s = some o) (hK : (orK rec10 (orK rec2 Φ)) o) : Z102 x0 x1 v5 Φ s rec10 := by
  obtain ⟨v26, v27⟩ := s
  unfold Z226 at h
  unfold Z102
  exact ifS h (fun h => adS h fun h => LoopW.of_S (fun s q rec hs hq => consistency_Conflict_L11_sound _ _ _ _ s hs hq) _ _ h hK) fun h => mpS h fun _ hx he => consistency_Conflict_J5_sound _ _ _ hx (by subst he; exact hK)
def Z227 (x0 : api_History) (x1 : List (List Sec)) : (Int × (List (consistency_content × Int))) → Option ((Int × (List (consistency_content × Int))) ⊕ (api_Write × Bool × Int))
 | (v4, v5) =>
  if v4 < (x0.Writes.length : Int) then
   if inX v4 x0.Writes.length then
   loopS (Z219 x0 v4) 100000 (0, v5)
   else none
  else
   if (0 : Int) ≠ 0 then
    some (.inr ((api_Write.mk 0 0 ([] : List Sec)), false, 0))
   else
    loopS (Z226 x0 x1 v5) 100000 (0, ([] : List (Int × Bool)))
theorem consistency_Conflict_L2_sound (x0 : api_History) (x1 : List (List Sec)) (s : Int × (List (consistency_content × Int))) {Φ : api_Write × Bool × Int → Prop} {rec2 : (Int × (List (consistency_content × Int))) → Prop} {o} (h : Z227 x0 x1 s = some o) (hK : (orK rec2 Φ) o) : Z103 x0 x1 Φ s rec2 := by
  obtain ⟨v4, v5⟩ := s
  unfold Z227 at h
  unfold Z103
  exact ifS h (fun h => adS h fun h => LoopW.of_S (fun s q rec hs hq => consistency_Conflict_L4_sound _ _ s hs hq) _ _ h hK) fun h => ifS h (fun h => have t := lfS h hK; t) fun h => LoopW.of_S (fun s q rec hs hq => consistency_Conflict_L10_sound _ _ _ s hs hq) _ _ h hK
def Z228 (x0 : api_History) (x1 : List (List Sec)) : (Bool) → Option (api_Write × Bool × Int)
 | v3 =>
  if v3 = true then
   if (22 : Int) ≠ 0 then
    some (((api_Write.mk 0 0 ([] : List Sec)), false, 22))
   else
    none
  else
   loopS (Z227 x0 x1) 100000 (0, ([] : List (consistency_content × Int)))
theorem consistency_Conflict_J1_sound (x0 : api_History) (x1 : List (List Sec)) (s : Bool) {Φ : api_Write × Bool × Int → Prop} {o} (h : Z228 x0 x1 s = some o) (hK : Φ o) : Z104 x0 x1 Φ s := by
  unfold Z228 at h
  unfold Z104
  exact ifS h (fun h => ifS h (fun h => have t := lfS h hK; t) fun h => (by cases h)) fun h => LoopW.of_S (fun s q rec hs hq => consistency_Conflict_L2_sound _ _ s hs hq) _ _ h hK
def Z229 (x0 : api_History) (x1 : List (List Sec)) : (Int) → Option ((Int) ⊕ (api_Write × Bool × Int))
 | v31 =>
  if v31 < (x1.length : Int) then
   if inX v31 x1.length then
   if inX v31 x0.Sizes.length then
   Option.bind (Z176 (ix x1 v31) (ix x0.Sizes v31)) fun v32 =>
   if ¬ (v32 = true) then
    Option.map (fun z => .inr z) (Z228 x0 x1 true)
   else
    if inI (v31 + 1) then
    some (.inl (v31 + 1))
    else none
   else none
   else none
  else
   Option.map (fun z => .inr z) (Z228 x0 x1 false)
theorem consistency_Conflict_L12_sound (x0 : api_History) (x1 : List (List Sec)) (s : Int) {Φ : api_Write × Bool × Int → Prop} {rec12 : (Int) → Prop} {o} (h : Z229 x0 x1 s = some o) (hK : (orK rec12 Φ) o) : Z105 x0 x1 Φ s rec12 := by
  unfold Z229 at h
  unfold Z105
  exact ifS h (fun h => adS h fun h => adS h fun h => blS h fun _ hv h => consistency_newJudge_1_sound _ _ hv (ifS h (fun h => mpS h fun _ hx he => consistency_Conflict_J1_sound _ _ _ hx (by subst he; exact hK)) fun h => adS h fun h => have t := lfS h hK; t)) fun h => mpS h fun _ hx he => consistency_Conflict_J1_sound _ _ _ hx (by subst he; exact hK)
def Z230 (x0 : api_History) (x1 : List (List Sec)) : Option (api_Write × Bool × Int) :=
 Option.bind (Z139 x0) fun v1 =>
 if v1 ≠ 0 then
  if v1 ≠ 0 then
   some (((api_Write.mk 0 0 ([] : List Sec)), false, v1))
  else
   none
 else
  Option.bind (image_Check_S x1) fun v2 =>
  if v2 ≠ 0 then
   if v2 ≠ 0 then
    some (((api_Write.mk 0 0 ([] : List Sec)), false, v2))
   else
    none
  else
   if (x1.length : Int) ≠ (x0.Sizes.length : Int) then
    Z228 x0 x1 true
   else
    loopS (Z229 x0 x1) 100000 0
theorem consistency_Conflict_sound (x0 : api_History) (x1 : List (List Sec)) {Φ : api_Write × Bool × Int → Prop} {o} (h : Z230 x0 x1 = some o) (hK : Φ o) : Z106 x0 x1 Φ := by
  unfold Z230 at h
  unfold Z106
  exact blS h fun _ hv h => history_Check_sound _ hv (ifS h (fun h => ifS h (fun h => have t := lfS h hK; t) fun h => (by cases h)) fun h => blS h fun _ hv h => image_Check_sound _ hv (ifS h (fun h => ifS h (fun h => have t := lfS h hK; t) fun h => (by cases h)) fun h => ifS h (fun h => consistency_Conflict_J1_sound _ _ _ h hK) fun h => LoopW.of_S (fun s q rec hs hq => consistency_Conflict_L12_sound _ _ s hs hq) _ _ h hK))
def Z231 (v2 : Int) : (Bool × (List (consistency_content × Int))) → Option ((Int × (List (consistency_content × Int))) ⊕ (Bool))
 | (v4, v5) =>
  if ¬ (v4 = true) then
   some (.inr false)
  else
   if inI (v2 + 1) then
   some (.inl ((v2 + 1), v5))
   else none
theorem consistency_Distinct_J2_sound (v2 : Int) (s : Bool × (List (consistency_content × Int))) {Φ : Bool → Prop} {rec1 : (Int × (List (consistency_content × Int))) → Prop} {o} (h : Z231 v2 s = some o) (hK : (orK rec1 Φ) o) : Z107 v2 rec1 Φ s := by
  obtain ⟨v4, v5⟩ := s
  unfold Z231 at h
  unfold Z107
  exact ifS h (fun h => have t := lfS h hK; t) fun h => adS h fun h => have t := lfS h hK; t
def Z232 (x0 : api_History) (v2 : Int) : (Int × (List (consistency_content × Int))) → Option ((Int × (List (consistency_content × Int))) ⊕ ((Int × (List (consistency_content × Int))) ⊕ (Bool)))
 | (v6, v7) =>
  if v6 < (((ix x0.Writes v2).Data).length : Int) then
   if inX v6 ((ix x0.Writes v2).Data).length then
   if inI (((ix x0.Writes v2).Start) + v6) then
   if ¬ ((mhas v7 (consistency_content.mk (consistency_place.mk ((ix x0.Writes v2).Volume) (((ix x0.Writes v2).Start) + v6)) (ix ((ix x0.Writes v2).Data) v6))) = true) then
    if ¬ ((ix ((ix x0.Writes v2).Data) v6) ≠ sec0) then
     Option.map (fun z => .inr z) (Z231 v2 (false, (mput v7 (consistency_content.mk (consistency_place.mk ((ix x0.Writes v2).Volume) (((ix x0.Writes v2).Start) + v6)) (ix ((ix x0.Writes v2).Data) v6)) v2)))
    else
     if inI (v6 + 1) then
     some (.inl ((v6 + 1), (mput v7 (consistency_content.mk (consistency_place.mk ((ix x0.Writes v2).Volume) (((ix x0.Writes v2).Start) + v6)) (ix ((ix x0.Writes v2).Data) v6)) v2)))
     else none
   else
    Option.map (fun z => .inr z) (Z231 v2 (false, (mput v7 (consistency_content.mk (consistency_place.mk ((ix x0.Writes v2).Volume) (((ix x0.Writes v2).Start) + v6)) (ix ((ix x0.Writes v2).Data) v6)) v2)))
   else none
   else none
  else
   Option.map (fun z => .inr z) (Z231 v2 (true, v7))
theorem consistency_Distinct_L3_sound (x0 : api_History) (v2 : Int) (s : Int × (List (consistency_content × Int))) {Φ : Bool → Prop} {rec1 : (Int × (List (consistency_content × Int))) → Prop} {rec3 : (Int × (List (consistency_content × Int))) → Prop} {o} (h : Z232 x0 v2 s = some o) (hK : (orK rec3 (orK rec1 Φ)) o) : Z108 x0 v2 rec1 Φ s rec3 := by
  obtain ⟨v6, v7⟩ := s
  unfold Z232 at h
  unfold Z108
  exact ifS h (fun h => adS h fun h => adS h fun h => ifS h (fun h => ifS h (fun h => mpS h fun _ hx he => consistency_Distinct_J2_sound _ _ hx (by subst he; exact hK)) fun h => adS h fun h => have t := lfS h hK; t) fun h => mpS h fun _ hx he => consistency_Distinct_J2_sound _ _ hx (by subst he; exact hK)) fun h => mpS h fun _ hx he => consistency_Distinct_J2_sound _ _ hx (by subst he; exact hK)
def Z233 (x0 : api_History) : (Int × (List (consistency_content × Int))) → Option ((Int × (List (consistency_content × Int))) ⊕ (Bool))
 | (v2, v3) =>
  if v2 < (x0.Writes.length : Int) then
   if inX v2 x0.Writes.length then
   loopS (Z232 x0 v2) 100000 (0, v3)
   else none
  else
   some (.inr true)
theorem consistency_Distinct_L1_sound (x0 : api_History) (s : Int × (List (consistency_content × Int))) {Φ : Bool → Prop} {rec1 : (Int × (List (consistency_content × Int))) → Prop} {o} (h : Z233 x0 s = some o) (hK : (orK rec1 Φ) o) : Z109 x0 Φ s rec1 := by
  obtain ⟨v2, v3⟩ := s
  unfold Z233 at h
  unfold Z109
  exact ifS h (fun h => adS h fun h => LoopW.of_S (fun s q rec hs hq => consistency_Distinct_L3_sound _ _ s hs hq) _ _ h hK) fun h => have t := lfS h hK; t
def Z234 (x0 : api_History) : Option (Bool) :=
 Option.bind (Z139 x0) fun v1 =>
 if v1 ≠ 0 then
  some (false)
 else
  loopS (Z233 x0) 100000 (0, ([] : List (consistency_content × Int)))
theorem consistency_Distinct_sound (x0 : api_History) {Φ : Bool → Prop} {o} (h : Z234 x0 = some o) (hK : Φ o) : Z110 x0 Φ := by
  unfold Z234 at h
  unfold Z110
  exact blS h fun _ hv h => history_Check_sound _ hv (ifS h (fun h => have t := lfS h hK; t) fun h => LoopW.of_S (fun s q rec hs hq => consistency_Distinct_L1_sound _ s hs hq) _ _ h hK)
def Z235 (x0 : Int) (x1 : BitVec 8) : Option (List api_Write) :=
 some (([(api_Write.mk 0 x0 ([(Sec.mk x1 (0#8) (0#8) (0#8) (0#8) (0#8) (0#8) (0#8))] : List Sec))] : List api_Write))
theorem law18_awake_1_sound (x0 : Int) (x1 : BitVec 8) {Φ : List api_Write → Prop} {o} (h : Z235 x0 x1 = some o) (hK : Φ o) : Z111 x0 x1 Φ := by
  unfold Z235 at h
  unfold Z111
  exact have t := lfS h hK; t
def Z236 (x0 : List Sec) (x1 : List Sec) : (Int) → Option ((Int) ⊕ (Bool))
 | v1 =>
  if v1 < (x0.length : Int) then
   if inX v1 x0.length then
   if inX v1 x1.length then
   if (ix x0 v1) ≠ (ix x1 v1) then
    some (.inr false)
   else
    if inI (v1 + 1) then
    some (.inl (v1 + 1))
    else none
   else none
   else none
  else
   some (.inr true)
theorem ref03_SameSectors_L1_sound (x0 : List Sec) (x1 : List Sec) (s : Int) {Φ : Bool → Prop} {rec1 : (Int) → Prop} {o} (h : Z236 x0 x1 s = some o) (hK : (orK rec1 Φ) o) : Z112 x0 x1 Φ s rec1 := by
  unfold Z236 at h
  unfold Z112
  exact ifS h (fun h => adS h fun h => adS h fun h => ifS h (fun h => have t := lfS h hK; t) fun h => adS h fun h => have t := lfS h hK; t) fun h => have t := lfS h hK; t
def Z237 (x0 : List Sec) (x1 : List Sec) : Option (Bool) :=
 if (x0.length : Int) ≠ (x1.length : Int) then
  some (false)
 else
  loopS (Z236 x0 x1) 100000 0
theorem ref03_SameSectors_sound (x0 : List Sec) (x1 : List Sec) {Φ : Bool → Prop} {o} (h : Z237 x0 x1 = some o) (hK : Φ o) : Z113 x0 x1 Φ := by
  unfold Z237 at h
  unfold Z113
  exact ifS h (fun h => have t := lfS h hK; t) fun h => LoopW.of_S (fun s q rec hs hq => ref03_SameSectors_L1_sound _ _ s hs hq) _ _ h hK
def Z238 (x0 : List api_Write) (x1 : List api_Write) : (Int) → Option ((Int) ⊕ (Bool))
 | v1 =>
  if v1 < (x0.length : Int) then
   if inX v1 x0.length then
   if inX v1 x1.length then
   if ((ix x0 v1).Volume) ≠ ((ix x1 v1).Volume) then
    some (.inr false)
   else
    if inX v1 x0.length then
    if inX v1 x1.length then
    if ((ix x0 v1).Start) ≠ ((ix x1 v1).Start) then
     some (.inr false)
    else
     if inX v1 x0.length then
     if inX v1 x1.length then
     Option.bind (Z237 ((ix x0 v1).Data) ((ix x1 v1).Data)) fun z =>
     let v2 : Bool × Unit := (z, ())
     if ¬ (v2.1 = true) then
      some (.inr false)
     else
      if inI (v1 + 1) then
      some (.inl (v1 + 1))
      else none
     else none
     else none
    else none
    else none
   else none
   else none
  else
   some (.inr true)
theorem ref03_SameWrites_L1_sound (x0 : List api_Write) (x1 : List api_Write) (s : Int) {Φ : Bool → Prop} {rec1 : (Int) → Prop} {o} (h : Z238 x0 x1 s = some o) (hK : (orK rec1 Φ) o) : Z114 x0 x1 Φ s rec1 := by
  unfold Z238 at h
  unfold Z114
  exact ifS h (fun h => adS h fun h => adS h fun h => ifS h (fun h => have t := lfS h hK; t) fun h => adS h fun h => adS h fun h => ifS h (fun h => have t := lfS h hK; t) fun h => adS h fun h => adS h fun h => blS h fun _ hv h => ⟨_, ref03_SameSectors_sound _ _ hv rfl, ifS h (fun h => have t := lfS h hK; t) fun h => adS h fun h => have t := lfS h hK; t⟩) fun h => have t := lfS h hK; t
def Z239 (x0 : List api_Write) (x1 : List api_Write) : Option (Bool) :=
 if (x0.length : Int) ≠ (x1.length : Int) then
  some (false)
 else
  loopS (Z238 x0 x1) 100000 0
theorem ref03_SameWrites_sound (x0 : List api_Write) (x1 : List api_Write) {Φ : Bool → Prop} {o} (h : Z239 x0 x1 = some o) (hK : Φ o) : Z115 x0 x1 Φ := by
  unfold Z239 at h
  unfold Z115
  exact ifS h (fun h => have t := lfS h hK; t) fun h => LoopW.of_S (fun s q rec hs hq => ref03_SameWrites_L1_sound _ _ s hs hq) _ _ h hK
def Z240 (v1 : api_History) : (Unit) → Option (Bool)
 | _ =>
  Option.bind (law18_of_S (0#8) (2#8) (0#8)) fun z =>
  let v2 : List (List Sec) × Unit := (z, ())
  Option.bind (Z199 v1 v2.1) fun z =>
  let v3 : List Int × Bool × Int × Unit := (z.1, z.2.1, z.2.2, ())
  Option.bind (law18_of_S (0#8) (2#8) (0#8)) fun z =>
  let v4 : List (List Sec) × Unit := (z, ())
  Option.bind (Z230 v1 v4.1) fun z =>
  let v5 : api_Write × Bool × Int × Unit := (z.1, z.2.1, z.2.2, ())
  Option.bind (law18_of_S (1#8) (5#8) (0#8)) fun z =>
  let v6 : List (List Sec) × Unit := (z, ())
  Option.bind (Z230 v1 v6.1) fun z =>
  let v7 : api_Write × Bool × Int × Unit := (z.1, z.2.1, z.2.2, ())
  Option.bind (law18_of_S (3#8) (2#8) (0#8)) fun z =>
  let v8 : List (List Sec) × Unit := (z, ())
  Option.bind (Z230 v1 v8.1) fun z =>
  let v9 : api_Write × Bool × Int × Unit := (z.1, z.2.1, z.2.2, ())
  if v3.2.1 = true then
   some (false)
  else
   if inI (v3.2.2.1 + v5.2.2.1) then
   if inI ((v3.2.2.1 + v5.2.2.1) + v7.2.2.1) then
   if inI (((v3.2.2.1 + v5.2.2.1) + v7.2.2.1) + v9.2.2.1) then
   if (((v3.2.2.1 + v5.2.2.1) + v7.2.2.1) + v9.2.2.1) ≠ 0 then
    some (false)
   else
    if ¬ (v5.2.1 = true) then
     some (false)
    else
     if ¬ (v7.2.1 = true) then
      some (false)
     else
      if ¬ (v9.2.1 = true) then
       some (false)
      else
       Option.bind (Z234 v1) fun v10 =>
       if ¬ (v10 = true) then
        some (false)
       else
        Option.bind (Z235 0 (1#8)) fun z =>
        let v11 : List api_Write × Unit := (z, ())
        Option.bind (Z239 ([v5.1] : List api_Write) v11.1) fun z =>
        let v12 : Bool × Unit := (z, ())
        if v12.1 = true then
         Option.bind (Z235 1 (5#8)) fun z =>
         let v13 : List api_Write × Unit := (z, ())
         Option.bind (Z239 ([v7.1] : List api_Write) v13.1) fun z =>
         let v14 : Bool × Unit := (z, ())
         if v14.1 = true then
          Option.bind (Z235 1 (4#8)) fun z =>
          let v15 : List api_Write × Unit := (z, ())
          Option.bind (Z239 ([v9.1] : List api_Write) v15.1) fun z =>
          let v16 : Bool × Unit := (z, ())
          some (v16.1)
         else
          some (false)
        else
         some (false)
   else none
   else none
   else none
theorem law18_awake_J1_sound (v1 : api_History) (s : Unit) {Φ : Bool → Prop} {o} (h : Z240 v1 s = some o) (hK : Φ o) : Z116 v1 Φ s := by
  unfold Z240 at h
  unfold Z116
  exact blS h fun _ hv h => ⟨_, law18_of_sound _ _ _ hv rfl, blS h fun _ hv h => ⟨_, consistency_Find_sound _ _ hv rfl, blS h fun _ hv h => ⟨_, law18_of_sound _ _ _ hv rfl, blS h fun _ hv h => ⟨_, consistency_Conflict_sound _ _ hv rfl, blS h fun _ hv h => ⟨_, law18_of_sound _ _ _ hv rfl, blS h fun _ hv h => ⟨_, consistency_Conflict_sound _ _ hv rfl, blS h fun _ hv h => ⟨_, law18_of_sound _ _ _ hv rfl, blS h fun _ hv h => ⟨_, consistency_Conflict_sound _ _ hv rfl, ifS h (fun h => have t := lfS h hK; t) fun h => adS h fun h => adS h fun h => adS h fun h => ifS h (fun h => have t := lfS h hK; t) fun h => ifS h (fun h => have t := lfS h hK; t) fun h => ifS h (fun h => have t := lfS h hK; t) fun h => ifS h (fun h => have t := lfS h hK; t) fun h => blS h fun _ hv h => consistency_Distinct_sound _ hv (ifS h (fun h => have t := lfS h hK; t) fun h => blS h fun _ hv h => ⟨_, law18_awake_1_sound _ _ hv rfl, blS h fun _ hv h => ⟨_, ref03_SameWrites_sound _ _ hv rfl, ifS h (fun h => blS h fun _ hv h => ⟨_, law18_awake_1_sound _ _ hv rfl, blS h fun _ hv h => ⟨_, ref03_SameWrites_sound _ _ hv rfl, ifS h (fun h => blS h fun _ hv h => ⟨_, law18_awake_1_sound _ _ hv rfl, blS h fun _ hv h => ⟨_, ref03_SameWrites_sound _ _ hv rfl, have t := lfS h hK; t⟩⟩) fun h => have t := lfS h hK; t⟩⟩) fun h => have t := lfS h hK; t⟩⟩)⟩⟩⟩⟩⟩⟩⟩⟩
def Z241 (v1 : api_History) (v17 : List (List Sec)) (v18 : List (List Sec)) (v19 : List (List Sec)) (v20 : List (List Sec)) (v21 : Int) : (Unit) → Option ((Int) ⊕ (Bool))
 | _ =>
  if inX v21 ([v17, v18, v19, v20] : List (List (List Sec))).length then
  Option.bind (Z199 v1 (ix ([v17, v18, v19, v20] : List (List (List Sec))) v21)) fun v22 =>
  Option.bind (Z217 v1 (ix ([v17, v18, v19, v20] : List (List (List Sec))) v21)) fun v23 =>
  if v22.2.2 ≠ 0 then
   some (.inr false)
  else
   if v23.2.2 ≠ 0 then
    some (.inr false)
   else
    if ¬ (v22.2.1 = true) then
     some (.inr false)
    else
     if ¬ (v23.2.1 = true) then
      some (.inr false)
     else
      Option.bind (ref15_First_S v21) fun v24 =>
      Option.bind (Z166 v22.1 v24) fun v25 =>
      if ¬ (v25 = true) then
       some (.inr false)
      else
       Option.bind (ref15_First_S v21) fun v26 =>
       Option.bind (Z166 v23.1 v26) fun v27 =>
       if ¬ (v27 = true) then
        some (.inr false)
       else
        if inI (v21 + 1) then
        some (.inl (v21 + 1))
        else none
  else none
theorem law18_awake_J3_sound (v1 : api_History) (v17 : List (List Sec)) (v18 : List (List Sec)) (v19 : List (List Sec)) (v20 : List (List Sec)) (v21 : Int) (s : Unit) {Φ : Bool → Prop} {rec2 : (Int) → Prop} {o} (h : Z241 v1 v17 v18 v19 v20 v21 s = some o) (hK : (orK rec2 Φ) o) : Z117 v1 v17 v18 v19 v20 v21 rec2 Φ s := by
  unfold Z241 at h
  unfold Z117
  exact adS h fun h => blS h fun _ hv h => consistency_Find_sound _ _ hv (blS h fun _ hv h => consistency_Newest_sound _ _ hv (ifS h (fun h => have t := lfS h hK; t) fun h => ifS h (fun h => have t := lfS h hK; t) fun h => ifS h (fun h => have t := lfS h hK; t) fun h => ifS h (fun h => have t := lfS h hK; t) fun h => blS h fun _ hv h => ref15_First_sound _ hv (blS h fun _ hv h => slices_Equal_int_int_sound _ _ hv (ifS h (fun h => have t := lfS h hK; t) fun h => blS h fun _ hv h => ref15_First_sound _ hv (blS h fun _ hv h => slices_Equal_int_int_sound _ _ hv (ifS h (fun h => have t := lfS h hK; t) fun h => adS h fun h => have t := lfS h hK; t))))))
def Z242 (v1 : api_History) (v17 : List (List Sec)) (v18 : List (List Sec)) (v19 : List (List Sec)) (v20 : List (List Sec)) : (Int) → Option ((Int) ⊕ (Bool))
 | v21 =>
  if v21 < (([v17, v18, v19, v20] : List (List (List Sec))).length : Int) then
   Z241 v1 v17 v18 v19 v20 v21 ()
  else
   Option.map (fun z => .inr z) (Z240 v1 ())
theorem law18_awake_L2_sound (v1 : api_History) (v17 : List (List Sec)) (v18 : List (List Sec)) (v19 : List (List Sec)) (v20 : List (List Sec)) (s : Int) {Φ : Bool → Prop} {rec2 : (Int) → Prop} {o} (h : Z242 v1 v17 v18 v19 v20 s = some o) (hK : (orK rec2 Φ) o) : Z118 v1 v17 v18 v19 v20 Φ s rec2 := by
  unfold Z242 at h
  unfold Z118
  exact ifS h (fun h => law18_awake_J3_sound _ _ _ _ _ _ _ h hK) fun h => mpS h fun _ hx he => law18_awake_J1_sound _ _ hx (by subst he; exact hK)
def law18_awake_S : Option (Bool) :=
 Option.bind (Z175) fun v1 =>
 Option.bind (law18_of_S (0#8) (0#8) (0#8)) fun v17 =>
 Option.bind (law18_of_S (1#8) (0#8) (0#8)) fun v18 =>
 Option.bind (law18_of_S (1#8) (2#8) (0#8)) fun v19 =>
 Option.bind (law18_of_S (3#8) (4#8) (0#8)) fun v20 =>
 loopS (Z242 v1 v17 v18 v19 v20) 100000 0
theorem law18_awake_sound {Φ : Bool → Prop} {o} (h : law18_awake_S = some o) (hK : Φ o) : law18_awake_W Φ := by
  unfold law18_awake_S at h
  unfold law18_awake_W
  exact blS h fun _ hv h => law18_example_sound hv (blS h fun _ hv h => law18_of_sound _ _ _ hv (blS h fun _ hv h => law18_of_sound _ _ _ hv (blS h fun _ hv h => law18_of_sound _ _ _ hv (blS h fun _ hv h => law18_of_sound _ _ _ hv (LoopW.of_S (fun s q rec hs hq => law18_awake_L2_sound _ _ _ _ _ s hs hq) _ _ h hK)))))
theorem law18_awake_ok {Φ : Bool → Prop} (h : Φ true) : law18_awake_W Φ := law18_awake_sound (o := true) (by kernel_rfl) h
def inW (w : api_Write) (v s : Int) : Prop := w.Volume = v ∧ w.Start ≤ s ∧ s < w.Start + (w.Data.length : Int)
instance (w : api_Write) (v s : Int) : Decidable (inW w v s) := by unfold inW; infer_instance
def hasC (w : api_Write) (v s : Int) (x : Sec) : Bool := decide (inW w v s ∧ ix w.Data (s - w.Start) = x)
def okI (h : api_History) (i k : Nat) : Bool := !decide (ix (wr h i).Data (k : Int) = sec0) && allN (fun j => !hasC (wr h j) (wr h i).Volume ((wr h i).Start + (k : Int)) (ix (wr h i).Data (k : Int))) i
def okW (h : api_History) (i : Nat) : Bool := allN (okI h i) (wr h i).Data.length
def distB (h : api_History) : Bool := allN (okW h) h.Writes.length
theorem okI_zero {h : api_History} {i k : Nat} (s : ix (wr h i).Data (k : Int) = sec0) : okI h i k = false := by unfold okI; rw [decide_eq_true s]; rfl
theorem okI_nz {h : api_History} {i k : Nat} (s : ¬ ix (wr h i).Data (k : Int) = sec0) : okI h i k = allN (fun j => !hasC (wr h j) (wr h i).Volume ((wr h i).Start + (k : Int)) (ix (wr h i).Data (k : Int))) i := by unfold okI; rw [decide_eq_false s]; rfl
theorem not_forall_lt {n : Nat} {p : Nat → Prop} (h : ¬ ∀ k, k < n → p k) : ∃ k, k < n ∧ ¬ p k := Classical.byContradiction fun q => h fun k hk => Classical.byContradiction fun r => q ⟨k, hk, r⟩
def keyAt (h : api_History) (i k : Nat) : consistency_content := ⟨⟨(wr h i).Volume, (wr h i).Start + (k : Int)⟩, ix (wr h i).Data (k : Int)⟩
def Seen (h : api_History) (i k : Nat) (c : consistency_content) : Prop := ∃ j q : Nat, (j < i ∧ q < (wr h j).Data.length ∨ j = i ∧ q < k) ∧ keyAt h j q = c
def MapOk (h : api_History) (i k : Nat) (m : List (consistency_content × Int)) : Prop := ∀ c, mhas m c = true ↔ Seen h i k c
theorem mhas_put {κ ν : Type} [DecidableEq κ] (k : κ) (v : ν) (c : κ) : ∀ m : List (κ × ν), mhas (mput m k v) c = true ↔ mhas m c = true ∨ c = k
  | [] => by
    by_cases q : c = k <;> simp [mhas, mput, mfind, q]
  | p :: l => by
    have ih := mhas_put k v c l
    unfold mput
    by_cases q : k = p.1
    · rw [if_pos q]
      by_cases r : c = p.1
      · simp [mhas, mfind, r]
      · rw [q]; simp only [mhas, mfind, if_neg r]
        exact ⟨fun t => .inl t, fun t => t.elim id fun u => absurd u r⟩
    · rw [if_neg q]
      by_cases r : c = p.1
      · simp [mhas, mfind, r]
      · have a : mhas (p :: mput l k v) c = mhas (mput l k v) c := by simp only [mhas, mfind, if_neg r]
        have b : mhas (p :: l) c = mhas l c := by simp only [mhas, mfind, if_neg r]
        rw [a, b]; exact ih
theorem MapOk.put {h : api_History} {i k : Nat} {m : List (consistency_content × Int)} (hm : MapOk h i k m) (v : Int) : MapOk h i (k + 1) (mput m (keyAt h i k) v) := by
  intro c
  rw [mhas_put, hm c]
  constructor
  · rintro (⟨j, q, h1, h2⟩ | rfl)
    · exact ⟨j, q, h1.elim .inl fun t => .inr ⟨t.1, by omega⟩, h2⟩
    · exact ⟨i, k, .inr ⟨rfl, by omega⟩, rfl⟩
  · rintro ⟨j, q, h1, h2⟩
    by_cases e : j = i ∧ q = k
    · obtain ⟨rfl, rfl⟩ := e; exact .inr h2.symm
    · exact .inl ⟨j, q, h1.elim .inl fun t => .inr ⟨t.1, by omega⟩, h2⟩
theorem MapOk.next {h : api_History} {i : Nat} {m : List (consistency_content × Int)} (hm : MapOk h i (wr h i).Data.length m) : MapOk h (i + 1) 0 m := by
  intro c
  rw [hm c]
  constructor
  · rintro ⟨j, q, h1, h2⟩
    rcases h1 with h1 | ⟨rfl, h1⟩
    · exact ⟨j, q, .inl ⟨by omega, h1.2⟩, h2⟩
    · exact ⟨j, q, .inl ⟨by omega, h1⟩, h2⟩
  · rintro ⟨j, q, h1, h2⟩
    rcases h1 with h1 | h1
    · by_cases e : j = i
      · subst e; exact ⟨j, q, .inr ⟨rfl, h1.2⟩, h2⟩
      · exact ⟨j, q, .inl ⟨by omega, h1.2⟩, h2⟩
    · omega
theorem seen_iff {h : api_History} (i k : Nat) : Seen h i k (keyAt h i k) ↔ ¬ allN (fun j => !hasC (wr h j) (wr h i).Volume ((wr h i).Start + (k : Int)) (ix (wr h i).Data (k : Int))) i = true := by
  rw [allN_true]
  constructor
  · rintro ⟨j, q, h1, h2⟩ t
    have h3 : (wr h j).Volume = (wr h i).Volume := congrArg (fun c => c.place.volume) h2
    have h4 : (wr h j).Start + (q : Int) = (wr h i).Start + (k : Int) := congrArg (fun c => c.place.sector) h2
    have h5 : ix (wr h j).Data (q : Int) = ix (wr h i).Data (k : Int) := congrArg (fun c => c.data) h2
    rcases h1 with ⟨a, b⟩ | ⟨rfl, b⟩
    · have u := t j a
      rw [Bool.not_eq_true', hasC, decide_eq_false_iff_not] at u
      exact u ⟨⟨h3, by omega, by omega⟩, by rw [show (wr h i).Start + (k : Int) - (wr h j).Start = (q : Int) by omega]; exact h5⟩
    · omega
  · intro t
    obtain ⟨j, hj, u⟩ := not_forall_lt t
    rw [Bool.not_eq_true', hasC, Bool.not_eq_false, decide_eq_true_iff] at u
    obtain ⟨⟨h3, h4, h5⟩, h6⟩ := u
    have e : ((((wr h i).Start + (k : Int)) - (wr h j).Start).toNat : Int) = ((wr h i).Start + (k : Int)) - (wr h j).Start := Int.toNat_of_nonneg (by omega)
    refine ⟨j, (((wr h i).Start + (k : Int)) - (wr h j).Start).toNat, .inl ⟨hj, by omega⟩, ?_⟩
    unfold keyAt
    rw [e, h3, h6, show (wr h j).Start + ((wr h i).Start + (k : Int) - (wr h j).Start) = (wr h i).Start + (k : Int) by omega]
theorem okI_iff {h : api_History} {i k : Nat} : okI h i k = true ↔ ix (wr h i).Data (k : Int) ≠ sec0 ∧ ¬ Seen h i k (keyAt h i k) := by
  rw [seen_iff, Classical.not_not]
  by_cases s : ix (wr h i).Data (k : Int) = sec0
  · rw [okI_zero s]; exact ⟨fun t => Bool.noConfusion t, fun t => absurd s t.1⟩
  · rw [okI_nz s]; exact ⟨fun t => ⟨s, t⟩, fun t => t.2⟩
def fstV (nv : Nat) (sz : Nat → Nat) (p : Nat → Nat → Bool) : Int := idxN (fun v => decide (0 ≤ idxN (p v) (sz v))) nv
def fstK (nv : Nat) (sz : Nat → Nat) (p : Nat → Nat → Bool) : Int := idxN (p (fstV nv sz p).toNat) (sz (fstV nv sz p).toNat)
theorem row_none {n : Nat} {p : Nat → Bool} : decide (0 ≤ idxN p n) = false ↔ ∀ k, k < n → p k = false := by
  rw [decide_eq_false_iff_not, idxN_nonneg]
  exact ⟨fun h k hk => Bool.eq_false_iff.2 fun t => h ⟨k, hk, t⟩, fun h ⟨k, hk, t⟩ => by rw [h k hk] at t; exact Bool.noConfusion t⟩
theorem fst_hit {nv : Nat} {sz : Nat → Nat} {p : Nat → Nat → Bool} {v k : Nat} (hv : v < nv) (hk : k < sz v) (h0 : ∀ v', v' < v → ∀ k', k' < sz v' → p v' k' = false) (h1 : ∀ k', k' < k → p v k' = false) (h : p v k = true) : fstV nv sz p = (v : Int) ∧ fstK nv sz p = (k : Int) := by
  have e : fstV nv sz p = (v : Int) := idxN_hit hv (fun j hj => row_none.2 (h0 j hj)) (decide_eq_true (idxN_nonneg.2 ⟨k, hk, h⟩))
  refine ⟨e, ?_⟩
  unfold fstK
  rw [e, Int.toNat_natCast]
  exact idxN_hit hk h1 h
theorem fst_none {nv : Nat} {sz : Nat → Nat} {p : Nat → Nat → Bool} (h : ∀ v, v < nv → ∀ k, k < sz v → p v k = false) : fstV nv sz p = -1 := idxN_none fun v hv => row_none.2 (h v hv)
theorem fst_cases (nv : Nat) (sz : Nat → Nat) (p : Nat → Nat → Bool) : (fstV nv sz p = -1 ∧ ∀ v, v < nv → ∀ k, k < sz v → p v k = false) ∨ ∃ v k : Nat, v < nv ∧ k < sz v ∧ fstV nv sz p = (v : Int) ∧ fstK nv sz p = (k : Int) ∧ p v k = true ∧ (∀ v', v' < v → ∀ k', k' < sz v' → p v' k' = false) ∧ ∀ k', k' < k → p v k' = false := by
  rcases idxN_cases (fun v => decide (0 ≤ idxN (p v) (sz v))) nv with ⟨h1, h2⟩ | ⟨v, hv, h1, h2, h3⟩
  · exact .inl ⟨h1, fun v hv => row_none.1 (h2 v hv)⟩
  · rcases idxN_cases (p v) (sz v) with ⟨q1, _⟩ | ⟨k, hk, q1, q2, q3⟩
    · have := of_decide_eq_true h2; omega
    · refine .inr ⟨v, k, hv, hk, h1, ?_, q2, fun v' hv' => row_none.1 (h3 v' hv'), q3⟩
      unfold fstK fstV
      rw [h1, Int.toNat_natCast]; exact q1
def autC (h : api_History) (v s : Int) (x : Sec) : Int := idxN (fun i => hasC (wr h i) v s x) h.Writes.length
def szN (im : List (List Sec)) (v : Nat) : Nat := (ix im (v : Int)).length
def unkB (h : api_History) (im : List (List Sec)) (v k : Nat) : Bool := decide (sec im v k ≠ sec0) && decide (autC h (v : Int) (k : Int) (sec im v k) < 0)
def needB (h : api_History) (im : List (List Sec)) (w : Nat) : Bool := (List.range im.length).any fun v => (List.range (szN im v)).any fun k => decide (sec im v k ≠ sec0) && decide (autC h (v : Int) (k : Int) (sec im v k) = (w : Int))
def needL (h : api_History) (im : List (List Sec)) : List Int := selL h.Writes.length (needB h im)
def difB (x im : List (List Sec)) (v k : Nat) : Bool := decide (sec x v k ≠ sec im v k)
def oneWr (v k : Int) (x : Sec) : api_Write := ⟨v, k, [x]⟩
def noW : api_Write := ⟨0, 0, []⟩
theorem needB_iff {h : api_History} {im : List (List Sec)} {w : Nat} : needB h im w = true ↔ ∃ v k : Nat, v < im.length ∧ k < szN im v ∧ sec im v k ≠ sec0 ∧ autC h (v : Int) (k : Int) (sec im v k) = (w : Int) := by
  unfold needB
  rw [List.any_eq_true]
  constructor
  · rintro ⟨v, hv, h1⟩
    obtain ⟨k, hk, h2⟩ := List.any_eq_true.1 h1
    rw [Bool.and_eq_true, decide_eq_true_iff, decide_eq_true_iff] at h2
    exact ⟨v, k, List.mem_range.1 hv, List.mem_range.1 hk, h2.1, h2.2⟩
  · rintro ⟨v, k, hv, hk, h1, h2⟩
    refine ⟨v, List.mem_range.2 hv, List.any_eq_true.2 ⟨k, List.mem_range.2 hk, ?_⟩⟩
    rw [Bool.and_eq_true, decide_eq_true_iff, decide_eq_true_iff]
    exact ⟨h1, h2⟩
def lowH (h : api_History) (im : List (List Sec)) : List Int := leastC h (needL h im)
def ximH (h : api_History) (im : List (List Sec)) : List (List Sec) := imgH h (lowH h im)
def unkV (h : api_History) (im : List (List Sec)) : Int := fstV im.length (szN im) (unkB h im)
def unkK (h : api_History) (im : List (List Sec)) : Int := fstK im.length (szN im) (unkB h im)
def difV (h : api_History) (im : List (List Sec)) : Int := fstV im.length (szN im) (difB (ximH h im) im)
def difK (h : api_History) (im : List (List Sec)) : Int := fstK im.length (szN im) (difB (ximH h im) im)
def cflW (h : api_History) (im : List (List Sec)) : api_Write :=
  if 0 ≤ unkV h im then oneWr (unkV h im) (unkK h im) (sec im (unkV h im).toNat (unkK h im).toNat)
  else if 0 ≤ difV h im then oneWr (difV h im) (difK h im) (sec (ximH h im) (difV h im).toNat (difK h im).toNat) else noW
def cflB (h : api_History) (im : List (List Sec)) : Bool := decide (0 ≤ unkV h im ∨ 0 ≤ difV h im)
def rgtE (h : api_History) (im : List (List Sec)) : Int := if histE h ≠ 0 then histE h else if imgE im ≠ 0 then imgE im else if szs im ≠ h.Sizes then 22 else if distB h = false then 1 else 0
def alwB (h : api_History) (im : List (List Sec)) (i : Nat) : Bool := allN (fun k => decide ((i : Int) ≤ autC h (wr h i).Volume ((wr h i).Start + (k : Int)) (ix (ix im (wr h i).Volume) ((wr h i).Start + (k : Int))))) (wr h i).Data.length
def alwL (h : api_History) (im : List (List Sec)) : List Int := selL h.Writes.length (alwB h im)
def findR (h : api_History) (im : List (List Sec)) : List Int × Bool × Int := if rgtE h im ≠ 0 then ([], false, rgtE h im) else if cflB h im = true then ([], false, 0) else (lowH h im, true, 0)
def nwsR (h : api_History) (im : List (List Sec)) : List Int × Bool × Int := if rgtE h im ≠ 0 then ([], false, rgtE h im) else if cflB h im = true then ([], false, 0) else (greatC h (alwL h im), true, 0)
theorem distB_at {h : api_History} (hd : distB h = true) {i k : Nat} (hi : i < h.Writes.length) (hk : k < (wr h i).Data.length) : ix (wr h i).Data (k : Int) ≠ sec0 ∧ ¬ Seen h i k (keyAt h i k) := okI_iff.1 (allN_true.1 (allN_true.1 hd i hi) k hk)
theorem hasC_iff {w : api_Write} {v s : Int} {x : Sec} : hasC w v s x = true ↔ inW w v s ∧ ix w.Data (s - w.Start) = x := decide_eq_true_iff
theorem hasC_key {h : api_History} {i : Nat} {v s : Int} {x : Sec} (c : hasC (wr h i) v s x = true) : ∃ q : Nat, q < (wr h i).Data.length ∧ s = (wr h i).Start + (q : Int) ∧ keyAt h i q = ⟨⟨v, s⟩, x⟩ := by
  obtain ⟨⟨a, b, d⟩, e⟩ := hasC_iff.1 c
  have t : ((s - (wr h i).Start).toNat : Int) = s - (wr h i).Start := Int.toNat_of_nonneg (by omega)
  refine ⟨(s - (wr h i).Start).toNat, by omega, by omega, ?_⟩
  unfold keyAt
  rw [t, a, e, show (wr h i).Start + (s - (wr h i).Start) = s by omega]
theorem key_hasC {h : api_History} {i q : Nat} {v s : Int} {x : Sec} (hq : q < (wr h i).Data.length) (e : keyAt h i q = ⟨⟨v, s⟩, x⟩) : hasC (wr h i) v s x = true := by
  have h3 : (wr h i).Volume = v := congrArg (fun c => c.place.volume) e
  have h4 : (wr h i).Start + (q : Int) = s := congrArg (fun c => c.place.sector) e
  have h5 : ix (wr h i).Data (q : Int) = x := congrArg (fun c => c.data) e
  exact hasC_iff.2 ⟨⟨h3, by omega, by omega⟩, by rw [show s - (wr h i).Start = (q : Int) by omega]; exact h5⟩
theorem one_author {h : api_History} (hd : distB h = true) {i j : Nat} (hi : i < h.Writes.length) (hj : j < h.Writes.length) {v s : Int} {x : Sec} (ci : hasC (wr h i) v s x = true) (cj : hasC (wr h j) v s x = true) : i = j := by
  obtain ⟨q, hq, _, eq⟩ := hasC_key ci
  obtain ⟨r, hr, _, er⟩ := hasC_key cj
  rcases Nat.lt_trichotomy i j with t | t | t
  · exact absurd ⟨i, q, .inl ⟨t, hq⟩, eq.trans er.symm⟩ (distB_at hd hj hr).2
  · exact t
  · exact absurd ⟨j, r, .inl ⟨t, hr⟩, er.trans eq.symm⟩ (distB_at hd hi hq).2
theorem autC_of {h : api_History} (hd : distB h = true) {i : Nat} (hi : i < h.Writes.length) {v s : Int} {x : Sec} (c : hasC (wr h i) v s x = true) : autC h v s x = (i : Int) := by
  rcases idxN_cases (fun i => hasC (wr h i) v s x) h.Writes.length with ⟨_, h2⟩ | ⟨j, hj, h1, h2, _⟩
  · have := h2 i hi; rw [c] at this; exact Bool.noConfusion this
  · unfold autC; rw [h1, one_author hd hi hj c h2]
theorem autC_cases (h : api_History) (v s : Int) (x : Sec) : (autC h v s x = -1 ∧ ∀ i, i < h.Writes.length → hasC (wr h i) v s x = false) ∨ ∃ i : Nat, i < h.Writes.length ∧ autC h v s x = (i : Int) ∧ hasC (wr h i) v s x = true := by
  rcases idxN_cases (fun i => hasC (wr h i) v s x) h.Writes.length with ⟨h1, h2⟩ | ⟨j, hj, h1, h2, _⟩
  · exact .inl ⟨h1, h2⟩
  · exact .inr ⟨j, hj, h1, h2⟩
theorem hasC_nz {h : api_History} (hd : distB h = true) {i : Nat} (hi : i < h.Writes.length) {v s : Int} {x : Sec} (c : hasC (wr h i) v s x = true) : x ≠ sec0 := by
  obtain ⟨q, hq, _, e⟩ := hasC_key c
  have := (distB_at hd hi hq).1
  have h5 : ix (wr h i).Data (q : Int) = x := congrArg (fun c => c.data) e
  rw [h5] at this; exact this
theorem autC_zero {h : api_History} (hd : distB h = true) (v s : Int) : autC h v s sec0 = -1 := by
  rcases autC_cases h v s sec0 with ⟨a, _⟩ | ⟨i, hi, _, c⟩
  · exact a
  · exact absurd rfl (hasC_nz hd hi c)
def AutM (h : api_History) (m : List (consistency_content × Int)) : Prop := ∀ (v s : Int) (x : Sec), mfind m ⟨⟨v, s⟩, x⟩ = if 0 ≤ autC h v s x then some (autC h v s x) else none
def ValOk (h : api_History) (i k : Nat) (m : List (consistency_content × Int)) : Prop := ∀ c x, mfind m c = some x → ∃ j q : Nat, (j < i ∧ q < (wr h j).Data.length ∨ j = i ∧ q < k) ∧ keyAt h j q = c ∧ x = (j : Int)
theorem mfind_put {κ ν : Type} [DecidableEq κ] (k : κ) (v : ν) (c : κ) : ∀ m : List (κ × ν), mfind (mput m k v) c = if c = k then some v else mfind m c
  | [] => by
    by_cases q : c = k <;> simp [mput, mfind, q]
  | p :: l => by
    have ih := mfind_put k v c l
    unfold mput
    by_cases q : k = p.1
    · rw [if_pos q]
      by_cases r : c = p.1
      · simp [mfind, r, q]
      · rw [q]; simp only [mfind, if_neg r]
    · rw [if_neg q]
      by_cases r : c = p.1
      · have s : ¬ c = k := fun t => q (t.symm.trans r)
        simp only [mfind, if_pos r, if_neg s]
      · simp only [mfind, if_neg r]; exact ih
theorem ValOk.put {h : api_History} {i k : Nat} {m : List (consistency_content × Int)} (hm : ValOk h i k m) : ValOk h i (k + 1) (mput m (keyAt h i k) (i : Int)) := by
  intro c x hx
  rw [mfind_put] at hx
  by_cases e : c = keyAt h i k
  · rw [if_pos e] at hx
    exact ⟨i, k, .inr ⟨rfl, by omega⟩, e.symm, (Option.some.inj hx).symm⟩
  · rw [if_neg e] at hx
    obtain ⟨j, q, h1, h2⟩ := hm c x hx
    exact ⟨j, q, h1.elim .inl fun t => .inr ⟨t.1, by omega⟩, h2⟩
theorem ValOk.next {h : api_History} {i : Nat} {m : List (consistency_content × Int)} (hm : ValOk h i (wr h i).Data.length m) : ValOk h (i + 1) 0 m := by
  intro c x hx
  obtain ⟨j, q, h1, h2⟩ := hm c x hx
  rcases h1 with h1 | ⟨rfl, h1⟩
  · exact ⟨j, q, .inl ⟨by omega, h1.2⟩, h2⟩
  · exact ⟨j, q, .inl ⟨by omega, h1⟩, h2⟩
theorem mhas_find {κ ν : Type} [DecidableEq κ] (m : List (κ × ν)) (c : κ) : mhas m c = (mfind m c).isSome := rfl
theorem AutM.of {h : api_History} (hd : distB h = true) {m : List (consistency_content × Int)} (h1 : MapOk h h.Writes.length 0 m) (h2 : ValOk h h.Writes.length 0 m) : AutM h m := by
  intro v s x
  cases e : mfind m ⟨⟨v, s⟩, x⟩ with
  | none =>
    rcases autC_cases h v s x with ⟨a, _⟩ | ⟨i, hi, a, c⟩
    · rw [if_neg (by omega)]
    · obtain ⟨q, hq, _, t⟩ := hasC_key c
      have := (h1 ⟨⟨v, s⟩, x⟩).2 ⟨i, q, .inl ⟨hi, hq⟩, t⟩
      rw [mhas_find, e] at this; exact Bool.noConfusion this
  | some y =>
    obtain ⟨j, q, h3, h4, h5⟩ := h2 _ _ e
    rcases h3 with h3 | h3
    · have := autC_of hd h3.1 (key_hasC h3.2 h4)
      rw [this, if_pos (by omega), h5]
    · omega
theorem nestS {A : Type} {out : Int × A → (Int × A → Prop) → Prop} {inn : Nat → (Int × A → Prop) → Int × A → (Int × A → Prop) → Prop} (nv : Nat) (sz : Nat → Nat) (p : Nat → Nat → Bool) (I : Nat → Nat → A → Prop) {a0 : A} (h0 : I 0 0 a0)
    (hI : ∀ v a, v < nv → I v (sz v) a → I (v + 1) 0 a)
    (hout : ∀ (v : Nat) a rec, v < nv → LoopW (inn v rec) (0, a) → out ((v : Int), a) rec)
    (hin : ∀ (v k : Nat) a rec rec', v < nv → k < sz v → (∀ v', v' < v → ∀ k', k' < sz v' → p v' k' = false) → (∀ k', k' < k → p v k' = false) → I v k a → (p v k = false → ∀ a', I v (k + 1) a' → rec' ((k : Int) + 1, a')) → inn v rec ((k : Int), a) rec')
    (hrow : ∀ (v : Nat) a rec rec', v < nv → rec ((v : Int) + 1, a) → inn v rec ((sz v : Int), a) rec')
    (he : ∀ a rec, (∀ v', v' < nv → ∀ k', k' < sz v' → p v' k' = false) → I nv 0 a → out ((nv : Int), a) rec) : LoopW out (0, a0) := by
  refine LoopW.upS nv (fun s => s.1) (fun v s => (∀ v', v' < v → ∀ k', k' < sz v' → p v' k' = false) ∧ I v 0 s.2) ?_ 0 rfl (Nat.zero_le _) ⟨fun v' hv' => absurd hv' (Nat.not_lt_zero v'), h0⟩
  rintro v ⟨_, a⟩ rec hv rfl ⟨hp, ha⟩ hrec
  rcases Nat.lt_or_ge v nv with hlt | hge
  · refine hout v a rec hlt ?_
    refine LoopW.upS (sz v) (fun s => s.1) (fun k s => (∀ k', k' < k → p v k' = false) ∧ I v k s.2) ?_ 0 rfl (Nat.zero_le _) ⟨fun k' hk' => absurd hk' (Nat.not_lt_zero k'), ha⟩
    rintro k ⟨_, b⟩ rec' hk rfl ⟨hq, hb⟩ hrec'
    rcases Nat.lt_or_ge k (sz v) with klt | kge
    · refine hin v k b rec rec' hlt klt hp hq hb fun hpk a' ha' => hrec' _ klt rfl ⟨fun j hj => ?_, ha'⟩
      rcases Nat.lt_or_ge j k with c | c
      · exact hq j c
      · obtain rfl : j = k := by omega
        exact hpk
    · obtain rfl : k = sz v := by omega
      refine hrow v b rec rec' hlt (hrec _ hlt rfl ⟨fun v' hv' => ?_, hI v b hlt hb⟩)
      rcases Nat.lt_or_ge v' v with c | c
      · exact hp v' c
      · obtain rfl : v' = v := by omega
        exact hq
  · obtain rfl : v = nv := by omega
    exact he a rec hp ha
theorem nestN {out : Int → (Int → Prop) → Prop} {inn : Nat → (Int → Prop) → Int → (Int → Prop) → Prop} (nv : Nat) (sz : Nat → Nat) (p : Nat → Nat → Bool)
    (hout : ∀ (v : Nat) rec, v < nv → LoopW (inn v rec) 0 → out (v : Int) rec)
    (hin : ∀ (v k : Nat) rec rec', v < nv → k < sz v → (∀ v', v' < v → ∀ k', k' < sz v' → p v' k' = false) → (∀ k', k' < k → p v k' = false) → (p v k = false → rec' ((k : Int) + 1)) → inn v rec (k : Int) rec')
    (hrow : ∀ (v : Nat) rec rec', v < nv → rec ((v : Int) + 1) → inn v rec (sz v : Int) rec')
    (he : ∀ rec, (∀ v', v' < nv → ∀ k', k' < sz v' → p v' k' = false) → out (nv : Int) rec) : LoopW out 0 := by
  refine LoopW.up nv (fun v => ∀ v', v' < v → ∀ k', k' < sz v' → p v' k' = false) ?_ rfl (Nat.zero_le _) fun v' hv' => absurd hv' (Nat.not_lt_zero v')
  intro v rec hv hp hrec
  rcases Nat.lt_or_ge v nv with hlt | hge
  · refine hout v rec hlt ?_
    refine LoopW.up (sz v) (fun k => ∀ k', k' < k → p v k' = false) ?_ rfl (Nat.zero_le _) fun k' hk' => absurd hk' (Nat.not_lt_zero k')
    intro k rec' hk hq hrec'
    rcases Nat.lt_or_ge k (sz v) with klt | kge
    · refine hin v k rec rec' hlt klt hp hq fun hpk => hrec' klt fun j hj => ?_
      rcases Nat.lt_or_ge j k with c | c
      · exact hq j c
      · obtain rfl : j = k := by omega
        exact hpk
    · obtain rfl : k = sz v := by omega
      refine hrow v rec rec' hlt (hrec hlt fun v' hv' => ?_)
      rcases Nat.lt_or_ge v' v with c | c
      · exact hp v' c
      · obtain rfl : v' = v := by omega
        exact hq
  · obtain rfl : v = nv := by omega
    exact he rec hp
def NeedBy (h : api_History) (im : List (List Sec)) (v k : Nat) (w : Nat) : Prop := ∃ v' k' : Nat, (v' < v ∧ k' < szN im v' ∨ v' = v ∧ k' < k) ∧ sec im v' k' ≠ sec0 ∧ autC h (v' : Int) (k' : Int) (sec im v' k') = (w : Int)
theorem NeedBy.row {h : api_History} {im : List (List Sec)} {v w : Nat} : NeedBy h im (v + 1) 0 w ↔ NeedBy h im v (szN im v) w := by
  constructor
  · rintro ⟨v', k', h1, h2⟩
    rcases h1 with ⟨a, b⟩ | ⟨_, b⟩
    · rcases Nat.lt_or_ge v' v with c | c
      · exact ⟨v', k', .inl ⟨c, b⟩, h2⟩
      · obtain rfl : v' = v := by omega
        exact ⟨v', k', .inr ⟨rfl, b⟩, h2⟩
    · omega
  · rintro ⟨v', k', h1, h2⟩
    rcases h1 with ⟨a, b⟩ | ⟨rfl, b⟩
    · exact ⟨v', k', .inl ⟨by omega, b⟩, h2⟩
    · exact ⟨v', k', .inl ⟨by omega, b⟩, h2⟩
theorem NeedBy.zero {h : api_History} {im : List (List Sec)} {w : Nat} : ¬ NeedBy h im 0 0 w := by
  rintro ⟨v', k', h1, _⟩
  omega
theorem NeedBy.skip {h : api_History} {im : List (List Sec)} {v k w : Nat} (z : sec im v k = sec0) : NeedBy h im v (k + 1) w ↔ NeedBy h im v k w := by
  constructor
  · rintro ⟨v', k', h1, h2⟩
    rcases h1 with h1 | ⟨rfl, b⟩
    · exact ⟨v', k', .inl h1, h2⟩
    · rcases Nat.lt_or_ge k' k with c | c
      · exact ⟨v', k', .inr ⟨rfl, c⟩, h2⟩
      · obtain rfl : k' = k := by omega
        exact absurd z h2.1
  · rintro ⟨v', k', h1, h2⟩
    exact ⟨v', k', h1.elim .inl fun t => .inr ⟨t.1, by omega⟩, h2⟩
theorem NeedBy.take {h : api_History} {im : List (List Sec)} {v k w : Nat} (z : sec im v k ≠ sec0) : NeedBy h im v (k + 1) w ↔ NeedBy h im v k w ∨ autC h (v : Int) (k : Int) (sec im v k) = (w : Int) := by
  constructor
  · rintro ⟨v', k', h1, h2⟩
    rcases h1 with h1 | ⟨rfl, b⟩
    · exact .inl ⟨v', k', .inl h1, h2⟩
    · rcases Nat.lt_or_ge k' k with c | c
      · exact .inl ⟨v', k', .inr ⟨rfl, c⟩, h2⟩
      · obtain rfl : k' = k := by omega
        exact .inr h2.2
  · rintro (⟨v', k', h1, h2⟩ | e)
    · exact ⟨v', k', h1.elim .inl fun t => .inr ⟨t.1, by omega⟩, h2⟩
    · exact ⟨v, k, .inr ⟨rfl, by omega⟩, z, e⟩
theorem NeedBy.all {h : api_History} {im : List (List Sec)} {w : Nat} : NeedBy h im im.length 0 w ↔ needB h im w = true := by
  rw [needB_iff]
  constructor
  · rintro ⟨v, k, h1, h2⟩
    rcases h1 with h1 | h1
    · exact ⟨v, k, h1.1, h1.2, h2⟩
    · omega
  · rintro ⟨v, k, h1, h2, h3⟩
    exact ⟨v, k, .inl ⟨h1, h2⟩, h3⟩
theorem mget_put {κ ν : Type} [DecidableEq κ] (k : κ) (v z : ν) (c : κ) (m : List (κ × ν)) : mget (mput m k v) c z = if c = k then v else mget m c z := by
  unfold mget
  rw [mfind_put]
  by_cases q : c = k
  · rw [if_pos q, if_pos q]
  · rw [if_neg q, if_neg q]
theorem AutM.has {h : api_History} {m : List (consistency_content × Int)} (hm : AutM h m) {v s : Int} {x : Sec} : mhas m ⟨⟨v, s⟩, x⟩ = true ↔ 0 ≤ autC h v s x := by
  have e := hm v s x
  rw [mhas_find, e]
  by_cases q : 0 ≤ autC h v s x
  · rw [if_pos q]; exact ⟨fun _ => q, fun _ => rfl⟩
  · rw [if_neg q]; exact ⟨fun t => Bool.noConfusion t, fun t => absurd t q⟩
theorem AutM.get {h : api_History} {m : List (consistency_content × Int)} (hm : AutM h m) {v s : Int} {x : Sec} (q : 0 ≤ autC h v s x) : mget m ⟨⟨v, s⟩, x⟩ 0 = autC h v s x := by
  have e := hm v s x
  unfold mget
  rw [e, if_pos q]
theorem szs_imgH {h : api_History} (hz : histE h = 0) {l : List Int} (hb : isSetB l (h.Writes.length : Int) = true) : szs (imgH h l) = h.Sizes := by
  have e := szs_zeroI (histE_zero hz).1
  unfold imgH
  rw [szs_appL (by rw [e, (histE_zero hz).1]; simp) (fun w hw => by rw [e]; exact setWr_fit hz hb w hw), e]
theorem needL_set {h : api_History} {im : List (List Sec)} : isSetB (needL h im) (h.Writes.length : Int) = true := selL_set (Nat.le_refl _) (Int.le_refl _)
theorem lowH_sel {h : api_History} {im : List (List Sec)} : lowH h im = selL h.Writes.length (lowC h (needL h im)) := leastC_sel needL_set
theorem lowH_set {h : api_History} {im : List (List Sec)} : isSetB (lowH h im) (h.Writes.length : Int) = true := by rw [lowH_sel]; exact selL_set (Nat.le_refl _) (Int.le_refl _)
theorem szs_eq_iff {im : List (List Sec)} {l : List Int} (hl : im.length = l.length) : szs im = l ↔ ∀ k, k < im.length → ((ix im (k : Int)).length : Int) = ix l (k : Int) := by
  constructor
  · rintro rfl k hk; exact (ix_szs hk).symm
  · intro h
    exact ext_ix (by rw [szs_len, hl]) fun k hk => by rw [szs_len] at hk; rw [ix_szs hk]; exact h k hk
theorem szN_of {a b : List (List Sec)} (e : szs a = szs b) {v : Nat} (hv : v < b.length) : szN a v = szN b v := by
  have hl : a.length = b.length := by rw [← szs_len a, ← szs_len b, e]
  have h1 := ix_szs (im := a) (k := v) (by omega)
  have h2 := ix_szs (im := b) (k := v) hv
  rw [e, h2] at h1
  unfold szN; omega
theorem cut_Least_eq {h : api_History} {l : List Int} {r : List Int × Int} {Φ : List Int × Int → Prop} (hh : SmallH h) (hl : l.length ≤ 1000000) (e : leastR h l = r) (hΦ : Φ r) : cut_Least_W h l Φ := cut_Least_ok hh hl (by rw [e]; exact hΦ)
theorem xim_fact {h : api_History} {im : List (List Sec)} (hz : histE h = 0) (hi : imgE im = 0) (hs : szs im = h.Sizes) : (ximH h im).length = im.length ∧ im.length ≤ 8 ∧ (∀ v, v < im.length → (ix (ximH h im) (v : Int)).length = szN im v) ∧ ∀ v, v < im.length → szN im v ≤ 4096 := by
  have sm := fit_small (im := im) (by rw [show sizesE (szs im) = 0 from hi]; simp)
  have ex : szs (ximH h im) = szs im := by rw [hs]; exact szs_imgH hz lowH_set
  exact ⟨by rw [← szs_len (ximH h im), ex, szs_len], sm.1, fun v hv => szN_of ex hv, fun v hv => (sm.2.2 v hv).2⟩
theorem find_dif {h : api_History} {im : List (List Sec)} {Φ : List Int × Bool × Int → Prop} (hz : histE h = 0) (hi : imgE im = 0) (hs : szs im = h.Sizes)
    (kD : ∀ v k : Nat, v < im.length → k < szN im v → difV h im = (v : Int) → difK h im = (k : Int) → sec (ximH h im) v k ≠ sec im v k → Z65 (lowH h im, 0) Φ (true, (v : Int), (k : Int), [sec (ximH h im) v k]))
    (kN : difV h im = -1 → Z65 (lowH h im, 0) Φ (false, 0, 0, [])) : LoopW (Z67 im false 0 0 [] (lowH h im, 0) (ximH h im, 0) Φ) 0 := by
  have ⟨el, es, en, sv0⟩ := xim_fact hz hi hs
  refine nestN (inn := fun v rec => Z66 im false 0 0 [] (lowH h im, 0) (ximH h im, 0) (v : Int) rec Φ) im.length (szN im) (difB (ximH h im) im) (fun v rec hv hl => ⟨fun _ => ⟨iX (by omega) (by show (v : Int) < ((ximH h im).length : Int); omega), hl⟩, fun r => absurd (show (v : Int) < ((ximH h im).length : Int) by omega) r⟩) ?_ ?_ ?_
  · intro v k rec rec' hv hk hp hq hr
    have e1 := en v hv
    have sv := sv0 v hv
    have hk' : k < (ix im (v : Int)).length := hk
    refine ⟨fun _ => ⟨iX (by omega) (by show (k : Int) < ((ix (ximH h im) (v : Int)).length : Int); omega), iX (by omega) (by omega), iX (by omega) (by omega), fun q => ?_, fun q => ⟨fun r => absurd (fun t => Bool.noConfusion t) r, fun _ => ⟨iI (by omega) (by omega), hr (decide_eq_false fun t => q t)⟩⟩⟩, fun r => absurd (show (k : Int) < ((ix (ximH h im) (v : Int)).length : Int) by omega) r⟩
    have hh := fst_hit hv hk hp hq (decide_eq_true q)
    exact kD v k hv hk hh.1 hh.2 q
  · intro v rec rec' hv hr
    have e1 := en v hv
    have sv := sv0 v hv
    exact ⟨fun r => absurd r (by show ¬ ((szN im v : Int) < ((ix (ximH h im) (v : Int)).length : Int)); omega), fun _ => ⟨iI (by omega) (by omega), hr⟩⟩
  · intro rec hp
    have nl : ¬ ((im.length : Int) < ((ximH h im).length : Int)) := by omega
    have nd : difV h im = -1 := fst_none hp
    exact ⟨fun r => absurd r nl, fun _ => kN nd⟩
theorem find_ned {h : api_History} {im : List (List Sec)} {Φ : List Int × Bool × Int → Prop} {mm : List (Int × Bool)} (hh : SmallH h) (hz : histE h = 0) (hi : imgE im = 0) (hs : szs im = h.Sizes)
    (hm : ∀ w, w < h.Writes.length → (mget mm (w : Int) false = true ↔ needB h im w = true))
    (kD : ∀ v k : Nat, v < im.length → k < szN im v → difV h im = (v : Int) → difK h im = (k : Int) → sec (ximH h im) v k ≠ sec im v k → Z65 (lowH h im, 0) Φ (true, (v : Int), (k : Int), [sec (ximH h im) v k]))
    (kN : difV h im = -1 → Z65 (lowH h im, 0) Φ (false, 0, 0, [])) : LoopW (Z68 h im false 0 0 mm [] Φ) (0, []) := by
  have hw := hist_wr hz
  refine LoopW.upT h.Writes.length (fun k => ((k : Int), selL k (needB h im))) rfl (fun k rec hk hr => ⟨fun _ => ⟨fun q => ?_, fun q => ⟨iI (by omega) (by omega), hr _ ?_⟩⟩, fun r => absurd (show (k : Int) < (h.Writes.length : Int) by omega) r⟩) fun rec => ⟨fun r => absurd r (by show ¬ ((h.Writes.length : Int) < (h.Writes.length : Int)); omega), fun _ => ?_⟩
  · have sl := selL_len (n := k) (p := needB h im)
    have e : selL k (needB h im) ++ [(k : Int)] = selL (k + 1) (needB h im) := by rw [selL_succ, if_pos ((hm k hk).1 q)]
    refine ⟨⟨?_, ?_⟩, iI (by omega) (by omega), hr _ (by rw [e]; rfl)⟩
    · show (selL k (needB h im) ++ [(k : Int)]).length * 8 ≤ _
      rw [List.length_append, List.length_singleton]; omega
    · show (selL k (needB h im) ++ [(k : Int)]).length ≤ maxLen
      rw [List.length_append, List.length_singleton]; unfold maxLen; omega
  · rw [selL_succ, if_neg fun t => q ((hm k hk).2 t), List.append_nil]; rfl
  · have sl := selL_len (n := h.Writes.length) (p := needB h im)
    have er : leastR h (needL h im) = (lowH h im, 0) := by
      unfold leastR
      rw [if_neg (fun t => t hz), if_neg (by rw [needL_set]; simp)]; rfl
    refine cut_Least_eq hh (by omega) er ⟨fun r => absurd rfl r, fun _ => ?_⟩
    have ll : (lowH h im).length ≤ 1000000 := by rw [lowH_sel]; have := selL_len (n := h.Writes.length) (p := lowC h (needL h im)); omega
    exact history_Image_ok hh ll (fun _ _ => ⟨fun r => absurd rfl r, fun _ => find_dif hz hi hs kD kN⟩) (fun r => absurd hz r) fun _ r => by rw [lowH_set] at r; exact Bool.noConfusion r
theorem find_unk {h : api_History} {im : List (List Sec)} {m : List (consistency_content × Int)} {Φ : List Int × Bool × Int → Prop} (hh : SmallH h) (hz : histE h = 0) (hi : imgE im = 0) (hs : szs im = h.Sizes) (hm : AutM h m)
    (kU : ∀ (v k : Nat) mm, v < im.length → k < szN im v → unkV h im = (v : Int) → unkK h im = (k : Int) → unkB h im v k = true → Z69 h im Φ (true, (v : Int), (k : Int), mm, [sec im v k]))
    (kD : unkV h im = -1 → ∀ v k : Nat, v < im.length → k < szN im v → difV h im = (v : Int) → difK h im = (k : Int) → sec (ximH h im) v k ≠ sec im v k → Z65 (lowH h im, 0) Φ (true, (v : Int), (k : Int), [sec (ximH h im) v k]))
    (kN : unkV h im = -1 → difV h im = -1 → Z65 (lowH h im, 0) Φ (false, 0, 0, [])) : LoopW (Z71 h im m Φ) (0, []) := by
  have sm := fit_small (im := im) (by rw [show sizesE (szs im) = 0 from hi]; simp)
  refine nestS (inn := fun v rec => Z70 h im m (v : Int) rec Φ) im.length (szN im) (unkB h im) (fun v k mm => ∀ w : Nat, mget mm (w : Int) false = true ↔ NeedBy h im v k w) (fun w => ⟨fun t => Bool.noConfusion t, fun t => absurd t NeedBy.zero⟩)
    (fun v a hv ha w => (ha w).trans NeedBy.row.symm) (fun v a rec hv hl => ⟨fun _ => ⟨iX (by omega) (by omega), hl⟩, fun r => absurd (show (v : Int) < (im.length : Int) by omega) r⟩) ?_ ?_ ?_
  · intro v k mm rec rec' hv hk hp hq hI hr
    have sv := (sm.2.2 v hv).2
    have hk' : k < (ix im (v : Int)).length := hk
    refine ⟨fun _ => ⟨iX (by omega) (by omega), fun z => ⟨iI (by omega) (by omega), hr ?_ mm fun w => (hI w).trans (NeedBy.skip z).symm⟩, fun z => ⟨fun q => ?_, fun q => ?_⟩⟩, fun r => absurd (show (k : Int) < ((ix im (v : Int)).length : Int) by omega) r⟩
    · unfold unkB
      rw [decide_eq_false (fun t => t z)]; rfl
    · have hb : unkB h im v k = true := by
        unfold unkB
        rw [Bool.and_eq_true, decide_eq_true_iff, decide_eq_true_iff]
        refine ⟨z, ?_⟩
        have := fun t => q (hm.has.2 t)
        show autC h (v : Int) (k : Int) (sec im v k) < 0
        have t2 : ¬ 0 ≤ autC h (v : Int) (k : Int) (sec im v k) := this
        omega
      have hh := fst_hit hv hk hp hq hb
      exact kU v k mm hv hk hh.1 hh.2 hb
    · have q1 : 0 ≤ autC h (v : Int) (k : Int) (sec im v k) := hm.has.1 (Classical.not_not.1 q)
      have q2 : mget m ⟨⟨(v : Int), (k : Int)⟩, sec im v k⟩ 0 = autC h (v : Int) (k : Int) (sec im v k) := hm.get q1
      refine ⟨iI (by omega) (by omega), hr ?_ _ fun w => ?_⟩
      · unfold unkB
        rw [decide_eq_false (show ¬ autC h (v : Int) (k : Int) (sec im v k) < 0 by omega), Bool.and_false]
      · show mget (mput mm (mget m ⟨⟨(v : Int), (k : Int)⟩, sec im v k⟩ 0) true) (w : Int) false = true ↔ _
        rw [mget_put, q2, NeedBy.take z, ← hI w]
        by_cases e : (w : Int) = autC h (v : Int) (k : Int) (sec im v k)
        · rw [if_pos e]; exact ⟨fun _ => .inr e.symm, fun _ => rfl⟩
        · rw [if_neg e]; exact ⟨.inl, fun t => t.elim id fun u => absurd u.symm e⟩
  · intro v a rec rec' hv hr
    have sv := (sm.2.2 v hv).2
    exact ⟨fun r => absurd r (by show ¬ ((szN im v : Int) < ((ix im (v : Int)).length : Int)); unfold szN; omega), fun _ => ⟨iI (by omega) (by omega), hr⟩⟩
  · intro mm rec hp hI
    exact ⟨fun r => absurd r (by show ¬ ((im.length : Int) < (im.length : Int)); omega), fun _ => ⟨fun r => Bool.noConfusion r, fun _ => find_ned hh hz hi hs (fun w _ => (hI w).trans NeedBy.all) (kD (fst_none hp)) (kN (fst_none hp))⟩⟩
theorem find_col {h : api_History} {im : List (List Sec)} {Φ : List Int × Bool × Int → Prop} (hz : histE h = 0) (kB : distB h = false → Φ (([] : List Int), false, 1))
    (kG : distB h = true → ∀ m, AutM h m → LoopW (Z71 h im m Φ) (0, [])) : LoopW (Z72 h im Φ) (0, []) := by
  have hn := hist_wr hz
  refine LoopW.upS h.Writes.length (fun s => s.1) (fun i s => (∀ j, j < i → okW h j = true) ∧ MapOk h i 0 s.2 ∧ ValOk h i 0 s.2) ?_ 0 rfl (Nat.zero_le _) ⟨fun j hj => absurd hj (Nat.not_lt_zero j), fun c => ⟨fun t => Bool.noConfusion t, fun ⟨j, q, h1, _⟩ => by omega⟩, fun c x t => by cases t⟩
  rintro i ⟨_, m⟩ rec hi rfl ⟨hI, hm, hv⟩ hrec
  refine ⟨fun r => ?_, fun r => ?_⟩
  · have hi : i < h.Writes.length := by omega
    have bad : okW h i = false → Φ (([] : List Int), false, 1) := fun t => kB (allN_false hi t)
    have fi := hist_fit hz hi
    refine ⟨iX (by omega) (by omega), ?_⟩
    refine LoopW.upS (wr h i).Data.length (fun s => s.1) (fun k s => (∀ j, j < k → okI h i j = true) ∧ MapOk h i k s.2 ∧ ValOk h i k s.2) ?_ 0 rfl (Nat.zero_le _) ⟨fun j hj => absurd hj (Nat.not_lt_zero j), hm, hv⟩
    rintro k ⟨_, m'⟩ rec3 hk rfl ⟨hJ, hm', hv'⟩ hrec3
    refine ⟨fun r3 => ?_, fun r3 => ?_⟩
    · have hk : k < (wr h i).Data.length := by exact_mod_cast r3
      have badk : okI h i k = false → Φ (([] : List Int), false, 1) := fun t => bad (allN_false hk t)
      have hno : Φ (([] : List Int), false, 1) → Z61 (i : Int) rec Φ (false, (mput m' (keyAt h i k) (i : Int))) := fun t => ⟨fun _ => ⟨fun _ => t, fun u => absurd (by decide) u⟩, fun u => absurd (fun v => Bool.noConfusion v) u⟩
      refine ⟨iX (by omega) (by exact_mod_cast hk), iI (by show _ ≤ (wr h i).Start + (k : Int); omega) (by show (wr h i).Start + (k : Int) ≤ _; omega), fun u => ⟨fun v => hno (badk ?_), fun v => ⟨iI (by omega) (by omega), hrec3 _ hk rfl ⟨fun j hj => ?_, hm'.put _, hv'.put⟩⟩⟩, fun u => hno (badk ?_)⟩
      · exact okI_zero (Classical.not_not.1 v)
      · rcases Nat.lt_or_ge j k with c | c
        · exact hJ j c
        · obtain rfl : j = k := by omega
          exact okI_iff.2 ⟨Classical.not_not.1 v, fun w => u ((hm' _).2 w)⟩
      · rw [Bool.eq_false_iff]
        exact fun w => (okI_iff.1 w).2 ((hm' _).1 (Classical.not_not.1 u))
    · have hk : k = (wr h i).Data.length := by
        have : ¬ ((k : Int) < ((wr h i).Data.length : Int)) := r3
        omega
      subst hk
      exact ⟨fun t => absurd rfl t, fun _ => ⟨iI (by omega) (by omega), hrec _ hi rfl ⟨fun j hj => by
        rcases Nat.lt_or_ge j i with c | c
        · exact hI j c
        · obtain rfl : j = i := by omega
          exact allN_true.2 hJ, hm'.next, hv'.next⟩⟩⟩
  · have e : i = h.Writes.length := by omega
    subst e
    have hd : distB h = true := allN_true.2 hI
    exact ⟨fun t => absurd rfl t, fun _ => kG hd m (AutM.of hd hm hv)⟩
theorem find_jdg {h : api_History} {im : List (List Sec)} {Φ : List Int × Bool × Int → Prop} (hh : SmallH h) (hl : im.length ≤ 100000) (kE : rgtE h im ≠ 0 → Φ (([] : List Int), false, rgtE h im))
    (kG : histE h = 0 → imgE im = 0 → szs im = h.Sizes → distB h = true → ∀ m, AutM h m → LoopW (Z71 h im m Φ) (0, [])) : Z75 h im Φ := by
  refine history_Check_ok hh ⟨fun q => ⟨fun _ => ?_, fun r => absurd q r⟩, fun q => ?_⟩
  · have e : rgtE h im = histE h := by unfold rgtE; rw [if_pos q]
    rw [e] at kE; exact kE q
  have hz : histE h = 0 := Classical.not_not.1 q
  refine image_Check_ok hl ⟨fun q2 => ⟨fun _ => ?_, fun r => absurd q2 r⟩, fun q2 => ?_⟩
  · have e : rgtE h im = imgE im := by unfold rgtE; rw [if_neg q, if_pos q2]
    rw [e] at kE; exact kE q2
  have hi : imgE im = 0 := Classical.not_not.1 q2
  have sm := fit_small (im := im) (by rw [show sizesE (szs im) = 0 from hi]; simp)
  have bad : szs im ≠ h.Sizes → Z73 h im Φ true := fun q3 => ⟨fun _ => ⟨fun _ => by
    have e : rgtE h im = 22 := by unfold rgtE; rw [if_neg q, if_neg q2, if_pos q3]
    rw [e] at kE; exact kE (by decide), fun r => absurd (by decide) r⟩, fun r => absurd rfl r⟩
  have good : szs im = h.Sizes → Z73 h im Φ false := fun q3 => ⟨fun r => Bool.noConfusion r, fun _ => find_col hz (fun q4 => by
    have e : rgtE h im = 1 := by unfold rgtE; rw [if_neg q, if_neg q2, if_neg (fun t => t q3), if_pos q4]
    rw [e] at kE; exact kE (by decide)) (kG hz hi q3)⟩
  refine ⟨fun r => bad fun t => r (by rw [← t, szs_len]), fun r => ?_⟩
  have hl2 : im.length = h.Sizes.length := by omega
  refine LoopW.upI im.length (fun k => (k : Int)) (fun k => ∀ j, j < k → ((ix im (j : Int)).length : Int) = ix h.Sizes (j : Int)) rfl (fun j hj => absurd hj (Nat.not_lt_zero j)) (fun k rec hk hI hr => ⟨fun _ => ⟨iX (by omega) (by omega), iX (by omega) (by omega), fun t => bad fun u => t (decide_eq_true ((szs_eq_iff hl2).1 u k hk)), fun t => ⟨iI (by omega) (by omega), hr (fun j hj => ?_) _ rfl⟩⟩, fun t => absurd (show (k : Int) < (im.length : Int) by omega) t⟩) fun rec hI => ⟨fun t => absurd t (by omega), fun _ => good ((szs_eq_iff hl2).2 hI)⟩
  rcases Nat.lt_or_ge j k with c | c
  · exact hI j c
  · obtain rfl : j = k := by omega
    exact of_decide_eq_true (Classical.not_not.1 t)
theorem newest_dif {h : api_History} {im : List (List Sec)} {m : List (consistency_content × Int)} {Φ : List Int × Bool × Int → Prop} (hz : histE h = 0) (hi : imgE im = 0) (hs : szs im = h.Sizes)
    (kD : ∀ v k : Nat, v < im.length → k < szN im v → difV h im = (v : Int) → difK h im = (k : Int) → sec (ximH h im) v k ≠ sec im v k → Z83 h im m Φ (true, (v : Int), (k : Int), [sec (ximH h im) v k]))
    (kN : difV h im = -1 → Z83 h im m Φ (false, 0, 0, [])) : LoopW (Z85 h im m false 0 0 [] (ximH h im, 0) Φ) 0 := by
  have ⟨el, es, en, sv0⟩ := xim_fact hz hi hs
  refine nestN (inn := fun v rec => Z84 h im m false 0 0 [] (ximH h im, 0) (v : Int) rec Φ) im.length (szN im) (difB (ximH h im) im) (fun v rec hv hl => ⟨fun _ => ⟨iX (by omega) (by show (v : Int) < ((ximH h im).length : Int); omega), hl⟩, fun r => absurd (show (v : Int) < ((ximH h im).length : Int) by omega) r⟩) ?_ ?_ ?_
  · intro v k rec rec' hv hk hp hq hr
    have e1 := en v hv
    have sv := sv0 v hv
    have hk' : k < (ix im (v : Int)).length := hk
    refine ⟨fun _ => ⟨iX (by omega) (by show (k : Int) < ((ix (ximH h im) (v : Int)).length : Int); omega), iX (by omega) (by omega), iX (by omega) (by omega), fun q => ?_, fun q => ⟨fun r => absurd (fun t => Bool.noConfusion t) r, fun _ => ⟨iI (by omega) (by omega), hr (decide_eq_false fun t => q t)⟩⟩⟩, fun r => absurd (show (k : Int) < ((ix (ximH h im) (v : Int)).length : Int) by omega) r⟩
    have hh := fst_hit hv hk hp hq (decide_eq_true q)
    exact kD v k hv hk hh.1 hh.2 q
  · intro v rec rec' hv hr
    have e1 := en v hv
    have sv := sv0 v hv
    exact ⟨fun r => absurd r (by show ¬ ((szN im v : Int) < ((ix (ximH h im) (v : Int)).length : Int)); omega), fun _ => ⟨iI (by omega) (by omega), hr⟩⟩
  · intro rec hp
    have nl : ¬ ((im.length : Int) < ((ximH h im).length : Int)) := by omega
    have nd : difV h im = -1 := fst_none hp
    exact ⟨fun r => absurd r nl, fun _ => kN nd⟩
theorem newest_ned {h : api_History} {im : List (List Sec)} {m : List (consistency_content × Int)} {Φ : List Int × Bool × Int → Prop} {mm : List (Int × Bool)} (hh : SmallH h) (hz : histE h = 0) (hi : imgE im = 0) (hs : szs im = h.Sizes)
    (hm : ∀ w, w < h.Writes.length → (mget mm (w : Int) false = true ↔ needB h im w = true))
    (kD : ∀ v k : Nat, v < im.length → k < szN im v → difV h im = (v : Int) → difK h im = (k : Int) → sec (ximH h im) v k ≠ sec im v k → Z83 h im m Φ (true, (v : Int), (k : Int), [sec (ximH h im) v k]))
    (kN : difV h im = -1 → Z83 h im m Φ (false, 0, 0, [])) : LoopW (Z86 h im m false 0 0 mm [] Φ) (0, []) := by
  have hw := hist_wr hz
  refine LoopW.upT h.Writes.length (fun k => ((k : Int), selL k (needB h im))) rfl (fun k rec hk hr => ⟨fun _ => ⟨fun q => ?_, fun q => ⟨iI (by omega) (by omega), hr _ ?_⟩⟩, fun r => absurd (show (k : Int) < (h.Writes.length : Int) by omega) r⟩) fun rec => ⟨fun r => absurd r (by show ¬ ((h.Writes.length : Int) < (h.Writes.length : Int)); omega), fun _ => ?_⟩
  · have sl := selL_len (n := k) (p := needB h im)
    have e : selL k (needB h im) ++ [(k : Int)] = selL (k + 1) (needB h im) := by rw [selL_succ, if_pos ((hm k hk).1 q)]
    refine ⟨⟨?_, ?_⟩, iI (by omega) (by omega), hr _ (by rw [e]; rfl)⟩
    · show (selL k (needB h im) ++ [(k : Int)]).length * 8 ≤ _
      rw [List.length_append, List.length_singleton]; omega
    · show (selL k (needB h im) ++ [(k : Int)]).length ≤ maxLen
      rw [List.length_append, List.length_singleton]; unfold maxLen; omega
  · rw [selL_succ, if_neg fun t => q ((hm k hk).2 t), List.append_nil]; rfl
  · have sl := selL_len (n := h.Writes.length) (p := needB h im)
    have er : leastR h (needL h im) = (lowH h im, 0) := by
      unfold leastR
      rw [if_neg (fun t => t hz), if_neg (by rw [needL_set]; simp)]; rfl
    refine cut_Least_eq hh (by omega) er ⟨fun r => absurd rfl r, fun _ => ?_⟩
    have ll : (lowH h im).length ≤ 1000000 := by rw [lowH_sel]; have := selL_len (n := h.Writes.length) (p := lowC h (needL h im)); omega
    exact history_Image_ok hh ll (fun _ _ => ⟨fun r => absurd rfl r, fun _ => newest_dif hz hi hs kD kN⟩) (fun r => absurd hz r) fun _ r => by rw [lowH_set] at r; exact Bool.noConfusion r
theorem newest_unk {h : api_History} {im : List (List Sec)} {m : List (consistency_content × Int)} {Φ : List Int × Bool × Int → Prop} (hh : SmallH h) (hz : histE h = 0) (hi : imgE im = 0) (hs : szs im = h.Sizes) (hm : AutM h m)
    (kU : ∀ (v k : Nat) mm, v < im.length → k < szN im v → unkV h im = (v : Int) → unkK h im = (k : Int) → unkB h im v k = true → Z87 h im m Φ (true, (v : Int), (k : Int), mm, [sec im v k]))
    (kD : unkV h im = -1 → ∀ v k : Nat, v < im.length → k < szN im v → difV h im = (v : Int) → difK h im = (k : Int) → sec (ximH h im) v k ≠ sec im v k → Z83 h im m Φ (true, (v : Int), (k : Int), [sec (ximH h im) v k]))
    (kN : unkV h im = -1 → difV h im = -1 → Z83 h im m Φ (false, 0, 0, [])) : LoopW (Z89 h im m Φ) (0, []) := by
  have sm := fit_small (im := im) (by rw [show sizesE (szs im) = 0 from hi]; simp)
  refine nestS (inn := fun v rec => Z88 h im m (v : Int) rec Φ) im.length (szN im) (unkB h im) (fun v k mm => ∀ w : Nat, mget mm (w : Int) false = true ↔ NeedBy h im v k w) (fun w => ⟨fun t => Bool.noConfusion t, fun t => absurd t NeedBy.zero⟩)
    (fun v a hv ha w => (ha w).trans NeedBy.row.symm) (fun v a rec hv hl => ⟨fun _ => ⟨iX (by omega) (by omega), hl⟩, fun r => absurd (show (v : Int) < (im.length : Int) by omega) r⟩) ?_ ?_ ?_
  · intro v k mm rec rec' hv hk hp hq hI hr
    have sv := (sm.2.2 v hv).2
    have hk' : k < (ix im (v : Int)).length := hk
    refine ⟨fun _ => ⟨iX (by omega) (by omega), fun z => ⟨iI (by omega) (by omega), hr ?_ mm fun w => (hI w).trans (NeedBy.skip z).symm⟩, fun z => ⟨fun q => ?_, fun q => ?_⟩⟩, fun r => absurd (show (k : Int) < ((ix im (v : Int)).length : Int) by omega) r⟩
    · unfold unkB
      rw [decide_eq_false (fun t => t z)]; rfl
    · have hb : unkB h im v k = true := by
        unfold unkB
        rw [Bool.and_eq_true, decide_eq_true_iff, decide_eq_true_iff]
        refine ⟨z, ?_⟩
        have := fun t => q (hm.has.2 t)
        show autC h (v : Int) (k : Int) (sec im v k) < 0
        have t2 : ¬ 0 ≤ autC h (v : Int) (k : Int) (sec im v k) := this
        omega
      have hh := fst_hit hv hk hp hq hb
      exact kU v k mm hv hk hh.1 hh.2 hb
    · have q1 : 0 ≤ autC h (v : Int) (k : Int) (sec im v k) := hm.has.1 (Classical.not_not.1 q)
      have q2 : mget m ⟨⟨(v : Int), (k : Int)⟩, sec im v k⟩ 0 = autC h (v : Int) (k : Int) (sec im v k) := hm.get q1
      refine ⟨iI (by omega) (by omega), hr ?_ _ fun w => ?_⟩
      · unfold unkB
        rw [decide_eq_false (show ¬ autC h (v : Int) (k : Int) (sec im v k) < 0 by omega), Bool.and_false]
      · show mget (mput mm (mget m ⟨⟨(v : Int), (k : Int)⟩, sec im v k⟩ 0) true) (w : Int) false = true ↔ _
        rw [mget_put, q2, NeedBy.take z, ← hI w]
        by_cases e : (w : Int) = autC h (v : Int) (k : Int) (sec im v k)
        · rw [if_pos e]; exact ⟨fun _ => .inr e.symm, fun _ => rfl⟩
        · rw [if_neg e]; exact ⟨.inl, fun t => t.elim id fun u => absurd u.symm e⟩
  · intro v a rec rec' hv hr
    have sv := (sm.2.2 v hv).2
    exact ⟨fun r => absurd r (by show ¬ ((szN im v : Int) < ((ix im (v : Int)).length : Int)); unfold szN; omega), fun _ => ⟨iI (by omega) (by omega), hr⟩⟩
  · intro mm rec hp hI
    exact ⟨fun r => absurd r (by show ¬ ((im.length : Int) < (im.length : Int)); omega), fun _ => ⟨fun r => Bool.noConfusion r, fun _ => newest_ned hh hz hi hs (fun w _ => (hI w).trans NeedBy.all) (kD (fst_none hp)) (kN (fst_none hp))⟩⟩
theorem newest_col {h : api_History} {im : List (List Sec)} {Φ : List Int × Bool × Int → Prop} (hz : histE h = 0) (kB : distB h = false → Φ (([] : List Int), false, 1))
    (kG : distB h = true → ∀ m, AutM h m → LoopW (Z89 h im m Φ) (0, [])) : LoopW (Z90 h im Φ) (0, []) := by
  have hn := hist_wr hz
  refine LoopW.upS h.Writes.length (fun s => s.1) (fun i s => (∀ j, j < i → okW h j = true) ∧ MapOk h i 0 s.2 ∧ ValOk h i 0 s.2) ?_ 0 rfl (Nat.zero_le _) ⟨fun j hj => absurd hj (Nat.not_lt_zero j), fun c => ⟨fun t => Bool.noConfusion t, fun ⟨j, q, h1, _⟩ => by omega⟩, fun c x t => by cases t⟩
  rintro i ⟨_, m⟩ rec hi rfl ⟨hI, hm, hv⟩ hrec
  refine ⟨fun r => ?_, fun r => ?_⟩
  · have hi : i < h.Writes.length := by omega
    have bad : okW h i = false → Φ (([] : List Int), false, 1) := fun t => kB (allN_false hi t)
    have fi := hist_fit hz hi
    refine ⟨iX (by omega) (by omega), ?_⟩
    refine LoopW.upS (wr h i).Data.length (fun s => s.1) (fun k s => (∀ j, j < k → okI h i j = true) ∧ MapOk h i k s.2 ∧ ValOk h i k s.2) ?_ 0 rfl (Nat.zero_le _) ⟨fun j hj => absurd hj (Nat.not_lt_zero j), hm, hv⟩
    rintro k ⟨_, m'⟩ rec3 hk rfl ⟨hJ, hm', hv'⟩ hrec3
    refine ⟨fun r3 => ?_, fun r3 => ?_⟩
    · have hk : k < (wr h i).Data.length := by exact_mod_cast r3
      have badk : okI h i k = false → Φ (([] : List Int), false, 1) := fun t => bad (allN_false hk t)
      have hno : Φ (([] : List Int), false, 1) → Z76 (i : Int) rec Φ (false, (mput m' (keyAt h i k) (i : Int))) := fun t => ⟨fun _ => ⟨fun _ => t, fun u => absurd (by decide) u⟩, fun u => absurd (fun v => Bool.noConfusion v) u⟩
      refine ⟨iX (by omega) (by exact_mod_cast hk), iI (by show _ ≤ (wr h i).Start + (k : Int); omega) (by show (wr h i).Start + (k : Int) ≤ _; omega), fun u => ⟨fun v => hno (badk ?_), fun v => ⟨iI (by omega) (by omega), hrec3 _ hk rfl ⟨fun j hj => ?_, hm'.put _, hv'.put⟩⟩⟩, fun u => hno (badk ?_)⟩
      · exact okI_zero (Classical.not_not.1 v)
      · rcases Nat.lt_or_ge j k with c | c
        · exact hJ j c
        · obtain rfl : j = k := by omega
          exact okI_iff.2 ⟨Classical.not_not.1 v, fun w => u ((hm' _).2 w)⟩
      · rw [Bool.eq_false_iff]
        exact fun w => (okI_iff.1 w).2 ((hm' _).1 (Classical.not_not.1 u))
    · have hk : k = (wr h i).Data.length := by
        have : ¬ ((k : Int) < ((wr h i).Data.length : Int)) := r3
        omega
      subst hk
      exact ⟨fun t => absurd rfl t, fun _ => ⟨iI (by omega) (by omega), hrec _ hi rfl ⟨fun j hj => by
        rcases Nat.lt_or_ge j i with c | c
        · exact hI j c
        · obtain rfl : j = i := by omega
          exact allN_true.2 hJ, hm'.next, hv'.next⟩⟩⟩
  · have e : i = h.Writes.length := by omega
    subst e
    have hd : distB h = true := allN_true.2 hI
    exact ⟨fun t => absurd rfl t, fun _ => kG hd m (AutM.of hd hm hv)⟩
theorem newest_jdg {h : api_History} {im : List (List Sec)} {Φ : List Int × Bool × Int → Prop} (hh : SmallH h) (hl : im.length ≤ 100000) (kE : rgtE h im ≠ 0 → Φ (([] : List Int), false, rgtE h im))
    (kG : histE h = 0 → imgE im = 0 → szs im = h.Sizes → distB h = true → ∀ m, AutM h m → LoopW (Z89 h im m Φ) (0, [])) : Z93 h im Φ := by
  refine history_Check_ok hh ⟨fun q => ⟨fun _ => ?_, fun r => absurd q r⟩, fun q => ?_⟩
  · have e : rgtE h im = histE h := by unfold rgtE; rw [if_pos q]
    rw [e] at kE; exact kE q
  have hz : histE h = 0 := Classical.not_not.1 q
  refine image_Check_ok hl ⟨fun q2 => ⟨fun _ => ?_, fun r => absurd q2 r⟩, fun q2 => ?_⟩
  · have e : rgtE h im = imgE im := by unfold rgtE; rw [if_neg q, if_pos q2]
    rw [e] at kE; exact kE q2
  have hi : imgE im = 0 := Classical.not_not.1 q2
  have sm := fit_small (im := im) (by rw [show sizesE (szs im) = 0 from hi]; simp)
  have bad : szs im ≠ h.Sizes → Z91 h im Φ true := fun q3 => ⟨fun _ => ⟨fun _ => by
    have e : rgtE h im = 22 := by unfold rgtE; rw [if_neg q, if_neg q2, if_pos q3]
    rw [e] at kE; exact kE (by decide), fun r => absurd (by decide) r⟩, fun r => absurd rfl r⟩
  have good : szs im = h.Sizes → Z91 h im Φ false := fun q3 => ⟨fun r => Bool.noConfusion r, fun _ => newest_col hz (fun q4 => by
    have e : rgtE h im = 1 := by unfold rgtE; rw [if_neg q, if_neg q2, if_neg (fun t => t q3), if_pos q4]
    rw [e] at kE; exact kE (by decide)) (kG hz hi q3)⟩
  refine ⟨fun r => bad fun t => r (by rw [← t, szs_len]), fun r => ?_⟩
  have hl2 : im.length = h.Sizes.length := by omega
  refine LoopW.upI im.length (fun k => (k : Int)) (fun k => ∀ j, j < k → ((ix im (j : Int)).length : Int) = ix h.Sizes (j : Int)) rfl (fun j hj => absurd hj (Nat.not_lt_zero j)) (fun k rec hk hI hr => ⟨fun _ => ⟨iX (by omega) (by omega), iX (by omega) (by omega), fun t => bad fun u => t (decide_eq_true ((szs_eq_iff hl2).1 u k hk)), fun t => ⟨iI (by omega) (by omega), hr (fun j hj => ?_) _ rfl⟩⟩, fun t => absurd (show (k : Int) < (im.length : Int) by omega) t⟩) fun rec hI => ⟨fun t => absurd t (by omega), fun _ => good ((szs_eq_iff hl2).2 hI)⟩
  rcases Nat.lt_or_ge j k with c | c
  · exact hI j c
  · obtain rfl : j = k := by omega
    exact of_decide_eq_true (Classical.not_not.1 t)
theorem sel_room {n k : Nat} {p : Nat → Bool} (hk : k < n) (hn : n ≤ 4096) : lenOk (selL k p ++ ([(k : Int)] : List Int)).length 8 := by
  have := selL_len (n := k) (p := p)
  refine ⟨?_, ?_⟩
  · rw [List.length_append, List.length_singleton]; omega
  · rw [List.length_append, List.length_singleton]; unfold maxLen; omega
theorem rgtE_zero {h : api_History} {im : List (List Sec)} (e : rgtE h im = 0) : histE h = 0 ∧ imgE im = 0 ∧ szs im = h.Sizes ∧ distB h = true := by
  unfold rgtE at e
  by_cases q : histE h ≠ 0
  · rw [if_pos q] at e; exact absurd e q
  rw [if_neg q] at e
  by_cases q2 : imgE im ≠ 0
  · rw [if_pos q2] at e; exact absurd e q2
  rw [if_neg q2] at e
  by_cases q3 : szs im ≠ h.Sizes
  · rw [if_pos q3] at e; exact absurd e (by decide)
  rw [if_neg q3] at e
  by_cases q4 : distB h = false
  · rw [if_pos q4] at e; exact absurd e (by decide)
  · exact ⟨Classical.not_not.1 q, Classical.not_not.1 q2, Classical.not_not.1 q3, Bool.of_not_eq_false q4⟩
theorem consistency_Find_ok {h : api_History} {im : List (List Sec)} {Φ : List Int × Bool × Int → Prop} (hh : SmallH h) (hl : im.length ≤ 100000) (hΦ : Φ (findR h im)) : Z75 h im Φ := by
  unfold findR at hΦ
  refine find_jdg hh hl (fun q => by rw [if_pos q] at hΦ; exact hΦ) fun hz hi hs hd m hm => ?_
  have e0 : rgtE h im = 0 := by unfold rgtE; rw [if_neg (fun t => t hz), if_neg (fun t => t hi), if_neg (fun t => t hs), if_neg (by rw [hd]; simp)]
  rw [if_neg (fun t => t e0)] at hΦ
  unfold cflB at hΦ
  refine find_unk hh hz hi hs hm (fun v k mm _ _ e1 e2 _ => ⟨fun _ => ⟨fun r => absurd rfl r, fun _ => ⟨fun _ => ?_, fun r => absurd rfl r⟩⟩, fun r => absurd rfl r⟩) (fun n v k _ _ e1 e2 _ => ⟨fun r => absurd rfl r, fun _ => ⟨fun _ => ?_, fun r => absurd rfl r⟩⟩) fun n d => ⟨fun r => absurd rfl r, fun _ => ⟨fun r => Bool.noConfusion r, fun _ => ?_⟩⟩
  · rw [if_pos (decide_eq_true (.inl (by omega)))] at hΦ; exact hΦ
  · rw [if_pos (decide_eq_true (.inr (by omega)))] at hΦ; exact hΦ
  · rw [if_neg (by rw [decide_eq_false (by omega)]; simp)] at hΦ; exact hΦ
theorem ref07_Few_ok {im : List (List Sec)} {Φ : Bool → Prop} (hF : Φ false) (hT : im.length ≤ 9 → Φ true) : ref07_Few_W im Φ := by
  refine ⟨fun _ => hF, fun h9 => ?_⟩
  exact LoopW.upT im.length (fun k => (k : Int)) rfl (fun k rec hk hr => ⟨fun hlt => ⟨iX (by omega) hlt, fun _ => hF, fun q => ⟨iI (by omega) (by omega), hr _ rfl⟩⟩, fun r => absurd (show (k : Int) < (im.length : Int) by omega) r⟩) fun rec => ⟨fun r => absurd r (by omega), fun _ => hT (by omega)⟩
theorem law18_few_ok {h : api_History} {im : List (List Sec)} {Φ : Bool → Prop} (hF : Φ false) (hT : SmallH h → h.Writes.length ≤ 40 → im.length ≤ 9 → Φ true) : law18_few_W h im Φ :=
  ref15_Few_ok ⟨fun q => by
    have hf := fewH_small q
    exact ref07_Few_ok hF fun h9 => hT hf.1 hf.2 h9, fun _ => hF⟩
end Go.Proofs.YtpmjodnmnffmhaaGreatDoor
