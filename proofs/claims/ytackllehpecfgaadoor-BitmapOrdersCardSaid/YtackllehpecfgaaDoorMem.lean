/- Memory: a list of known blocks of the call's own, beside a heap of blocks that nobody writes any more; data that reads off that heap; what a call owes its caller. -/
import Derived.Test.YtackllehpecfgaaDoorOps
namespace Go.Proofs.YtackllehpecfgaaDoor
open Go.RowKit

/-! ### The heap of what is not written any more -/
def Hp : Type := Nat → Option Obj
def Hp.le (H H' : Hp) : Prop := ∀ b o, H b = some o → H' b = some o
theorem Hp.le.refl (H : Hp) : H.le H := fun _ _ h => h
theorem Hp.le.trans {A B C : Hp} (h : A.le B) (k : B.le C) : A.le C := fun b o e => k b o (h b o e)
def Hp.put (H : Hp) (b : Nat) (o : Obj) : Hp := fun k => bif Nat.beq k b then some o else H k
theorem Hp.put_same (H : Hp) (b : Nat) (o : Obj) : H.put b o b = some o := by simp [Hp.put, Nat.beq_refl]
theorem Hp.put_ne (H : Hp) {b k : Nat} (o : Obj) (h : k ≠ b) : H.put b o k = H k := by
  have : Nat.beq k b = false := by
    cases hx : Nat.beq k b with
    | true => exact absurd (Nat.eq_of_beq_eq_true hx) h
    | false => rfl
  simp [Hp.put, this]
theorem Hp.le_put {H : Hp} {b : Nat} {o : Obj} (h : H b = none) : H.le (H.put b o) := fun k u hk => by
  rw [Hp.put_ne H o (by rintro rfl; rw [h] at hk; cases hk)]
  exact hk

/-! ### Known blocks of the call's own -/
inductive Ent where
  | box (b : Nat) (T : TypeId) (cs : List Value)
  | row (v : Value) (T : TypeId) (sz n : Nat) (cs : List Value)
  | obj (b : Nat) (o : Obj)

def Ent.blk : Ent → Option Nat
  | .box b _ _ => some b
  | .obj b _ => some b
  | .row v _ _ _ _ => v.ownBlock

def Ent.holds (n0 : Nat) (w : World) : Ent → Prop
  | .box b T cs => n0 ≤ b ∧ w.heap[b]? = some (.cells cs.toArray T (0, 0))
  | .row v T sz n cs => w.ownsRow n0 T sz v n cs
  | .obj b o => n0 ≤ b ∧ w.heap[b]? = some o

def Apart (L : List Ent) : Prop := L.Pairwise fun E E' => ∀ b, E.blk = some b → E'.blk ≠ some b

structure Mem (w0 : World) (H0 : Hp) (w : World) (H : Hp) (L : List Ent) : Prop where
  below : Below w0.heap.size w0 w
  old : H0.le H
  fresh : ∀ b, H b ≠ none → H0 b ≠ none ∨ w0.heap.size ≤ b
  agree : ∀ b o, H b = some o → w.heap[b]? = some o
  holds : ∀ E ∈ L, E.holds w0.heap.size w
  apart : Apart L
  hapart : ∀ E ∈ L, ∀ b, E.blk = some b → H b = none

theorem lt_of_heap {w : World} {b : Nat} {o : Obj} (h : w.heap[b]? = some o) : b < w.heap.size := (Array.getElem?_eq_some_iff.1 h).1

theorem Ent.blk_lt {n0 : Nat} {w : World} {E : Ent} (h : E.holds n0 w) {b : Nat} (hb : E.blk = some b) : n0 ≤ b ∧ b < w.heap.size := by
  cases E with
  | box b' T cs =>
    obtain ⟨h1, h2⟩ := h
    obtain rfl : b' = b := Option.some.inj hb
    exact ⟨h1, lt_of_heap h2⟩
  | row v T sz n cs => exact World.ownsRow.lt h b hb
  | obj b' o =>
    obtain ⟨h1, h2⟩ := h
    obtain rfl : b' = b := Option.some.inj hb
    exact ⟨h1, lt_of_heap h2⟩

theorem ownsRow_of_block {w w' : World} {base : Nat} {e : TypeId} {size : Nat} {v : Value} {n : Nat} {xs : List Value} (h : w.ownsRow base e size v n xs) (hk : ∀ b, v.ownBlock = some b → w'.heap[b]? = w.heap[b]?) : w'.ownsRow base e size v n xs := by
  obtain ⟨h1, h2⟩ := h
  refine ⟨h1, ?_⟩
  rcases h2 with h2 | ⟨g, cap, cur, hv, hg, hh, rest⟩
  · exact .inl h2
  · exact .inr ⟨g, cap, cur, hv, hg, by rw [hk g (by rw [hv]; rfl)]; exact hh, rest⟩

theorem Ent.keep {n0 : Nat} {w w' : World} {E : Ent} (h : E.holds n0 w) (hk : ∀ b, E.blk = some b → w'.heap[b]? = w.heap[b]?) : E.holds n0 w' := by
  cases E with
  | box b T cs => exact ⟨h.1, (hk b rfl).trans h.2⟩
  | obj b o => exact ⟨h.1, (hk b rfl).trans h.2⟩
  | row v T sz n cs => exact ownsRow_of_block h hk

section
variable {w0 w w' : World} {H0 H H' : Hp} {L L' : List Ent}

theorem Mem.start (hH : ∀ b o, H b = some o → w.heap[b]? = some o) : Mem w H w H [] :=
  ⟨Below.refl _ _, Hp.le.refl _, fun _ h => .inl h, hH, by simp, List.Pairwise.nil, by simp⟩

/-- A step that leaves what is known alone. -/
theorem Mem.frame (h : Mem w0 H0 w H L) (hb : Below w.heap.size w w') : Mem w0 H0 w' H L :=
  ⟨h.below.trans (hb.mono h.below.size), h.old, h.fresh, fun b o e => (hb.block b (lt_of_heap (h.agree b o e))).trans (h.agree b o e),
    fun E hE => Ent.keep (h.holds E hE) fun b e => hb.block b (Ent.blk_lt (h.holds E hE) e).2, h.apart, h.hapart⟩

theorem Mem.drew (h : Mem w0 H0 w H L) : Mem w0 H0 w.drew H L := h.frame (Below.refl _ _).drew
theorem Mem.alloc (h : Mem w0 H0 w H L) (o : Obj) : Mem w0 H0 (w.alloc o) H L := h.frame ((Below.refl _ _).alloc (Nat.le_refl _) o)

/-- A new box. -/
theorem Mem.box (h : Mem w0 H0 w H L) (cs : List Value) (T : TypeId) : Mem w0 H0 (w.alloc (.cells cs.toArray T)) H (.box w.heap.size T cs :: L) := by
  have h' := h.alloc (.cells cs.toArray T)
  refine ⟨h'.below, h'.old, h'.fresh, h'.agree, ?_, ?_, ?_⟩
  · intro E hE
    rcases List.mem_cons.1 hE with rfl | hE
    · exact ⟨h.below.size, heap_alloc_new w _⟩
    · exact h'.holds E hE
  · refine List.Pairwise.cons ?_ h.apart
    intro E hE b e1 e2
    obtain rfl : w.heap.size = b := Option.some.inj e1
    have := (Ent.blk_lt (h.holds E hE) e2).2
    omega
  · intro E hE b e
    rcases List.mem_cons.1 hE with rfl | hE
    · obtain rfl : w.heap.size = b := Option.some.inj e
      cases hx : H w.heap.size with
      | none => rfl
      | some o => have := lt_of_heap (h.agree _ _ hx); omega
    · exact h.hapart E hE b e

/-- A new heap above. -/
theorem Mem.call (h : Mem w0 H0 w H L) (hle : H.le H') (hag : ∀ b o, H' b = some o → w'.heap[b]? = some o) (hfr : ∀ b, H' b ≠ none → H b ≠ none ∨ w.heap.size ≤ b) (hb : Below w.heap.size w w') : Mem w0 H0 w' H' L := by
  have h' := h.frame hb
  refine ⟨h'.below, h.old.trans hle, ?_, hag, h'.holds, h.apart, ?_⟩
  · intro b hb'
    rcases hfr b hb' with h1 | h1
    · exact h.fresh b h1
    · exact .inr (Nat.le_trans h.below.size h1)
  · intro E hE b e
    cases hx : H' b with
    | none => rfl
    | some o =>
      rcases hfr b (by rw [hx]; simp) with h1 | h1
      · exact absurd (h.hapart E hE b e) h1
      · have := (Ent.blk_lt (h.holds E hE) e).2
        omega

/-- Less is known. -/
theorem Mem.sub (h : Mem w0 H0 w H L) (hs : L'.Sublist L) : Mem w0 H0 w H L' :=
  ⟨h.below, h.old, h.fresh, h.agree, fun E hE => h.holds E (hs.subset hE), h.apart.sublist hs, fun E hE => h.hapart E (hs.subset hE)⟩

theorem Mem.lower (h : Mem w0 H0 w H L) (h0 : H0.le H') (hle : H'.le H) : Mem w0 H0 w H' L :=
  ⟨h.below, h0, fun b hb => by
      cases hx : H' b with
      | none => exact absurd hx hb
      | some o => exact h.fresh b (by rw [hle b o hx]; simp),
    fun b o e => h.agree b o (hle b o e), h.holds, h.apart, fun E hE b e => by
      cases hx : H' b with
      | none => rfl
      | some o => have := h.hapart E hE b e; rw [hle b o hx] at this; cases this⟩

theorem apart_of_get {k : Nat} {E E' : Ent} {j : Nat} (ha : Apart L) (hk : L[k]? = some E) (hj : L[j]? = some E') (hne : j ≠ k) {b : Nat} (h1 : E.blk = some b) (h2 : E'.blk = some b) : False := by
  have hkl : k < L.length := (List.getElem?_eq_some_iff.1 hk).1
  have hjl : j < L.length := (List.getElem?_eq_some_iff.1 hj).1
  have e1 : L[k] = E := (List.getElem?_eq_some_iff.1 hk).2
  have e2 : L[j] = E' := (List.getElem?_eq_some_iff.1 hj).2
  rcases Nat.lt_or_ge j k with h | h
  · exact List.pairwise_iff_getElem.1 ha j k hjl hkl h b (by rw [e2]; exact h2) (by rw [e1]; exact h1)
  · exact List.pairwise_iff_getElem.1 ha k j hkl hjl (by omega) b (by rw [e1]; exact h1) (by rw [e2]; exact h2)

/-- Entry k turns, and no other block that was there: its block may be another, but then a new one. -/
theorem Mem.turn (h : Mem w0 H0 w H L) (k : Nat) {E E' : Ent} (hk : L[k]? = some E) (hg : w.grownBy w' E.blk) (hE : E'.holds w0.heap.size w') (hbl : E'.blk = E.blk ∨ ∀ b, E'.blk = some b → w.heap.size ≤ b) : Mem w0 H0 w' H (L.set k E') := by
  have hkl : k < L.length := (List.getElem?_eq_some_iff.1 hk).1
  have hEm : E ∈ L := List.mem_of_getElem? hk
  have hlt := fun b hb => Ent.blk_lt (h.holds E hEm) (b := b) hb
  have hb0 : Below w0.heap.size w0 w' := h.below.grown hg h.below.size fun b hb => (hlt b hb).1
  have get : ∀ (j : Nat) (X : Ent), (L.set k E')[j]? = some X → (j = k ∧ X = E') ∨ (j ≠ k ∧ L[j]? = some X) := by
    intro j X hj
    by_cases hjk : j = k
    · subst hjk
      rw [List.getElem?_set_self hkl] at hj
      exact .inl ⟨rfl, (Option.some.inj hj).symm⟩
    · rw [List.getElem?_set_ne (by omega)] at hj
      exact .inr ⟨hjk, hj⟩
  have old : ∀ (j : Nat) (X : Ent), j ≠ k → L[j]? = some X → ∀ b, X.blk = some b → w'.heap[b]? = w.heap[b]? := by
    intro j X hjk hj b hb
    refine hg.block b (Ent.blk_lt (h.holds X (List.mem_of_getElem? hj)) hb).2 ?_
    intro e
    exact apart_of_get h.apart hk hj hjk e.symm hb
  have ne : ∀ (j : Nat) (X : Ent), j ≠ k → L[j]? = some X → ∀ b, E'.blk = some b → X.blk ≠ some b := by
    intro j X hjk hj b h1 h2
    rcases hbl with h3 | h3
    · exact apart_of_get h.apart hk hj hjk (h3 ▸ h1) h2
    · have := (Ent.blk_lt (h.holds X (List.mem_of_getElem? hj)) h2).2
      have := h3 b h1
      omega
  refine ⟨hb0, h.old, h.fresh, ?_, ?_, ?_, ?_⟩
  · intro b o e
    refine (hg.block b (lt_of_heap (h.agree b o e)) ?_).trans (h.agree b o e)
    intro e2
    have := h.hapart E hEm b e2.symm
    rw [e] at this
    cases this
  · intro X hX
    obtain ⟨j, hj⟩ := List.getElem?_of_mem hX
    rcases get j X hj with ⟨rfl, rfl⟩ | ⟨hjk, hj⟩
    · exact hE
    · exact Ent.keep (h.holds X (List.mem_of_getElem? hj)) (old j X hjk hj)
  · refine List.pairwise_iff_getElem.2 ?_
    intro i j hi hj hij b h1 h2
    rcases get i _ (List.getElem?_eq_getElem hi) with ⟨hik, e1⟩ | ⟨hik, e1⟩ <;> rcases get j _ (List.getElem?_eq_getElem hj) with ⟨hjk, e2⟩ | ⟨hjk, e2⟩
    · omega
    · rw [e1] at h1; exact ne j _ hjk e2 b h1 h2
    · rw [e2] at h2; exact ne i _ hik e1 b h2 h1
    · exact apart_of_get h.apart e1 e2 (by omega) h1 h2
  · intro X hX b hb
    obtain ⟨j, hj⟩ := List.getElem?_of_mem hX
    rcases get j X hj with ⟨rfl, rfl⟩ | ⟨hjk, hj⟩
    · rcases hbl with h3 | h3
      · exact h.hapart E hEm b (h3 ▸ hb)
      · cases hx : H b with
        | none => rfl
        | some o => have := lt_of_heap (h.agree b o hx); have := h3 b hb; omega
    · exact h.hapart X (List.mem_of_getElem? hj) b hb

/-- A block of the call's own is given over: nobody writes it any more. -/
theorem Mem.give (h : Mem w0 H0 w H L) (k : Nat) {E : Ent} (hk : L[k]? = some E) {b : Nat} (hb : E.blk = some b) {o : Obj} (ho : w.heap[b]? = some o) : Mem w0 H0 w (H.put b o) (L.eraseIdx k) ∧ H.le (H.put b o) ∧ H.put b o b = some o := by
  have hEm : E ∈ L := List.mem_of_getElem? hk
  have hn : H b = none := h.hapart E hEm b hb
  have hle := Hp.le_put (o := o) hn
  have hlt := Ent.blk_lt (h.holds E hEm) hb
  have hs : (L.eraseIdx k).Sublist L := List.eraseIdx_sublist L k
  refine ⟨⟨h.below, h.old.trans hle, ?_, ?_, fun E hE => h.holds E (hs.subset hE), h.apart.sublist hs, ?_⟩, hle, Hp.put_same H b o⟩
  · intro c hc
    by_cases e : c = b
    · subst e; exact .inr hlt.1
    · rw [Hp.put_ne H o e] at hc; exact h.fresh c hc
  · intro c u hc
    by_cases e : c = b
    · subst e; rw [Hp.put_same] at hc; cases hc; exact ho
    · rw [Hp.put_ne H o e] at hc; exact h.agree c u hc
  · intro X hX c hc
    have hXm := hs.subset hX
    obtain ⟨j, hj⟩ := List.getElem?_of_mem hX
    rw [List.getElem?_eraseIdx] at hj
    have hne : c ≠ b := by
      rintro rfl
      split at hj
      · exact apart_of_get h.apart hk hj (by omega) hb hc
      · exact apart_of_get h.apart hk hj (by omega) hb hc
    rw [Hp.put_ne H o hne]
    exact h.hapart X hXm c hc
end
end Go.Proofs.YtackllehpecfgaaDoor
