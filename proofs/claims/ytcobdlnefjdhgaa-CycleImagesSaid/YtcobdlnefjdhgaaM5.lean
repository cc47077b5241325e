/- Part 5 of the proof of the statement CycleImagesSaid: lemmas. No condition of its own. -/
import Derived.Lib.TrailingZeros
import Derived.Shelf.SlSortCmp.NoneTotal
import Derived.ProofKit
import Derived.Test.YtcobdlnefjdhgaaRows
import Derived.Test.YtcobdlnefjdhgaaProg
import Derived.Test.YtcobdlnefjdhgaaM4
namespace Go.Proofs.Ytcobdlnefjdhgaa
open Go.RowKit
section
section
variable {α : Type} [Inhabited α]
theorem putRow_at (enc : α → Value) {w : World} {g : Nat} (off : Nat) (d : Array α) {cur : Array Value} {e : TypeId} {fr : Nat × Nat} (h : w.heap[g]? = some (.cells cur e fr)) : (Sort.putRow enc w g off d).heap[g]? = some (.cells (Sort.putCells enc off d cur) e fr) := by
  simp [Sort.putRow, Sort.mapBlock, Array.getElem?_modify, h, Sort.onCells]
theorem sorted_at (enc : α → Value) {w : World} {g : Nat} (off m : Nat) (d : Array α) (os : Array Obj) {cur : Array Value} {e : TypeId} {fr : Nat × Nat} (h : w.heap[g]? = some (.cells cur e fr)) : (Sort.grow (Sort.putRow enc (Sort.ahead w m) g off d) os).heap[g]? = some (.cells (Sort.putCells enc off d cur) e fr) := by
  have h1 := putRow_at enc (w := Sort.ahead w m) off d h
  rw [Sort.heap_grow_old _ _ (lt_of_heap h1)]; exact h1
theorem sorted_old (enc : α → Value) {w : World} {g k : Nat} (off m : Nat) (d : Array α) (os : Array Obj) (hk : k < w.heap.size) (hne : k ≠ g) : (Sort.grow (Sort.putRow enc (Sort.ahead w m) g off d) os).heap[k]? = w.heap[k]? := by
  have hs : k < (Sort.putRow enc (Sort.ahead w m) g off d).heap.size := by simpa [Sort.putRow, Sort.mapBlock, Sort.ahead] using hk
  rw [Sort.heap_grow_old _ _ hs]
  simp [Sort.putRow, Sort.mapBlock, Array.getElem?_modify, Sort.ahead, hne.symm]
theorem sorted_grown (enc : α → Value) {w : World} {g : Nat} (off m : Nat) (d : Array α) (os : Array Obj) : w.grownBy (Sort.grow (Sort.putRow enc (Sort.ahead w m) g off d) os) (some g) :=
  ⟨rfl, rfl, rfl, by simp [Sort.grow, Sort.putRow, Sort.mapBlock, Sort.ahead], fun k hk hne => sorted_old enc off m d os hk (fun e => hne (by rw [e]))⟩
theorem putCells_take (enc : α → Value) (d : Array α) (cur : Array Value) (h : d.size ≤ cur.size) : (Sort.putCells enc 0 d cur).toList.take d.size = d.toList.map enc := by
  apply List.ext_getElem?
  intro i
  by_cases hi : i < d.size
  · rw [List.getElem?_take_of_lt hi]
    have hc : i < cur.size := by omega
    simp [Sort.putCells, hi, hc]
  · rw [List.getElem?_eq_none, List.getElem?_eq_none]
    · simpa using hi
    · simp; omega
theorem sorted_owns (enc : α → Value) {w : World} {base : Nat} {e : TypeId} {k g n cap : Nat} {s : List Value} (m : Nat) (d : Array α) (os : Array Obj) (ho : w.ownsRow base e k (.slice (some ⟨g, 0, none⟩) n cap) n s) (hd : d.size = n * k) :
    (Sort.grow (Sort.putRow enc (Sort.ahead w m) g 0 d) os).ownsRow base e k (.slice (some ⟨g, 0, none⟩) n cap) n (d.toList.map enc) := by
  obtain ⟨h1, ⟨h2, _⟩ | ⟨g', cap', cur, h2, h3, h4, h5, h6, h7, h8⟩⟩ := ho
  · cases h2
  · cases h2
    refine ⟨by simp [hd], .inr ⟨g, cap, Sort.putCells enc 0 d cur, rfl, h3, sorted_at enc 0 m d os h4, h5, h6, by simp [Sort.putCells, h7], ?_⟩⟩
    rw [← hd]
    exact putCells_take enc d cur (by rw [hd, h7]; exact Nat.mul_le_mul_right _ h5)
theorem owns_holds {enc : α → Value} {w : World} {base : Nat} {e : TypeId} {k g n cap : Nat} {s : List Value} {d : Array α} (ho : w.ownsRow base e k (.slice (some ⟨g, 0, none⟩) n cap) n s) (hs : s = d.toList.map enc) : Sort.Holds enc w g 0 d ∧ g < w.heap.size := by
  obtain ⟨h1, ⟨h2, _⟩ | ⟨g', cap', cur, h2, h3, h4, h5, h6, h7, h8⟩⟩ := ho
  · cases h2
  · cases h2
    refine ⟨fun j hj => ?_, lt_of_heap h4⟩
    have hn : d.size = n * k := by rw [← h1, hs]; simp
    have hc : cur[j]? = some (enc d[j]!) := by
      have h9 : (cur.toList.take (n * k))[j]? = some (enc d[j]!) := by
        rw [h8, hs, List.getElem?_map]
        simp [hj]
      rw [List.getElem?_take_of_lt (by omega)] at h9
      simpa using h9
    refine ⟨?_, ?_⟩
    · simp [World.cell?, h4, hc]
    · simp only [World.frozen?, h4]; simp
end
def ElL (H : Hp) : Type := { p : Value × List Int // Dt.rd (α := List Int) H [p.1] p.2 }
theorem ElL.one {H : Hp} (p : ElL H) : p.1.1.oneCell' = true := by
  obtain ⟨⟨v, xs⟩, A, n, c, cells, h, h1⟩ := p
  obtain rfl := (List.cons.inj h).1
  rfl
end
section
theorem Below.grow {w w' : World} (h : Below w.heap.size w w') : ∃ q os, w' = Sort.grow (w.drewN q) os := by
  refine ⟨w'.drawn - w.drawn, w'.heap.extract w.heap.size w'.heap.size, ?_⟩
  have hs := h.size
  have hd := h.dr
  have e1 : w'.heap = w.heap ++ w'.heap.extract w.heap.size w'.heap.size := by
    apply Array.ext_getElem?
    intro i
    by_cases hi : i < w.heap.size
    · rw [h.block i hi, Array.getElem?_append_left hi]
    · rw [Array.getElem?_append_right (by omega)]
      by_cases hj : i < w'.heap.size
      · rw [Array.getElem?_eq_getElem hj, Array.getElem?_eq_getElem (by simp; omega)]
        congr 1
        simp only [Array.getElem_extract]
        congr 1
        omega
      · rw [Array.getElem?_eq_none (by omega), Array.getElem?_eq_none (by simp; omega)]
  have e2 : w'.drawn = w.drawn + (w'.drawn - w.drawn) := by omega
  obtain ⟨heap, tape, drawn, os, output⟩ := w'
  have h1 : os = w.os := h.os
  have h2 : tape = w.tape := h.tape
  have h3 : output = w.output := h.output
  subst h1 h2 h3
  unfold Sort.grow World.drewN
  simp only at e1 e2 ⊢
  rw [← e1, ← e2]
section
variable {α : Type} (le : α → α → Bool)
def insG (x : α) : List α → List α
  | [] => [x]
  | y :: r => bif le x y then x :: y :: r else y :: insG x r
def sortG : List α → List α
  | [] => []
  | x :: r => insG le x (sortG r)
theorem insG_perm (x : α) : ∀ l : List α, (insG le x l).Perm (x :: l)
  | [] => List.Perm.refl _
  | y :: r => by
    unfold insG
    cases le x y with
    | true => exact List.Perm.refl _
    | false => exact ((insG_perm x r).cons y).trans (List.Perm.swap x y r)
theorem sortG_perm : ∀ l : List α, (sortG le l).Perm l
  | [] => List.Perm.refl _
  | x :: r => (insG_perm le x (sortG le r)).trans ((sortG_perm r).cons x)
variable {le}
theorem insG_sorted (ht : ∀ a b, le a b = true ∨ le b a = true) (htr : ∀ a b c, le a b = true → le b c = true → le a c = true) (x : α) : ∀ l : List α, l.Pairwise (fun a b => le a b = true) → (insG le x l).Pairwise (fun a b => le a b = true)
  | [], _ => by simp [insG]
  | y :: r, h => by
    have h1 := List.pairwise_cons.1 h
    unfold insG
    cases hxy : le x y with
    | true =>
      refine List.pairwise_cons.2 ⟨fun z hz => ?_, h⟩
      rcases List.mem_cons.1 hz with rfl | hz
      · exact hxy
      · exact htr _ _ _ hxy (h1.1 z hz)
    | false =>
      refine List.pairwise_cons.2 ⟨fun z hz => ?_, insG_sorted ht htr x r h1.2⟩
      rcases List.mem_cons.1 ((insG_perm le x r).mem_iff.1 hz) with rfl | hz
      · exact (ht z y).resolve_left (by rw [hxy]; simp)
      · exact h1.1 z hz
theorem sortG_sorted (ht : ∀ a b, le a b = true ∨ le b a = true) (htr : ∀ a b c, le a b = true → le b c = true → le a c = true) : ∀ l : List α, (sortG le l).Pairwise (fun a b => le a b = true)
  | [] => List.Pairwise.nil
  | x :: r => insG_sorted ht htr x _ (sortG_sorted ht htr r)
theorem sortG_of (ht : ∀ a b, le a b = true ∨ le b a = true) (htr : ∀ a b c, le a b = true → le b c = true → le a c = true) (ha : ∀ a b, le a b = true → le b a = true → a = b) {l m : List α} (hp : m.Perm l) (hs : m.Pairwise (fun a b => le a b = true)) : m = sortG le l :=
  List.Perm.eq_of_pairwise (le := fun a b => le a b = true) (fun _ _ _ _ h1 h2 => ha _ _ h1 h2) hs (sortG_sorted ht htr l) (hp.trans (sortG_perm le l).symm)
end
section
variable {α : Type}
theorem flatMap_length {enc : α → List Value} {k : Nat} (hk : ∀ x, (enc x).length = k) : ∀ l : List α, (l.flatMap enc).length = l.length * k
  | [] => by simp
  | x :: l => by rw [List.flatMap_cons, List.length_append, hk, flatMap_length hk l, List.length_cons, Nat.succ_mul, Nat.add_comm]
theorem flatMap_get {enc : α → List Value} {k : Nat} (hk : ∀ x, (enc x).length = k) : ∀ (l : List α) (t : Nat) (_ : t < l.length * k), (l.flatMap enc)[t]? = (l[t / k]?).bind fun x => (enc x)[t % k]?
  | [], t, h => by simp at h
  | x :: l, t, h => by
    have k0 : 0 < k := by rcases Nat.eq_zero_or_pos k with h0 | h0; · subst h0; simp at h
                          · exact h0
    rw [List.flatMap_cons]
    by_cases ht : t < k
    · rw [List.getElem?_append_left (by rw [hk]; exact ht), Nat.div_eq_of_lt ht, Nat.mod_eq_of_lt ht]
      rfl
    · have e1 : t / k = (t - k) / k + 1 := by rw [Nat.div_eq_sub_div k0 (by omega)]
      have e2 : t % k = (t - k) % k := by rw [Nat.mod_eq_sub_mod (by omega)]
      rw [List.getElem?_append_right (by rw [hk]; omega), hk, flatMap_get hk l (t - k) (by rw [List.length_cons, Nat.succ_mul] at h; omega), e1, e2]
      rfl
variable [Inhabited α]
theorem flatK_list {enc : α → List Value} {k : Nat} (hk : ∀ x, (enc x).length = k) (d : Array α) : (Sort.flatK enc k d).toList = d.toList.flatMap enc := by
  have hl := flatMap_length hk d.toList
  apply List.ext_getElem?
  intro t
  by_cases ht : t < d.size * k
  · have k0 : 0 < k := by rcases Nat.eq_zero_or_pos k with h0 | h0; · subst h0; simp at ht
                          · exact h0
    have hd : t / k < d.size := (Nat.div_lt_iff_lt_mul k0).2 ht
    have hm : t % k < k := Nat.mod_lt _ k0
    rw [flatMap_get hk _ t (by rw [Array.length_toList]; exact ht)]
    have e1 := Sort.get_flatK enc k d t ht
    have e2 : t < (Sort.flatK enc k d).size := by rw [Sort.size_flatK]; exact ht
    rw [getElem!_pos (Sort.flatK enc k d) t e2] at e1
    rw [Array.getElem?_toList, Array.getElem?_eq_getElem e2, e1, Array.getElem?_toList, Array.getElem?_eq_getElem hd]
    have e3 : d[t / k]! = d[t / k] := getElem!_pos d _ hd
    rw [e3]
    have e4 : t % k < (enc d[t / k]).length := by rw [hk]; exact hm
    show some ((enc d[t / k])[t % k]!) = (enc d[t / k])[t % k]?
    rw [getElem!_pos (enc d[t / k]) _ e4, List.getElem?_eq_getElem e4]
  · rw [List.getElem?_eq_none, List.getElem?_eq_none]
    · rw [hl, Array.length_toList]; omega
    · rw [Array.length_toList, Sort.size_flatK]; omega
end
theorem DtL.enc {α : Type} [Dt α] {enc : α → List Value} (he : ∀ H cs (x : α), Dt.rd H cs x → cs = enc x) {H : Hp} : ∀ {xs : List α} {cs : List Value}, DtL H cs xs → cs = xs.flatMap enc
  | [], _, h => h
  | _ :: _, _, ⟨_, _, h, h1, h2⟩ => by rw [h, he _ _ _ h1, DtL.enc he h2]; rfl
theorem DtL.ofEnc {α : Type} [Dt α] {enc : α → List Value} (he : ∀ H (x : α), Dt.rd H (enc x) x) {H : Hp} : ∀ (xs : List α), DtL H (xs.flatMap enc) xs
  | [] => rfl
  | x :: xs => ⟨enc x, xs.flatMap enc, rfl, he H x, DtL.ofEnc he xs⟩
end
structure Arr3_uint8 where
  e0 : BitVec 8
  e1 : BitVec 8
  e2 : BitVec 8
  deriving DecidableEq
instance dt_Arr3_uint8 : Dt Arr3_uint8 where
  default := ⟨0#8, 0#8, 0#8⟩
  sz := 3
  rd H cs x := cs = [u8 (x.e0), u8 (x.e1), u8 (x.e2)]
  len h := by rw [h]; rfl
  mono h _ := h
  one h := by rw [h]; exact oneAll ⟨rfl, rfl, rfl, trivial⟩
structure standbylaw23_Step where
  Node : BitVec 8
  Volume : BitVec 8
  Start : BitVec 8
  Count : BitVec 8
  First : BitVec 8
  Close : Bool
  More : Arr3_uint8
  deriving DecidableEq
instance dt_standbylaw23_Step : Dt standbylaw23_Step where
  default := ⟨0#8, 0#8, 0#8, 0#8, 0#8, false, default⟩
  sz := 9
  rd H cs x := cs = [u8 (x.Node), u8 (x.Volume), u8 (x.Start), u8 (x.Count), u8 (x.First), .bool x.Close, u8 (x.More.e0), u8 (x.More.e1), u8 (x.More.e2)]
  len h := by rw [h]; rfl
  mono h _ := h
  one h := by rw [h]; exact oneAll ⟨rfl, rfl, rfl, rfl, rfl, rfl, rfl, rfl, rfl, trivial⟩
structure api_Write where
  Volume : Int
  Start : Int
  Data : List Sec
  deriving DecidableEq
instance dt_api_Write : Dt api_Write where
  default := ⟨0, 0, []⟩
  sz := 3
  rd H cs x := ∃ A0 n0 c0 s0, cs = [.int .i64 (x.Volume), .int .i64 (x.Start), .slice A0 n0 c0] ∧ Fz H A0 n0 c0 x.Data s0
  len := fun ⟨A0, n0, c0, s0, h, h0⟩ => by rw [h]; rfl
  mono := fun ⟨A0, n0, c0, s0, h, h0⟩ hle => ⟨A0, n0, c0, s0, h, h0.mono hle⟩
  one := fun ⟨A0, n0, c0, s0, h, h0⟩ => by rw [h]; exact oneAll ⟨rfl, rfl, rfl, trivial⟩
structure api_Capture where
  Number : Int
  Sizes : List Int
  Positions : List Int
  Nodes : List Int
  Writes : List api_Write
  deriving DecidableEq
instance dt_api_Capture : Dt api_Capture where
  default := ⟨0, [], [], [], []⟩
  sz := 5
  rd H cs x := ∃ A0 n0 c0 s0, ∃ A1 n1 c1 s1, ∃ A2 n2 c2 s2, ∃ A3 n3 c3 s3, cs = [.int .i64 (x.Number), .slice A0 n0 c0, .slice A1 n1 c1, .slice A2 n2 c2, .slice A3 n3 c3] ∧ Fz H A0 n0 c0 x.Sizes s0 ∧ Fz H A1 n1 c1 x.Positions s1 ∧ Fz H A2 n2 c2 x.Nodes s2 ∧ Fz H A3 n3 c3 x.Writes s3
  len := fun ⟨A0, n0, c0, s0, A1, n1, c1, s1, A2, n2, c2, s2, A3, n3, c3, s3, h, h0, h1, h2, h3⟩ => by rw [h]; rfl
  mono := fun ⟨A0, n0, c0, s0, A1, n1, c1, s1, A2, n2, c2, s2, A3, n3, c3, s3, h, h0, h1, h2, h3⟩ hle => ⟨A0, n0, c0, s0, A1, n1, c1, s1, A2, n2, c2, s2, A3, n3, c3, s3, h, h0.mono hle, h1.mono hle, h2.mono hle, h3.mono hle⟩
  one := fun ⟨A0, n0, c0, s0, A1, n1, c1, s1, A2, n2, c2, s2, A3, n3, c3, s3, h, h0, h1, h2, h3⟩ => by rw [h]; exact oneAll ⟨rfl, rfl, rfl, rfl, rfl, trivial⟩
structure api_Cycle where
  Base : Int
  Number : Int
  Time : Int
  Positions : List Int
  Writes : List api_Write
  deriving DecidableEq
instance dt_api_Cycle : Dt api_Cycle where
  default := ⟨0, 0, 0, [], []⟩
  sz := 5
  rd H cs x := ∃ A0 n0 c0 s0, ∃ A1 n1 c1 s1, cs = [.int .i64 (x.Base), .int .i64 (x.Number), .int .i64 (x.Time), .slice A0 n0 c0, .slice A1 n1 c1] ∧ Fz H A0 n0 c0 x.Positions s0 ∧ Fz H A1 n1 c1 x.Writes s1
  len := fun ⟨A0, n0, c0, s0, A1, n1, c1, s1, h, h0, h1⟩ => by rw [h]; rfl
  mono := fun ⟨A0, n0, c0, s0, A1, n1, c1, s1, h, h0, h1⟩ hle => ⟨A0, n0, c0, s0, A1, n1, c1, s1, h, h0.mono hle, h1.mono hle⟩
  one := fun ⟨A0, n0, c0, s0, A1, n1, c1, s1, h, h0, h1⟩ => by rw [h]; exact oneAll ⟨rfl, rfl, rfl, rfl, rfl, trivial⟩
structure cycle_division where
  c : api_Capture
  part : List Bool
  deriving DecidableEq
instance dt_cycle_division : Dt cycle_division where
  default := ⟨default, []⟩
  sz := 6
  rd H cs x := ∃ A0 n0 c0 s0, ∃ A1 n1 c1 s1, ∃ A2 n2 c2 s2, ∃ A3 n3 c3 s3, ∃ A4 n4 c4 s4, cs = [.int .i64 (x.c.Number), .slice A0 n0 c0, .slice A1 n1 c1, .slice A2 n2 c2, .slice A3 n3 c3, .slice A4 n4 c4] ∧ Fz H A0 n0 c0 x.c.Sizes s0 ∧ Fz H A1 n1 c1 x.c.Positions s1 ∧ Fz H A2 n2 c2 x.c.Nodes s2 ∧ Fz H A3 n3 c3 x.c.Writes s3 ∧ Fz H A4 n4 c4 x.part s4
  len := fun ⟨A0, n0, c0, s0, A1, n1, c1, s1, A2, n2, c2, s2, A3, n3, c3, s3, A4, n4, c4, s4, h, h0, h1, h2, h3, h4⟩ => by rw [h]; rfl
  mono := fun ⟨A0, n0, c0, s0, A1, n1, c1, s1, A2, n2, c2, s2, A3, n3, c3, s3, A4, n4, c4, s4, h, h0, h1, h2, h3, h4⟩ hle => ⟨A0, n0, c0, s0, A1, n1, c1, s1, A2, n2, c2, s2, A3, n3, c3, s3, A4, n4, c4, s4, h, h0.mono hle, h1.mono hle, h2.mono hle, h3.mono hle, h4.mono hle⟩
  one := fun ⟨A0, n0, c0, s0, A1, n1, c1, s1, A2, n2, c2, s2, A3, n3, c3, s3, A4, n4, c4, s4, h, h0, h1, h2, h3, h4⟩ => by rw [h]; exact oneAll ⟨rfl, rfl, rfl, rfl, rfl, rfl, trivial⟩
structure coalesce_place where
  volume : Int
  sector : Int
  deriving DecidableEq
instance dt_coalesce_place : Dt coalesce_place where
  default := ⟨0, 0⟩
  sz := 2
  rd H cs x := cs = [.int .i64 (x.volume), .int .i64 (x.sector)]
  len h := by rw [h]; rfl
  mono h _ := h
  one h := by rw [h]; exact oneAll ⟨rfl, rfl, trivial⟩
  ks := some ([.i .i64, .i .i64], fun x => [.i .i64 x.volume, .i .i64 x.sector])
  ksOk := fun _ _ h => by
    cases h
    refine ⟨fun _ _ _ => Iff.rfl, fun _ => rfl, fun a b h => ?_⟩
    obtain ⟨a_0, a_1⟩ := a
    obtain ⟨b_0, b_1⟩ := b
    simp only [List.cons.injEq, Sc.i.injEq, true_and, and_true] at h
    obtain ⟨e0, e1⟩ := h
    subst e0
    subst e1
    rfl
instance dtUnit : Dt Unit where
  default := ()
  sz := 0
  rd _ cs _ := cs = []
  len h := by rw [h]; rfl
  mono h _ := h
  one h := by rw [h]; intro u hu; cases hu
structure TyR where
  α : Type
  inst : Dt α
def tyOf (t : Nat) : TyR := bif Nat.beq t 4 then ⟨Bool, inferInstance⟩ else bif Nat.beq t 39 then ⟨standbylaw23_Step, inferInstance⟩ else bif Nat.beq t 22 then ⟨List standbylaw23_Step, inferInstance⟩ else bif Nat.beq t 3 then ⟨Int, inferInstance⟩ else bif Nat.beq t 72 then ⟨Sec, inferInstance⟩ else bif Nat.beq t 43 then ⟨api_Write, inferInstance⟩ else bif Nat.beq t 27 then ⟨api_Capture, inferInstance⟩ else bif Nat.beq t 28 then ⟨Int, inferInstance⟩ else bif Nat.beq t 24 then ⟨List Int, inferInstance⟩ else bif Nat.beq t 41 then ⟨List Sec, inferInstance⟩ else bif Nat.beq t 33 then ⟨List (List Sec), inferInstance⟩ else bif Nat.beq t 32 then ⟨List (List Sec), inferInstance⟩ else bif Nat.beq t 5 then ⟨BitVec 8, inferInstance⟩ else bif Nat.beq t 93 then ⟨List (BitVec 8), inferInstance⟩ else bif Nat.beq t 46 then ⟨api_Cycle, inferInstance⟩ else bif Nat.beq t 75 then ⟨cycle_division, inferInstance⟩ else bif Nat.beq t 25 then ⟨List api_Write, inferInstance⟩ else bif Nat.beq t 119 then ⟨coalesce_place, inferInstance⟩ else bif Nat.beq t 128 then ⟨BitVec 64, inferInstance⟩ else bif Nat.beq t 139 then ⟨BitVec 64, inferInstance⟩ else bif Nat.beq t 114 then ⟨List (List api_Write), inferInstance⟩ else ⟨Unit, dtUnit⟩
abbrev DD (t : Nat) : Type := (tyOf t).α
instance dtDD (t : Nat) : Dt (DD t) := (tyOf t).inst
def xI : SV DD → Option Int
 | .i .i64 n => some n
 | _ => none
def xW : SV DD → Option (BitVec 64)
 | .w x => some x
 | _ => none
def xY : SV DD → Option (BitVec 8)
 | .y x => some x
 | _ => none
def xT : SV DD → Option ByteArray
 | .st x => some x
 | _ => none
def xS (e : Nat) : SV DD → Option (List (DD e))
 | .fsl e' xs => castL e' e xs
 | .nil => some []
 | _ => none
theorem xI_cq {a : SV DD} {n : Int} (h : xI a = some n) : CQ a (.i .i64 n) := by
  unfold xI at h
  split at h
  · cases h; exact .inr ⟨rfl, rfl, fun _ _ _ h => h⟩
  · cases h
theorem xW_cq {a : SV DD} {n : BitVec 64} (h : xW a = some n) : CQ a (.w n) := by
  unfold xW at h
  split at h
  · cases h; exact .inr ⟨rfl, rfl, fun _ _ _ h => h⟩
  · cases h
theorem xY_cq {a : SV DD} {n : BitVec 8} (h : xY a = some n) : CQ a (.y n) := by
  unfold xY at h
  split at h
  · cases h; exact .inr ⟨rfl, rfl, fun _ _ _ h => h⟩
  · cases h
theorem xB_cq {a : SV DD} {n : Bool} (h : boolOf a = some n) : CQ a (.b n) := by
  cases a <;> first | (cases h; exact .inr ⟨rfl, rfl, fun _ _ _ h => h⟩) | cases h
theorem xS_cq {e : Nat} {a : SV DD} {n : List (DD e)} (h : xS e a = some n) : CQ a (.fsl e n) := by
  unfold xS at h
  split at h
  · obtain ⟨he, h1⟩ := castL_ok h
    subst he
    subst h1
    exact .inl ⟨_, _, rfl, .inl rfl⟩
  · cases h; exact .inl ⟨_, _, rfl, .inr ⟨rfl, rfl⟩⟩
  · cases h
theorem bindS {α β : Type} {o : Option α} {f : α → Option β} {x : β} (h : o.bind f = some x) : ∃ v, o = some v ∧ f v = some x := Option.bind_eq_some_iff.1 h
def ofc4 : List (SV DD) → Option (DD 4)
 | [a0] => (boolOf a0).bind fun v0 => some v0
 | _ => none
def ce4 : CE DD := ⟨4, fun x => [.b (x)], ofc4, none⟩
theorem ceOk4 : ce4.Ok where
  rdi := @fun H ρ cs x => ⟨fun h => by
    obtain h := (show Dt.rd (α := Bool) H cs x from h)
    subst h
    exact ⟨_, _, rfl, rfl, rfl⟩, fun h => by
    obtain ⟨v0, r0, e0, p0, e⟩ := h
    have e : r0 = [] := e
    subst e
    subst e0
    have p0 : v0 = _ := p0
    subst p0
    exact (show Dt.rd (α := Bool) H _ x from rfl)⟩
  cq := @fun l x h => by
    change ofc4 l = some x at h
    unfold ofc4 at h
    split at h
    · obtain ⟨v0, h0, h⟩ := bindS h
      cases h
      exact ⟨_, _, rfl, xB_cq h0, rfl⟩
    · cases h
  eqc := fun d a b c1 c2 hd h1 h2 => by cases hd
def ofc39 : List (SV DD) → Option (DD 39)
 | [a0, a1, a2, a3, a4, a5, a6, a7, a8] => (xY a0).bind fun v0 => (xY a1).bind fun v1 => (xY a2).bind fun v2 => (xY a3).bind fun v3 => (xY a4).bind fun v4 => (boolOf a5).bind fun v5 => (xY a6).bind fun v6 => (xY a7).bind fun v7 => (xY a8).bind fun v8 => some ⟨v0, v1, v2, v3, v4, v5, ⟨v6, v7, v8⟩⟩
 | _ => none
def ce39 : CE DD := ⟨39, fun x => [.y (x.Node), .y (x.Volume), .y (x.Start), .y (x.Count), .y (x.First), .b (x.Close), .y (x.More.e0), .y (x.More.e1), .y (x.More.e2)], ofc39, some (inferInstanceAs (DecidableEq standbylaw23_Step))⟩
theorem sc39 (a b : standbylaw23_Step) : (([.i .u8 ((a.Node).toNat : Int), .i .u8 ((a.Volume).toNat : Int), .i .u8 ((a.Start).toNat : Int), .i .u8 ((a.Count).toNat : Int), .i .u8 ((a.First).toNat : Int), .b (a.Close), .i .u8 ((a.More.e0).toNat : Int), .i .u8 ((a.More.e1).toNat : Int), .i .u8 ((a.More.e2).toNat : Int)] : List Sc) = [.i .u8 ((b.Node).toNat : Int), .i .u8 ((b.Volume).toNat : Int), .i .u8 ((b.Start).toNat : Int), .i .u8 ((b.Count).toNat : Int), .i .u8 ((b.First).toNat : Int), .b (b.Close), .i .u8 ((b.More.e0).toNat : Int), .i .u8 ((b.More.e1).toNat : Int), .i .u8 ((b.More.e2).toNat : Int)]) ↔ a = b := by
  rcases a with ⟨_, _, _, _, _, _, ⟨_, _, _⟩⟩; rcases b with ⟨_, _, _, _, _, _, ⟨_, _, _⟩⟩; simp [Int.ofNat_inj, BitVec.toNat_inj]
theorem ceOk39 : ce39.Ok where
  rdi := @fun H ρ cs x => ⟨fun h => by
    obtain h := (show Dt.rd (α := standbylaw23_Step) H cs x from h)
    subst h
    exact ⟨_, _, rfl, rfl, _, _, rfl, rfl, _, _, rfl, rfl, _, _, rfl, rfl, _, _, rfl, rfl, _, _, rfl, rfl, _, _, rfl, rfl, _, _, rfl, rfl, _, _, rfl, rfl, rfl⟩, fun h => by
    obtain ⟨v0, r0, e0, p0, v1, r1, e1, p1, v2, r2, e2, p2, v3, r3, e3, p3, v4, r4, e4, p4, v5, r5, e5, p5, v6, r6, e6, p6, v7, r7, e7, p7, v8, r8, e8, p8, e⟩ := h
    have e : r8 = [] := e
    subst e
    subst e8
    subst e7
    subst e6
    subst e5
    subst e4
    subst e3
    subst e2
    subst e1
    subst e0
    have p0 : v0 = _ := p0
    subst p0
    have p1 : v1 = _ := p1
    subst p1
    have p2 : v2 = _ := p2
    subst p2
    have p3 : v3 = _ := p3
    subst p3
    have p4 : v4 = _ := p4
    subst p4
    have p5 : v5 = _ := p5
    subst p5
    have p6 : v6 = _ := p6
    subst p6
    have p7 : v7 = _ := p7
    subst p7
    have p8 : v8 = _ := p8
    subst p8
    exact (show Dt.rd (α := standbylaw23_Step) H _ x from rfl)⟩
  cq := @fun l x h => by
    change ofc39 l = some x at h
    unfold ofc39 at h
    split at h
    · obtain ⟨v0, h0, h⟩ := bindS h
      obtain ⟨v1, h1, h⟩ := bindS h
      obtain ⟨v2, h2, h⟩ := bindS h
      obtain ⟨v3, h3, h⟩ := bindS h
      obtain ⟨v4, h4, h⟩ := bindS h
      obtain ⟨v5, h5, h⟩ := bindS h
      obtain ⟨v6, h6, h⟩ := bindS h
      obtain ⟨v7, h7, h⟩ := bindS h
      obtain ⟨v8, h8, h⟩ := bindS h
      cases h
      exact ⟨_, _, rfl, xY_cq h0, _, _, rfl, xY_cq h1, _, _, rfl, xY_cq h2, _, _, rfl, xY_cq h3, _, _, rfl, xY_cq h4, _, _, rfl, xB_cq h5, _, _, rfl, xY_cq h6, _, _, rfl, xY_cq h7, _, _, rfl, xY_cq h8, rfl⟩
    · cases h
  eqc := fun d a b c1 c2 hd h1 h2 => by
    cases h1; cases h2
    exact sc39 a b
def ofc22 : List (SV DD) → Option (DD 22)
 | [a0] => (xS 39 a0).bind fun v0 => some v0
 | _ => none
def ce22 : CE DD := ⟨22, fun x => [.fsl 39 (x)], ofc22, none⟩
theorem ceOk22 : ce22.Ok where
  rdi := @fun H ρ cs x => ⟨fun h => by
    obtain ⟨A0, n0, c0, s0, h, h0⟩ := (show Dt.rd (α := List standbylaw23_Step) H cs x from h)
    subst h
    exact ⟨_, _, rfl, ⟨A0, n0, c0, s0, rfl, h0⟩, rfl⟩, fun h => by
    obtain ⟨v0, r0, e0, ⟨A0, n0, c0, s0, p0, h0⟩, e⟩ := h
    have e : r0 = [] := e
    subst e
    subst e0
    subst p0
    exact (show Dt.rd (α := List standbylaw23_Step) H _ x from ⟨A0, n0, c0, s0, rfl, h0⟩)⟩
  cq := @fun l x h => by
    change ofc22 l = some x at h
    unfold ofc22 at h
    split at h
    · obtain ⟨v0, h0, h⟩ := bindS h
      cases h
      exact ⟨_, _, rfl, xS_cq h0, rfl⟩
    · cases h
  eqc := fun d a b c1 c2 hd h1 h2 => by cases hd
def ofc3 : List (SV DD) → Option (DD 3)
 | [a0] => (xI a0).bind fun v0 => some v0
 | _ => none
def ce3 : CE DD := ⟨3, fun x => [.i .i64 (x)], ofc3, none⟩
theorem ceOk3 : ce3.Ok where
  rdi := @fun H ρ cs x => ⟨fun h => by
    obtain h := (show Dt.rd (α := Int) H cs x from h)
    subst h
    exact ⟨_, _, rfl, rfl, rfl⟩, fun h => by
    obtain ⟨v0, r0, e0, p0, e⟩ := h
    have e : r0 = [] := e
    subst e
    subst e0
    have p0 : v0 = _ := p0
    subst p0
    exact (show Dt.rd (α := Int) H _ x from rfl)⟩
  cq := @fun l x h => by
    change ofc3 l = some x at h
    unfold ofc3 at h
    split at h
    · obtain ⟨v0, h0, h⟩ := bindS h
      cases h
      exact ⟨_, _, rfl, xI_cq h0, rfl⟩
    · cases h
  eqc := fun d a b c1 c2 hd h1 h2 => by cases hd
def ofc72 : List (SV DD) → Option (DD 72)
 | [a0, a1, a2, a3, a4, a5, a6, a7] => (xY a0).bind fun v0 => (xY a1).bind fun v1 => (xY a2).bind fun v2 => (xY a3).bind fun v3 => (xY a4).bind fun v4 => (xY a5).bind fun v5 => (xY a6).bind fun v6 => (xY a7).bind fun v7 => some ⟨v0, v1, v2, v3, v4, v5, v6, v7⟩
 | _ => none
def ce72 : CE DD := ⟨72, fun x => [.y (x.b0), .y (x.b1), .y (x.b2), .y (x.b3), .y (x.b4), .y (x.b5), .y (x.b6), .y (x.b7)], ofc72, some (inferInstanceAs (DecidableEq Sec))⟩
theorem sc72 (a b : Sec) : (([.i .u8 ((a.b0).toNat : Int), .i .u8 ((a.b1).toNat : Int), .i .u8 ((a.b2).toNat : Int), .i .u8 ((a.b3).toNat : Int), .i .u8 ((a.b4).toNat : Int), .i .u8 ((a.b5).toNat : Int), .i .u8 ((a.b6).toNat : Int), .i .u8 ((a.b7).toNat : Int)] : List Sc) = [.i .u8 ((b.b0).toNat : Int), .i .u8 ((b.b1).toNat : Int), .i .u8 ((b.b2).toNat : Int), .i .u8 ((b.b3).toNat : Int), .i .u8 ((b.b4).toNat : Int), .i .u8 ((b.b5).toNat : Int), .i .u8 ((b.b6).toNat : Int), .i .u8 ((b.b7).toNat : Int)]) ↔ a = b := by
  cases a; cases b; simp [← BitVec.toNat_inj]; omega
theorem ceOk72 : ce72.Ok where
  rdi := @fun H ρ cs x => ⟨fun h => by
    obtain h := (show Dt.rd (α := Sec) H cs x from h)
    subst h
    exact ⟨_, _, rfl, rfl, _, _, rfl, rfl, _, _, rfl, rfl, _, _, rfl, rfl, _, _, rfl, rfl, _, _, rfl, rfl, _, _, rfl, rfl, _, _, rfl, rfl, rfl⟩, fun h => by
    obtain ⟨v0, r0, e0, p0, v1, r1, e1, p1, v2, r2, e2, p2, v3, r3, e3, p3, v4, r4, e4, p4, v5, r5, e5, p5, v6, r6, e6, p6, v7, r7, e7, p7, e⟩ := h
    have e : r7 = [] := e
    subst e
    subst e7
    subst e6
    subst e5
    subst e4
    subst e3
    subst e2
    subst e1
    subst e0
    have p0 : v0 = _ := p0
    subst p0
    have p1 : v1 = _ := p1
    subst p1
    have p2 : v2 = _ := p2
    subst p2
    have p3 : v3 = _ := p3
    subst p3
    have p4 : v4 = _ := p4
    subst p4
    have p5 : v5 = _ := p5
    subst p5
    have p6 : v6 = _ := p6
    subst p6
    have p7 : v7 = _ := p7
    subst p7
    exact (show Dt.rd (α := Sec) H _ x from rfl)⟩
  cq := @fun l x h => by
    change ofc72 l = some x at h
    unfold ofc72 at h
    split at h
    · obtain ⟨v0, h0, h⟩ := bindS h
      obtain ⟨v1, h1, h⟩ := bindS h
      obtain ⟨v2, h2, h⟩ := bindS h
      obtain ⟨v3, h3, h⟩ := bindS h
      obtain ⟨v4, h4, h⟩ := bindS h
      obtain ⟨v5, h5, h⟩ := bindS h
      obtain ⟨v6, h6, h⟩ := bindS h
      obtain ⟨v7, h7, h⟩ := bindS h
      cases h
      exact ⟨_, _, rfl, xY_cq h0, _, _, rfl, xY_cq h1, _, _, rfl, xY_cq h2, _, _, rfl, xY_cq h3, _, _, rfl, xY_cq h4, _, _, rfl, xY_cq h5, _, _, rfl, xY_cq h6, _, _, rfl, xY_cq h7, rfl⟩
    · cases h
  eqc := fun d a b c1 c2 hd h1 h2 => by
    cases h1; cases h2
    exact sc72 a b
def ofc43 : List (SV DD) → Option (DD 43)
 | [a0, a1, a2] => (xI a0).bind fun v0 => (xI a1).bind fun v1 => (xS 72 a2).bind fun v2 => some ⟨v0, v1, v2⟩
 | _ => none
def ce43 : CE DD := ⟨43, fun x => [.i .i64 (x.Volume), .i .i64 (x.Start), .fsl 72 (x.Data)], ofc43, none⟩
theorem ceOk43 : ce43.Ok where
  rdi := @fun H ρ cs x => ⟨fun h => by
    obtain ⟨A0, n0, c0, s0, h, h0⟩ := (show Dt.rd (α := api_Write) H cs x from h)
    subst h
    exact ⟨_, _, rfl, rfl, _, _, rfl, rfl, _, _, rfl, ⟨A0, n0, c0, s0, rfl, h0⟩, rfl⟩, fun h => by
    obtain ⟨v0, r0, e0, p0, v1, r1, e1, p1, v2, r2, e2, ⟨A0, n0, c0, s0, p2, h0⟩, e⟩ := h
    have e : r2 = [] := e
    subst e
    subst e2
    subst e1
    subst e0
    have p0 : v0 = _ := p0
    subst p0
    have p1 : v1 = _ := p1
    subst p1
    subst p2
    exact (show Dt.rd (α := api_Write) H _ x from ⟨A0, n0, c0, s0, rfl, h0⟩)⟩
  cq := @fun l x h => by
    change ofc43 l = some x at h
    unfold ofc43 at h
    split at h
    · obtain ⟨v0, h0, h⟩ := bindS h
      obtain ⟨v1, h1, h⟩ := bindS h
      obtain ⟨v2, h2, h⟩ := bindS h
      cases h
      exact ⟨_, _, rfl, xI_cq h0, _, _, rfl, xI_cq h1, _, _, rfl, xS_cq h2, rfl⟩
    · cases h
  eqc := fun d a b c1 c2 hd h1 h2 => by cases hd
def ofc27 : List (SV DD) → Option (DD 27)
 | [a0, a1, a2, a3, a4] => (xI a0).bind fun v0 => (xS 3 a1).bind fun v1 => (xS 3 a2).bind fun v2 => (xS 3 a3).bind fun v3 => (xS 43 a4).bind fun v4 => some ⟨v0, v1, v2, v3, v4⟩
 | _ => none
def ce27 : CE DD := ⟨27, fun x => [.i .i64 (x.Number), .fsl 3 (x.Sizes), .fsl 3 (x.Positions), .fsl 3 (x.Nodes), .fsl 43 (x.Writes)], ofc27, none⟩
theorem ceOk27 : ce27.Ok where
  rdi := @fun H ρ cs x => ⟨fun h => by
    obtain ⟨A0, n0, c0, s0, A1, n1, c1, s1, A2, n2, c2, s2, A3, n3, c3, s3, h, h0, h1, h2, h3⟩ := (show Dt.rd (α := api_Capture) H cs x from h)
    subst h
    exact ⟨_, _, rfl, rfl, _, _, rfl, ⟨A0, n0, c0, s0, rfl, h0⟩, _, _, rfl, ⟨A1, n1, c1, s1, rfl, h1⟩, _, _, rfl, ⟨A2, n2, c2, s2, rfl, h2⟩, _, _, rfl, ⟨A3, n3, c3, s3, rfl, h3⟩, rfl⟩, fun h => by
    obtain ⟨v0, r0, e0, p0, v1, r1, e1, ⟨A0, n0, c0, s0, p1, h0⟩, v2, r2, e2, ⟨A1, n1, c1, s1, p2, h1⟩, v3, r3, e3, ⟨A2, n2, c2, s2, p3, h2⟩, v4, r4, e4, ⟨A3, n3, c3, s3, p4, h3⟩, e⟩ := h
    have e : r4 = [] := e
    subst e
    subst e4
    subst e3
    subst e2
    subst e1
    subst e0
    have p0 : v0 = _ := p0
    subst p0
    subst p1
    subst p2
    subst p3
    subst p4
    exact (show Dt.rd (α := api_Capture) H _ x from ⟨A0, n0, c0, s0, A1, n1, c1, s1, A2, n2, c2, s2, A3, n3, c3, s3, rfl, h0, h1, h2, h3⟩)⟩
  cq := @fun l x h => by
    change ofc27 l = some x at h
    unfold ofc27 at h
    split at h
    · obtain ⟨v0, h0, h⟩ := bindS h
      obtain ⟨v1, h1, h⟩ := bindS h
      obtain ⟨v2, h2, h⟩ := bindS h
      obtain ⟨v3, h3, h⟩ := bindS h
      obtain ⟨v4, h4, h⟩ := bindS h
      cases h
      exact ⟨_, _, rfl, xI_cq h0, _, _, rfl, xS_cq h1, _, _, rfl, xS_cq h2, _, _, rfl, xS_cq h3, _, _, rfl, xS_cq h4, rfl⟩
    · cases h
  eqc := fun d a b c1 c2 hd h1 h2 => by cases hd
def ofc28 : List (SV DD) → Option (DD 28)
 | [a0] => (xI a0).bind fun v0 => some v0
 | _ => none
def ce28 : CE DD := ⟨28, fun x => [.i .i64 (x)], ofc28, none⟩
theorem ceOk28 : ce28.Ok where
  rdi := @fun H ρ cs x => ⟨fun h => by
    obtain h := (show Dt.rd (α := Int) H cs x from h)
    subst h
    exact ⟨_, _, rfl, rfl, rfl⟩, fun h => by
    obtain ⟨v0, r0, e0, p0, e⟩ := h
    have e : r0 = [] := e
    subst e
    subst e0
    have p0 : v0 = _ := p0
    subst p0
    exact (show Dt.rd (α := Int) H _ x from rfl)⟩
  cq := @fun l x h => by
    change ofc28 l = some x at h
    unfold ofc28 at h
    split at h
    · obtain ⟨v0, h0, h⟩ := bindS h
      cases h
      exact ⟨_, _, rfl, xI_cq h0, rfl⟩
    · cases h
  eqc := fun d a b c1 c2 hd h1 h2 => by cases hd
def ofc24 : List (SV DD) → Option (DD 24)
 | [a0] => (xS 3 a0).bind fun v0 => some v0
 | _ => none
def ce24 : CE DD := ⟨24, fun x => [.fsl 3 (x)], ofc24, none⟩
theorem ceOk24 : ce24.Ok where
  rdi := @fun H ρ cs x => ⟨fun h => by
    obtain ⟨A0, n0, c0, s0, h, h0⟩ := (show Dt.rd (α := List Int) H cs x from h)
    subst h
    exact ⟨_, _, rfl, ⟨A0, n0, c0, s0, rfl, h0⟩, rfl⟩, fun h => by
    obtain ⟨v0, r0, e0, ⟨A0, n0, c0, s0, p0, h0⟩, e⟩ := h
    have e : r0 = [] := e
    subst e
    subst e0
    subst p0
    exact (show Dt.rd (α := List Int) H _ x from ⟨A0, n0, c0, s0, rfl, h0⟩)⟩
  cq := @fun l x h => by
    change ofc24 l = some x at h
    unfold ofc24 at h
    split at h
    · obtain ⟨v0, h0, h⟩ := bindS h
      cases h
      exact ⟨_, _, rfl, xS_cq h0, rfl⟩
    · cases h
  eqc := fun d a b c1 c2 hd h1 h2 => by cases hd
def ofc41 : List (SV DD) → Option (DD 41)
 | [a0] => (xS 72 a0).bind fun v0 => some v0
 | _ => none
def ce41 : CE DD := ⟨41, fun x => [.fsl 72 (x)], ofc41, none⟩
theorem ceOk41 : ce41.Ok where
  rdi := @fun H ρ cs x => ⟨fun h => by
    obtain ⟨A0, n0, c0, s0, h, h0⟩ := (show Dt.rd (α := List Sec) H cs x from h)
    subst h
    exact ⟨_, _, rfl, ⟨A0, n0, c0, s0, rfl, h0⟩, rfl⟩, fun h => by
    obtain ⟨v0, r0, e0, ⟨A0, n0, c0, s0, p0, h0⟩, e⟩ := h
    have e : r0 = [] := e
    subst e
    subst e0
    subst p0
    exact (show Dt.rd (α := List Sec) H _ x from ⟨A0, n0, c0, s0, rfl, h0⟩)⟩
  cq := @fun l x h => by
    change ofc41 l = some x at h
    unfold ofc41 at h
    split at h
    · obtain ⟨v0, h0, h⟩ := bindS h
      cases h
      exact ⟨_, _, rfl, xS_cq h0, rfl⟩
    · cases h
  eqc := fun d a b c1 c2 hd h1 h2 => by cases hd
def ofc33 : List (SV DD) → Option (DD 33)
 | [a0] => (xS 41 a0).bind fun v0 => some v0
 | _ => none
def ce33 : CE DD := ⟨33, fun x => [.fsl 41 (x)], ofc33, none⟩
theorem ceOk33 : ce33.Ok where
  rdi := @fun H ρ cs x => ⟨fun h => by
    obtain ⟨A0, n0, c0, s0, h, h0⟩ := (show Dt.rd (α := List (List Sec)) H cs x from h)
    subst h
    exact ⟨_, _, rfl, ⟨A0, n0, c0, s0, rfl, h0⟩, rfl⟩, fun h => by
    obtain ⟨v0, r0, e0, ⟨A0, n0, c0, s0, p0, h0⟩, e⟩ := h
    have e : r0 = [] := e
    subst e
    subst e0
    subst p0
    exact (show Dt.rd (α := List (List Sec)) H _ x from ⟨A0, n0, c0, s0, rfl, h0⟩)⟩
  cq := @fun l x h => by
    change ofc33 l = some x at h
    unfold ofc33 at h
    split at h
    · obtain ⟨v0, h0, h⟩ := bindS h
      cases h
      exact ⟨_, _, rfl, xS_cq h0, rfl⟩
    · cases h
  eqc := fun d a b c1 c2 hd h1 h2 => by cases hd
def ofc32 : List (SV DD) → Option (DD 32)
 | [a0] => (xS 41 a0).bind fun v0 => some v0
 | _ => none
def ce32 : CE DD := ⟨32, fun x => [.fsl 41 (x)], ofc32, none⟩
theorem ceOk32 : ce32.Ok where
  rdi := @fun H ρ cs x => ⟨fun h => by
    obtain ⟨A0, n0, c0, s0, h, h0⟩ := (show Dt.rd (α := List (List Sec)) H cs x from h)
    subst h
    exact ⟨_, _, rfl, ⟨A0, n0, c0, s0, rfl, h0⟩, rfl⟩, fun h => by
    obtain ⟨v0, r0, e0, ⟨A0, n0, c0, s0, p0, h0⟩, e⟩ := h
    have e : r0 = [] := e
    subst e
    subst e0
    subst p0
    exact (show Dt.rd (α := List (List Sec)) H _ x from ⟨A0, n0, c0, s0, rfl, h0⟩)⟩
  cq := @fun l x h => by
    change ofc32 l = some x at h
    unfold ofc32 at h
    split at h
    · obtain ⟨v0, h0, h⟩ := bindS h
      cases h
      exact ⟨_, _, rfl, xS_cq h0, rfl⟩
    · cases h
  eqc := fun d a b c1 c2 hd h1 h2 => by cases hd
def ofc5 : List (SV DD) → Option (DD 5)
 | [a0] => (xY a0).bind fun v0 => some v0
 | _ => none
def ce5 : CE DD := ⟨5, fun x => [.y (x)], ofc5, none⟩
theorem ceOk5 : ce5.Ok where
  rdi := @fun H ρ cs x => ⟨fun h => by
    obtain h := (show Dt.rd (α := BitVec 8) H cs x from h)
    subst h
    exact ⟨_, _, rfl, rfl, rfl⟩, fun h => by
    obtain ⟨v0, r0, e0, p0, e⟩ := h
    have e : r0 = [] := e
    subst e
    subst e0
    have p0 : v0 = _ := p0
    subst p0
    exact (show Dt.rd (α := BitVec 8) H _ x from rfl)⟩
  cq := @fun l x h => by
    change ofc5 l = some x at h
    unfold ofc5 at h
    split at h
    · obtain ⟨v0, h0, h⟩ := bindS h
      cases h
      exact ⟨_, _, rfl, xY_cq h0, rfl⟩
    · cases h
  eqc := fun d a b c1 c2 hd h1 h2 => by cases hd
def ofc93 : List (SV DD) → Option (DD 93)
 | [a0] => (xS 5 a0).bind fun v0 => some v0
 | _ => none
def ce93 : CE DD := ⟨93, fun x => [.fsl 5 (x)], ofc93, none⟩
theorem ceOk93 : ce93.Ok where
  rdi := @fun H ρ cs x => ⟨fun h => by
    obtain ⟨A0, n0, c0, s0, h, h0⟩ := (show Dt.rd (α := List (BitVec 8)) H cs x from h)
    subst h
    exact ⟨_, _, rfl, ⟨A0, n0, c0, s0, rfl, h0⟩, rfl⟩, fun h => by
    obtain ⟨v0, r0, e0, ⟨A0, n0, c0, s0, p0, h0⟩, e⟩ := h
    have e : r0 = [] := e
    subst e
    subst e0
    subst p0
    exact (show Dt.rd (α := List (BitVec 8)) H _ x from ⟨A0, n0, c0, s0, rfl, h0⟩)⟩
  cq := @fun l x h => by
    change ofc93 l = some x at h
    unfold ofc93 at h
    split at h
    · obtain ⟨v0, h0, h⟩ := bindS h
      cases h
      exact ⟨_, _, rfl, xS_cq h0, rfl⟩
    · cases h
  eqc := fun d a b c1 c2 hd h1 h2 => by cases hd
def ofc46 : List (SV DD) → Option (DD 46)
 | [a0, a1, a2, a3, a4] => (xI a0).bind fun v0 => (xI a1).bind fun v1 => (xI a2).bind fun v2 => (xS 3 a3).bind fun v3 => (xS 43 a4).bind fun v4 => some ⟨v0, v1, v2, v3, v4⟩
 | _ => none
def ce46 : CE DD := ⟨46, fun x => [.i .i64 (x.Base), .i .i64 (x.Number), .i .i64 (x.Time), .fsl 3 (x.Positions), .fsl 43 (x.Writes)], ofc46, none⟩
theorem ceOk46 : ce46.Ok where
  rdi := @fun H ρ cs x => ⟨fun h => by
    obtain ⟨A0, n0, c0, s0, A1, n1, c1, s1, h, h0, h1⟩ := (show Dt.rd (α := api_Cycle) H cs x from h)
    subst h
    exact ⟨_, _, rfl, rfl, _, _, rfl, rfl, _, _, rfl, rfl, _, _, rfl, ⟨A0, n0, c0, s0, rfl, h0⟩, _, _, rfl, ⟨A1, n1, c1, s1, rfl, h1⟩, rfl⟩, fun h => by
    obtain ⟨v0, r0, e0, p0, v1, r1, e1, p1, v2, r2, e2, p2, v3, r3, e3, ⟨A0, n0, c0, s0, p3, h0⟩, v4, r4, e4, ⟨A1, n1, c1, s1, p4, h1⟩, e⟩ := h
    have e : r4 = [] := e
    subst e
    subst e4
    subst e3
    subst e2
    subst e1
    subst e0
    have p0 : v0 = _ := p0
    subst p0
    have p1 : v1 = _ := p1
    subst p1
    have p2 : v2 = _ := p2
    subst p2
    subst p3
    subst p4
    exact (show Dt.rd (α := api_Cycle) H _ x from ⟨A0, n0, c0, s0, A1, n1, c1, s1, rfl, h0, h1⟩)⟩
  cq := @fun l x h => by
    change ofc46 l = some x at h
    unfold ofc46 at h
    split at h
    · obtain ⟨v0, h0, h⟩ := bindS h
      obtain ⟨v1, h1, h⟩ := bindS h
      obtain ⟨v2, h2, h⟩ := bindS h
      obtain ⟨v3, h3, h⟩ := bindS h
      obtain ⟨v4, h4, h⟩ := bindS h
      cases h
      exact ⟨_, _, rfl, xI_cq h0, _, _, rfl, xI_cq h1, _, _, rfl, xI_cq h2, _, _, rfl, xS_cq h3, _, _, rfl, xS_cq h4, rfl⟩
    · cases h
  eqc := fun d a b c1 c2 hd h1 h2 => by cases hd
def ofc75 : List (SV DD) → Option (DD 75)
 | [a0, a1, a2, a3, a4, a5] => (xI a0).bind fun v0 => (xS 3 a1).bind fun v1 => (xS 3 a2).bind fun v2 => (xS 3 a3).bind fun v3 => (xS 43 a4).bind fun v4 => (xS 4 a5).bind fun v5 => some ⟨⟨v0, v1, v2, v3, v4⟩, v5⟩
 | _ => none
def ce75 : CE DD := ⟨75, fun x => [.i .i64 (x.c.Number), .fsl 3 (x.c.Sizes), .fsl 3 (x.c.Positions), .fsl 3 (x.c.Nodes), .fsl 43 (x.c.Writes), .fsl 4 (x.part)], ofc75, none⟩
theorem ceOk75 : ce75.Ok where
  rdi := @fun H ρ cs x => ⟨fun h => by
    obtain ⟨A0, n0, c0, s0, A1, n1, c1, s1, A2, n2, c2, s2, A3, n3, c3, s3, A4, n4, c4, s4, h, h0, h1, h2, h3, h4⟩ := (show Dt.rd (α := cycle_division) H cs x from h)
    subst h
    exact ⟨_, _, rfl, rfl, _, _, rfl, ⟨A0, n0, c0, s0, rfl, h0⟩, _, _, rfl, ⟨A1, n1, c1, s1, rfl, h1⟩, _, _, rfl, ⟨A2, n2, c2, s2, rfl, h2⟩, _, _, rfl, ⟨A3, n3, c3, s3, rfl, h3⟩, _, _, rfl, ⟨A4, n4, c4, s4, rfl, h4⟩, rfl⟩, fun h => by
    obtain ⟨v0, r0, e0, p0, v1, r1, e1, ⟨A0, n0, c0, s0, p1, h0⟩, v2, r2, e2, ⟨A1, n1, c1, s1, p2, h1⟩, v3, r3, e3, ⟨A2, n2, c2, s2, p3, h2⟩, v4, r4, e4, ⟨A3, n3, c3, s3, p4, h3⟩, v5, r5, e5, ⟨A4, n4, c4, s4, p5, h4⟩, e⟩ := h
    have e : r5 = [] := e
    subst e
    subst e5
    subst e4
    subst e3
    subst e2
    subst e1
    subst e0
    have p0 : v0 = _ := p0
    subst p0
    subst p1
    subst p2
    subst p3
    subst p4
    subst p5
    exact (show Dt.rd (α := cycle_division) H _ x from ⟨A0, n0, c0, s0, A1, n1, c1, s1, A2, n2, c2, s2, A3, n3, c3, s3, A4, n4, c4, s4, rfl, h0, h1, h2, h3, h4⟩)⟩
  cq := @fun l x h => by
    change ofc75 l = some x at h
    unfold ofc75 at h
    split at h
    · obtain ⟨v0, h0, h⟩ := bindS h
      obtain ⟨v1, h1, h⟩ := bindS h
      obtain ⟨v2, h2, h⟩ := bindS h
      obtain ⟨v3, h3, h⟩ := bindS h
      obtain ⟨v4, h4, h⟩ := bindS h
      obtain ⟨v5, h5, h⟩ := bindS h
      cases h
      exact ⟨_, _, rfl, xI_cq h0, _, _, rfl, xS_cq h1, _, _, rfl, xS_cq h2, _, _, rfl, xS_cq h3, _, _, rfl, xS_cq h4, _, _, rfl, xS_cq h5, rfl⟩
    · cases h
  eqc := fun d a b c1 c2 hd h1 h2 => by cases hd
def ofc25 : List (SV DD) → Option (DD 25)
 | [a0] => (xS 43 a0).bind fun v0 => some v0
 | _ => none
def ce25 : CE DD := ⟨25, fun x => [.fsl 43 (x)], ofc25, none⟩
theorem ceOk25 : ce25.Ok where
  rdi := @fun H ρ cs x => ⟨fun h => by
    obtain ⟨A0, n0, c0, s0, h, h0⟩ := (show Dt.rd (α := List api_Write) H cs x from h)
    subst h
    exact ⟨_, _, rfl, ⟨A0, n0, c0, s0, rfl, h0⟩, rfl⟩, fun h => by
    obtain ⟨v0, r0, e0, ⟨A0, n0, c0, s0, p0, h0⟩, e⟩ := h
    have e : r0 = [] := e
    subst e
    subst e0
    subst p0
    exact (show Dt.rd (α := List api_Write) H _ x from ⟨A0, n0, c0, s0, rfl, h0⟩)⟩
  cq := @fun l x h => by
    change ofc25 l = some x at h
    unfold ofc25 at h
    split at h
    · obtain ⟨v0, h0, h⟩ := bindS h
      cases h
      exact ⟨_, _, rfl, xS_cq h0, rfl⟩
    · cases h
  eqc := fun d a b c1 c2 hd h1 h2 => by cases hd
def ofc119 : List (SV DD) → Option (DD 119)
 | [a0, a1] => (xI a0).bind fun v0 => (xI a1).bind fun v1 => some ⟨v0, v1⟩
 | _ => none
def ce119 : CE DD := ⟨119, fun x => [.i .i64 (x.volume), .i .i64 (x.sector)], ofc119, some (inferInstanceAs (DecidableEq coalesce_place))⟩
theorem sc119 (a b : coalesce_place) : (([.i .i64 (a.volume), .i .i64 (a.sector)] : List Sc) = [.i .i64 (b.volume), .i .i64 (b.sector)]) ↔ a = b := by
  cases a; cases b; simp
theorem ceOk119 : ce119.Ok where
  rdi := @fun H ρ cs x => ⟨fun h => by
    obtain h := (show Dt.rd (α := coalesce_place) H cs x from h)
    subst h
    exact ⟨_, _, rfl, rfl, _, _, rfl, rfl, rfl⟩, fun h => by
    obtain ⟨v0, r0, e0, p0, v1, r1, e1, p1, e⟩ := h
    have e : r1 = [] := e
    subst e
    subst e1
    subst e0
    have p0 : v0 = _ := p0
    subst p0
    have p1 : v1 = _ := p1
    subst p1
    exact (show Dt.rd (α := coalesce_place) H _ x from rfl)⟩
  cq := @fun l x h => by
    change ofc119 l = some x at h
    unfold ofc119 at h
    split at h
    · obtain ⟨v0, h0, h⟩ := bindS h
      obtain ⟨v1, h1, h⟩ := bindS h
      cases h
      exact ⟨_, _, rfl, xI_cq h0, _, _, rfl, xI_cq h1, rfl⟩
    · cases h
  eqc := fun d a b c1 c2 hd h1 h2 => by
    cases h1; cases h2
    exact sc119 a b
def ofc128 : List (SV DD) → Option (DD 128)
 | [a0] => (xW a0).bind fun v0 => some v0
 | _ => none
def ce128 : CE DD := ⟨128, fun x => [.w (x)], ofc128, none⟩
theorem ceOk128 : ce128.Ok where
  rdi := @fun H ρ cs x => ⟨fun h => by
    obtain h := (show Dt.rd (α := BitVec 64) H cs x from h)
    subst h
    exact ⟨_, _, rfl, rfl, rfl⟩, fun h => by
    obtain ⟨v0, r0, e0, p0, e⟩ := h
    have e : r0 = [] := e
    subst e
    subst e0
    have p0 : v0 = _ := p0
    subst p0
    exact (show Dt.rd (α := BitVec 64) H _ x from rfl)⟩
  cq := @fun l x h => by
    change ofc128 l = some x at h
    unfold ofc128 at h
    split at h
    · obtain ⟨v0, h0, h⟩ := bindS h
      cases h
      exact ⟨_, _, rfl, xW_cq h0, rfl⟩
    · cases h
  eqc := fun d a b c1 c2 hd h1 h2 => by cases hd
def ofc139 : List (SV DD) → Option (DD 139)
 | [a0] => (xW a0).bind fun v0 => some v0
 | _ => none
def ce139 : CE DD := ⟨139, fun x => [.w (x)], ofc139, none⟩
theorem ceOk139 : ce139.Ok where
  rdi := @fun H ρ cs x => ⟨fun h => by
    obtain h := (show Dt.rd (α := BitVec 64) H cs x from h)
    subst h
    exact ⟨_, _, rfl, rfl, rfl⟩, fun h => by
    obtain ⟨v0, r0, e0, p0, e⟩ := h
    have e : r0 = [] := e
    subst e
    subst e0
    have p0 : v0 = _ := p0
    subst p0
    exact (show Dt.rd (α := BitVec 64) H _ x from rfl)⟩
  cq := @fun l x h => by
    change ofc139 l = some x at h
    unfold ofc139 at h
    split at h
    · obtain ⟨v0, h0, h⟩ := bindS h
      cases h
      exact ⟨_, _, rfl, xW_cq h0, rfl⟩
    · cases h
  eqc := fun d a b c1 c2 hd h1 h2 => by cases hd
def ofc114 : List (SV DD) → Option (DD 114)
 | [a0] => (xS 25 a0).bind fun v0 => some v0
 | _ => none
def ce114 : CE DD := ⟨114, fun x => [.fsl 25 (x)], ofc114, none⟩
theorem ceOk114 : ce114.Ok where
  rdi := @fun H ρ cs x => ⟨fun h => by
    obtain ⟨A0, n0, c0, s0, h, h0⟩ := (show Dt.rd (α := List (List api_Write)) H cs x from h)
    subst h
    exact ⟨_, _, rfl, ⟨A0, n0, c0, s0, rfl, h0⟩, rfl⟩, fun h => by
    obtain ⟨v0, r0, e0, ⟨A0, n0, c0, s0, p0, h0⟩, e⟩ := h
    have e : r0 = [] := e
    subst e
    subst e0
    subst p0
    exact (show Dt.rd (α := List (List api_Write)) H _ x from ⟨A0, n0, c0, s0, rfl, h0⟩)⟩
  cq := @fun l x h => by
    change ofc114 l = some x at h
    unfold ofc114 at h
    split at h
    · obtain ⟨v0, h0, h⟩ := bindS h
      cases h
      exact ⟨_, _, rfl, xS_cq h0, rfl⟩
    · cases h
  eqc := fun d a b c1 c2 hd h1 h2 => by cases hd
def tab : Tb DD := [ce4, ce39, ce22, ce3, ce72, ce43, ce27, ce28, ce24, ce41, ce33, ce32, ce5, ce93, ce46, ce75, ce25, ce119, ce128, ce139, ce114]
theorem tabOk : TbOk tab := ⟨ceOk4, ceOk39, ceOk22, ceOk3, ceOk72, ceOk43, ceOk27, ceOk28, ceOk24, ceOk41, ceOk33, ceOk32, ceOk5, ceOk93, ceOk46, ceOk75, ceOk25, ceOk119, ceOk128, ceOk139, ceOk114, trivial⟩
theorem rd5 : ReadsD Try.prog 5 (BitVec 8) := ReadsD.byte Try.underlying5 (by kernel_rfl)
theorem rd4 : ReadsD Try.prog 4 (Bool) := ReadsD.bool Try.underlying4 (by kernel_rfl)
instance rg_Arr3_uint8 : Rg Arr3_uint8 := ⟨fun x => Rg.rg x.e0 ∧ Rg.rg x.e1 ∧ Rg.rg x.e2⟩
theorem rd37 : ReadsD Try.prog 37 (Arr3_uint8) := @Reads.mk Try.prog 37 Arr3_uint8 (datD _) (by kernel_rfl) fun h => by
  obtain ⟨xs, hl, hD, hg⟩ := arr_read Try.underlying37 rd5 (by kernel_rfl) h
  match xs, hl, hD, hg with
  | [a0, a1, a2], _, hD, hg =>
    obtain ⟨_, _, rfl, rfl, _, _, rfl, rfl, _, _, rfl, rfl, hz⟩ := hD
    cases hz
    exact ⟨⟨a0, a1, a2⟩, rfl, hg a0 (by simp), hg a1 (by simp), hg a2 (by simp)⟩
instance rg_standbylaw23_Step : Rg standbylaw23_Step := ⟨fun x => Rg.rg x.Node ∧ Rg.rg x.Volume ∧ Rg.rg x.Start ∧ Rg.rg x.Count ∧ Rg.rg x.First ∧ Rg.rg x.Close ∧ Rg.rg x.More⟩
theorem rd39 : ReadsD Try.prog 39 (standbylaw23_Step) := (@Reads.struct Try.prog 39 _ (BitVec 8 × BitVec 8 × BitVec 8 × BitVec 8 × BitVec 8 × Bool × Arr3_uint8 × Unit) (@datProd _ _ (datD (BitVec 8)) (@datProd _ _ (datD (BitVec 8)) (@datProd _ _ (datD (BitVec 8)) (@datProd _ _ (datD (BitVec 8)) (@datProd _ _ (datD (BitVec 8)) (@datProd _ _ (datD (Bool)) (@datProd _ _ (datD (Arr3_uint8)) datUnit))))))) Try.underlying39 (by kernel_rfl) (@Fields.cons _ _ _ _ _ _ (datD (BitVec 8)) _ rfl rd5 (@Fields.cons _ _ _ _ _ _ (datD (BitVec 8)) _ rfl rd5 (@Fields.cons _ _ _ _ _ _ (datD (BitVec 8)) _ rfl rd5 (@Fields.cons _ _ _ _ _ _ (datD (BitVec 8)) _ rfl rd5 (@Fields.cons _ _ _ _ _ _ (datD (BitVec 8)) _ rfl rd5 (@Fields.cons _ _ _ _ _ _ (datD (Bool)) _ rfl rd4 (@Fields.cons _ _ _ _ _ _ (datD (Arr3_uint8)) _ rfl rd37 (.nil _))))))))).map rfl fun {H cs a} h => by
  obtain ⟨a0, a1, a2, a3, a4, a5, a6, _⟩ := a
  obtain ⟨_, _, rfl, ⟨rfl, r0⟩, _, _, rfl, ⟨rfl, r1⟩, _, _, rfl, ⟨rfl, r2⟩, _, _, rfl, ⟨rfl, r3⟩, _, _, rfl, ⟨rfl, r4⟩, _, _, rfl, ⟨rfl, r5⟩, _, _, rfl, ⟨rfl, r6⟩, hz⟩ := h
  cases hz
  exact ⟨⟨a0, a1, a2, a3, a4, a5, a6⟩, rfl, r0, r1, r2, r3, r4, r5, r6⟩
theorem rd22 : ReadsD Try.prog 22 (List standbylaw23_Step) := ReadsD.slice Try.underlying22 (by kernel_rfl) rd39 (by decide)
end Go.Proofs.Ytcobdlnefjdhgaa
namespace Go.Proofs.Ytcobdlnefjdhgaa
open Go.RowKit Go.ChangeShapes Go.WideShapes Go.ChangeAt
theorem Try.own : ownKnob Try.prog.godebug = none := by kernel_rfl
theorem Try.laidOut : laidOutB Try.prog = true := by kernel_rfl
theorem lawRes (y : TupD DD [4]) (hy : y.1 = true) {H : Hp} {v : Value} {L : List Ent} (hr : ResR Try.prog tab [4] [[false]] y H v L) : ∃ z, z = true ∧ v = .bool z ∧ L = [] := by
  obtain ⟨ρ, _, _, _, _, h1, h2⟩ := hr 0 (fun _ => none) (fun _ _ => rfl) _ _ _ (show resE Try.prog tab _ _ y 0 = some (.b y.1, [], 0) by kernel_rfl)
  exact ⟨y.1, hy, h1, h2⟩
theorem pkw22 (v : Value) (cs : List Value) : PkR Try.prog 22 v cs = (cs = [v]) := by kernel_rfl
end Go.Proofs.Ytcobdlnefjdhgaa
namespace Go.Proofs.Ytcobdlnefjdhgaa
open Go.RowKit
def Z0 (x0 : Int) (Φ : Bool → Prop) : Prop :=
 (x0 < 1 →
 Φ true) ∧
 (¬ (x0 < 1) →
 Φ (decide (4096 < x0)))
def Z1 (x0 : List Int) (Φ : Int → Prop) : (Int) → ((Int) → Prop) → Prop
 | v1, rec1 =>
 (v1 < (x0.length : Int) →
 inX v1 x0.length ∧
 Z0 (ix x0 v1) fun v2 =>
 (v2 = true →
 (0 ≤ v1 →
 Φ 2) ∧
 (¬ (0 ≤ v1) →
 Φ 0)) ∧
 (¬ (v2 = true) →
 inI (v1 + 1) ∧
 rec1 (v1 + 1))) ∧
 (¬ (v1 < (x0.length : Int)) →
 (0 ≤ ((-1) : Int) →
 Φ 2) ∧
 (¬ (0 ≤ ((-1) : Int)) →
 Φ 0))
def Z2 (x0 : List Int) (Φ : Int → Prop) : Prop :=
 ((x0.length : Int) < 1 →
 Φ 6) ∧
 (¬ ((x0.length : Int) < 1) →
 (8 < (x0.length : Int) →
 Φ 6) ∧
 (¬ (8 < (x0.length : Int)) →
 LoopW (Z1 x0 Φ) 0))
def image_New_1_W (x0 : Int) (Φ : List Sec → Prop) : Prop :=
 0 ≤ x0 ∧
 lenOk x0.toNat 8 ∧
 Φ (List.replicate x0.toNat (sec0 : Sec))
def image_New_L1 (x0 : List Int) (Φ : List (List Sec) × Int → Prop) : (Int × List (List Sec)) → ((Int × List (List Sec)) → Prop) → Prop
 | (v2, v3), rec1 =>
 (v2 < (x0.length : Int) →
 inX v2 x0.length ∧
 image_New_1_W (ix x0 v2) fun v4 =>
 lenOk (v3 ++ ([v4] : List (List Sec))).length 24 ∧
 inI (v2 + 1) ∧
 rec1 ((v2 + 1), (v3 ++ ([v4] : List (List Sec))))) ∧
 (¬ (v2 < (x0.length : Int)) →
 Φ (v3, 0))
def image_New_W (x0 : List Int) (Φ : List (List Sec) × Int → Prop) : Prop :=
 Z2 x0 fun v1 =>
 (v1 ≠ 0 →
 Φ (([] : List (List Sec)), v1)) ∧
 (¬ (v1 ≠ 0) →
 0 ≤ (x0.length : Int) ∧
 lenOk (x0.length : Int).toNat 24 ∧
 LoopW (image_New_L1 x0 Φ) (0, ([] : List (List Sec))))
def cycle_in_W (x0 : Int) (x1 : Int) (x2 : Int) (Φ : Bool → Prop) : Prop :=
 (x1 ≤ x0 →
 Φ (decide (x0 ≤ x2))) ∧
 (¬ (x1 ≤ x0) →
 Φ false)
def Z3 (x0 : List Int) (Φ : List Int → Prop) : Prop :=
 (x0 = [] →
 Φ ([] : List Int)) ∧
 (
 lenOk (([] : List Int) ++ x0).length 8 ∧
 Φ (([] : List Int) ++ x0))
def cycle_Open_W (x0 : List Int) (x1 : Int) (x2 : Int) (Φ : api_Capture × Int → Prop) : Prop :=
 image_New_W x0 fun v1 =>
 (v1.2 ≠ 0 →
 Φ ((api_Capture.mk 0 ([] : List Int) ([] : List Int) ([] : List Int) ([] : List api_Write)), v1.2)) ∧
 (¬ (v1.2 ≠ 0) →
 cycle_in_W x1 1 8 fun v2 =>
 (¬ (v2 = true) →
 Φ ((api_Capture.mk 0 ([] : List Int) ([] : List Int) ([] : List Int) ([] : List api_Write)), 6)) ∧
 (¬ (¬ (v2 = true)) →
 cycle_in_W x2 0 1073741823 fun v3 =>
 (¬ (v3 = true) →
 Φ ((api_Capture.mk 0 ([] : List Int) ([] : List Int) ([] : List Int) ([] : List api_Write)), 2)) ∧
 (¬ (¬ (v3 = true)) →
 ∃ v4 : List Int × Unit, Z3 x0 (fun z => (z, ()) = v4) ∧
 0 ≤ x1 ∧
 lenOk x1.toNat 8 ∧
 Φ ((api_Capture.mk x2 v4.1 (List.replicate x1.toNat (0 : Int)) ([] : List Int) ([] : List api_Write)), 0))))
def Z4 (x0 : Int) (x1 : Int) (x2 : List (BitVec 8)) (Φ : api_Write → Prop) : (Int × List Sec) → ((Int × List Sec) → Prop) → Prop
 | (v1, v2), rec1 =>
 (v1 < (x2.length : Int) →
 inX v1 x2.length ∧
 lenOk (v2 ++ ([(Sec.mk (ix x2 v1) (0#8) (0#8) (0#8) (0#8) (0#8) (0#8) (0#8))] : List Sec)).length 8 ∧
 inI (v1 + 1) ∧
 rec1 ((v1 + 1), (v2 ++ ([(Sec.mk (ix x2 v1) (0#8) (0#8) (0#8) (0#8) (0#8) (0#8) (0#8))] : List Sec)))) ∧
 (¬ (v1 < (x2.length : Int)) →
 Φ (api_Write.mk x0 x1 v2))
def law23_write_W (x0 : Int) (x1 : Int) (x2 : List (BitVec 8)) (Φ : api_Write → Prop) : Prop :=
 LoopW (Z4 x0 x1 x2 Φ) (0, ([] : List Sec))
def Z5 (x0 : Int) (Φ : Bool → Prop) : Prop :=
 cycle_in_W x0 0 1073741824 fun v1 =>
 Φ (decide (¬ (v1 = true)))
def Z6 (x0 : List Int) (Φ : Int → Prop) : (Int) → ((Int) → Prop) → Prop
 | v2, rec1 =>
 (v2 < (x0.length : Int) →
 inX v2 x0.length ∧
 Z5 (ix x0 v2) fun v3 =>
 (v3 = true →
 (0 ≤ v2 →
 Φ 2) ∧
 (¬ (0 ≤ v2) →
 Φ 0)) ∧
 (¬ (v3 = true) →
 inI (v2 + 1) ∧
 rec1 (v2 + 1))) ∧
 (¬ (v2 < (x0.length : Int)) →
 (0 ≤ ((-1) : Int) →
 Φ 2) ∧
 (¬ (0 ≤ ((-1) : Int)) →
 Φ 0))
def Z7 (x0 : List Int) (x1 : Int) (Φ : Int → Prop) : Prop :=
 cycle_in_W (x0.length : Int) x1 8 fun v1 =>
 (¬ (v1 = true) →
 Φ 6) ∧
 (¬ (¬ (v1 = true)) →
 LoopW (Z6 x0 Φ) 0)
def Z8 (x0 : List Sec) (Φ : Int → Prop) : Prop :=
 Φ (x0.length : Int)
def Z9 (x0 : List (List Sec)) (Φ : List Int → Prop) : (Int × List Int) → ((Int × List Int) → Prop) → Prop
 | (v1, v2), rec1 =>
 (v1 < (x0.length : Int) →
 inX v1 x0.length ∧
 Z8 (ix x0 v1) fun v3 =>
 lenOk (v2 ++ ([v3] : List Int)).length 8 ∧
 inI (v1 + 1) ∧
 rec1 ((v1 + 1), (v2 ++ ([v3] : List Int)))) ∧
 (¬ (v1 < (x0.length : Int)) →
 Φ v2)
def image_sizes_W (x0 : List (List Sec)) (Φ : List Int → Prop) : Prop :=
 0 ≤ (x0.length : Int) ∧
 lenOk (x0.length : Int).toNat 8 ∧
 LoopW (Z9 x0 Φ) (0, ([] : List Int))
def image_Check_W (x0 : List (List Sec)) (Φ : Int → Prop) : Prop :=
 image_sizes_W x0 fun v1 =>
 Z2 v1 fun v2 =>
 Φ v2
def image_fits_J1 (x0 : List (List Sec)) (x1 : api_Write) (Φ : Int → Prop) : Bool → Prop
 | v1 =>
 (v1 = true →
 Φ 7) ∧
 (¬ (v1 = true) →
 ((x1.Data.length : Int) = 0 →
 Φ 1) ∧
 (¬ ((x1.Data.length : Int) = 0) →
 (x1.Start < 0 →
 Φ 2) ∧
 (¬ (x1.Start < 0) →
 inX x1.Volume x0.length ∧
 inI (((ix x0 x1.Volume).length : Int) - (x1.Data.length : Int)) ∧
 ((((ix x0 x1.Volume).length : Int) - (x1.Data.length : Int)) < x1.Start →
 Φ 2) ∧
 (¬ ((((ix x0 x1.Volume).length : Int) - (x1.Data.length : Int)) < x1.Start) →
 Φ 0))))
def image_fits_W (x0 : List (List Sec)) (x1 : api_Write) (Φ : Int → Prop) : Prop :=
 Join (image_fits_J1 x0 x1 Φ) fun J1 =>
 (x1.Volume < 0 →
 J1 true) ∧
 (¬ (x1.Volume < 0) →
 J1 (decide ((x0.length : Int) ≤ x1.Volume)))
def image_Fits_W (x0 : List (List Sec)) (x1 : api_Write) (Φ : Int → Prop) : Prop :=
 image_Check_W x0 fun v1 =>
 (v1 ≠ 0 →
 Φ v1) ∧
 (¬ (v1 ≠ 0) →
 image_fits_W x0 x1 fun v2 =>
 Φ v2)
def Z10 (x0 : List Sec) (Φ : List Sec → Prop) : Prop :=
 (x0 = [] →
 Φ ([] : List Sec)) ∧
 (
 lenOk (([] : List Sec) ++ x0).length 8 ∧
 Φ (([] : List Sec) ++ x0))
def Z11 (x0 : api_Write) (Φ : api_Write → Prop) : Prop :=
 Z10 x0.Data fun v1 =>
 Φ (api_Write.mk x0.Volume x0.Start v1)
def Z12 (x0 : api_Capture) (v1 : List Int × Unit) (v2 : List Int × Unit) (v3 : List Int × Unit) (Φ : api_Capture → Prop) : (Int × List api_Write) → ((Int × List api_Write) → Prop) → Prop
 | (v4, v5), rec1 =>
 (v4 < (x0.Writes.length : Int) →
 inX v4 x0.Writes.length ∧
 Z11 (ix x0.Writes v4) fun v6 =>
 lenOk (v5 ++ ([v6] : List api_Write)).length 40 ∧
 inI (v4 + 1) ∧
 rec1 ((v4 + 1), (v5 ++ ([v6] : List api_Write)))) ∧
 (¬ (v4 < (x0.Writes.length : Int)) →
 Φ (api_Capture.mk x0.Number v1.1 v2.1 v3.1 v5))
def Z13 (x0 : api_Capture) (Φ : api_Capture → Prop) : Prop :=
 ∃ v1 : List Int × Unit, Z3 x0.Sizes (fun z => (z, ()) = v1) ∧
 ∃ v2 : List Int × Unit, Z3 x0.Positions (fun z => (z, ()) = v2) ∧
 ∃ v3 : List Int × Unit, Z3 x0.Nodes (fun z => (z, ()) = v3) ∧
 LoopW (Z12 x0 v1 v2 v3 Φ) (0, ([] : List api_Write))
def cycle_Add_L1 (x0 : api_Capture) (x1 : Int) (x2 : api_Write) (v1 : List (List Sec) × Int) (Φ : api_Capture × Int → Prop) : (Int) → ((Int) → Prop) → Prop
 | v4, rec1 =>
 (v4 < (x0.Writes.length : Int) →
 inX v4 x0.Writes.length ∧
 inX v4 x0.Nodes.length ∧
 inI ((x0.Positions.length : Int) - 1) ∧
 cycle_in_W (ix x0.Nodes v4) 0 ((x0.Positions.length : Int) - 1) fun v5 =>
 (¬ (v5 = true) →
 Φ ((api_Capture.mk 0 ([] : List Int) ([] : List Int) ([] : List Int) ([] : List api_Write)), 7)) ∧
 (¬ (¬ (v5 = true)) →
 image_Fits_W v1.1 (ix x0.Writes v4) fun v6 =>
 (¬ (v6 = 0) →
 Φ ((api_Capture.mk 0 ([] : List Int) ([] : List Int) ([] : List Int) ([] : List api_Write)), v6)) ∧
 (¬ (¬ (v6 = 0)) →
 inI (v4 + 1) ∧
 rec1 (v4 + 1)))) ∧
 (¬ (v4 < (x0.Writes.length : Int)) →
 inI ((x0.Positions.length : Int) - 1) ∧
 cycle_in_W x1 0 ((x0.Positions.length : Int) - 1) fun v7 =>
 (¬ (v7 = true) →
 Φ ((api_Capture.mk 0 ([] : List Int) ([] : List Int) ([] : List Int) ([] : List api_Write)), 7)) ∧
 (¬ (¬ (v7 = true)) →
 image_Fits_W v1.1 x2 fun v8 =>
 (¬ (v8 = 0) →
 Φ ((api_Capture.mk 0 ([] : List Int) ([] : List Int) ([] : List Int) ([] : List api_Write)), v8)) ∧
 (¬ (¬ (v8 = 0)) →
 (¬ ((x0.Writes.length : Int) < 4096) →
 Φ ((api_Capture.mk 0 ([] : List Int) ([] : List Int) ([] : List Int) ([] : List api_Write)), 11)) ∧
 (¬ (¬ ((x0.Writes.length : Int) < 4096)) →
 Z13 x0 fun v9 =>
 lenOk (v9.Nodes ++ ([x1] : List Int)).length 8 ∧
 ∃ v10 : api_Write × Unit, Z11 x2 (fun z => (z, ()) = v10) ∧
 lenOk (v9.Writes ++ ([v10.1] : List api_Write)).length 40 ∧
 Φ ((api_Capture.mk v9.Number v9.Sizes v9.Positions (v9.Nodes ++ ([x1] : List Int)) (v9.Writes ++ ([v10.1] : List api_Write))), 0)))))
def cycle_Add_W (x0 : api_Capture) (x1 : Int) (x2 : api_Write) (Φ : api_Capture × Int → Prop) : Prop :=
 image_New_W x0.Sizes fun v1 =>
 (¬ (v1.2 = 0) →
 Φ ((api_Capture.mk 0 ([] : List Int) ([] : List Int) ([] : List Int) ([] : List api_Write)), v1.2)) ∧
 (¬ (¬ (v1.2 = 0)) →
 cycle_in_W x0.Number 0 1073741823 fun v2 =>
 (¬ (v2 = true) →
 Φ ((api_Capture.mk 0 ([] : List Int) ([] : List Int) ([] : List Int) ([] : List api_Write)), 2)) ∧
 (¬ (¬ (v2 = true)) →
 Z7 x0.Positions 1 fun v3 =>
 (¬ (v3 = 0) →
 Φ ((api_Capture.mk 0 ([] : List Int) ([] : List Int) ([] : List Int) ([] : List api_Write)), v3)) ∧
 (¬ (¬ (v3 = 0)) →
 ((x0.Nodes.length : Int) = (x0.Writes.length : Int) →
 (¬ ((x0.Writes.length : Int) ≤ 4096) →
 Φ ((api_Capture.mk 0 ([] : List Int) ([] : List Int) ([] : List Int) ([] : List api_Write)), 6)) ∧
 (¬ (¬ ((x0.Writes.length : Int) ≤ 4096)) →
 LoopW (cycle_Add_L1 x0 x1 x2 v1 Φ) 0)) ∧
 (¬ ((x0.Nodes.length : Int) = (x0.Writes.length : Int)) →
 Φ ((api_Capture.mk 0 ([] : List Int) ([] : List Int) ([] : List Int) ([] : List api_Write)), 6)))))
def Z14 (x0 : Int) (Φ : Bool → Prop) : Prop :=
 Φ (decide (0 < x0))
def Z15 (x0 : cycle_division) (x1 : Bool) : (List (Int × api_Write × Unit) × Int) → ((List (Int × api_Write × Unit) × Int) → Prop) → Prop
 | (l1, v1), rec1 =>
 (v1 < (x0.c.Writes.length : Int) →
 inX v1 x0.c.Writes.length ∧
 inX v1 x0.part.length ∧
 ((ix x0.part v1) = x1 →
 Yl l1 fun v2 r3 => (v1, (ix x0.c.Writes v1), ()) = v2 ∧ (
 inI (v1 + 1) ∧
 rec1 (r3, (v1 + 1))) ∧ (
 True)) ∧
 (¬ ((ix x0.part v1) = x1) →
 inI (v1 + 1) ∧
 rec1 (l1, (v1 + 1)))) ∧
 (¬ (v1 < (x0.c.Writes.length : Int)) →
 l1 = [])
def cycle_division_writes_1_I (x0 : cycle_division) (x1 : Bool) (l : List (Int × api_Write × Unit)) : Prop :=
 LoopW (Z15 x0 x1) (l, 0)
def Z16 (x0 : api_Write) (Φ : Int → Prop) : Bool → Prop
 | v1 =>
 (v1 = true →
 Φ 7) ∧
 (¬ (v1 = true) →
 ((x0.Data.length : Int) = 0 →
 Φ 1) ∧
 (¬ ((x0.Data.length : Int) = 0) →
 (x0.Start < 0 →
 Φ 2) ∧
 (¬ (x0.Start < 0) →
 inI (4096 - (x0.Data.length : Int)) ∧
 ((4096 - (x0.Data.length : Int)) < x0.Start →
 Φ 2) ∧
 (¬ ((4096 - (x0.Data.length : Int)) < x0.Start) →
 Φ 0))))
def Z17 (x0 : api_Write) (Φ : Int → Prop) : Prop :=
 Join (Z16 x0 Φ) fun J1 =>
 (x0.Volume < 0 →
 J1 true) ∧
 (¬ (x0.Volume < 0) →
 J1 (decide (8 ≤ x0.Volume)))
def Z18 (x0 : coalesce_place) (Φ : coalesce_place → Prop) : Prop :=
 inI (x0.sector + 1) ∧
 Φ (coalesce_place.mk x0.volume (x0.sector + 1))
def Z19 (x0 : Int) (Φ : Bool → Prop) : Prop :=
 Φ (decide (x0 ≠ x0))
def Z20 (x0 : Int) (x1 : Int) (Φ : Int → Prop) : Prop :=
 Z19 x0 fun v1 =>
 Z19 x1 fun v2 =>
 (v1 = true →
 (v2 = true →
 Φ 0) ∧
 (¬ (v2 = true) →
 Φ (-1))) ∧
 (¬ (v1 = true) →
 (v2 = true →
 Φ 1) ∧
 (¬ (v2 = true) →
 (x0 < x1 →
 Φ (-1)) ∧
 (¬ (x0 < x1) →
 (x1 < x0 →
 Φ 1) ∧
 (¬ (x1 < x0) →
 Φ 0))))
def cmp_Or_int_L1 (x0 : List Int) (Φ : Int → Prop) : (Int) → ((Int) → Prop) → Prop
 | v1, rec1 =>
 (v1 < (x0.length : Int) →
 inX v1 x0.length ∧
 ((ix x0 v1) ≠ 0 →
 Φ (ix x0 v1)) ∧
 (¬ ((ix x0 v1) ≠ 0) →
 inI (v1 + 1) ∧
 rec1 (v1 + 1))) ∧
 (¬ (v1 < (x0.length : Int)) →
 Φ 0)
def cmp_Or_int_W (x0 : List Int) (Φ : Int → Prop) : Prop :=
 LoopW (cmp_Or_int_L1 x0 Φ) 0
def Z21 (x0 : coalesce_place) (x1 : coalesce_place) (Φ : Int → Prop) : Prop :=
 ∃ v1 : Int × Unit, Z20 x0.volume x1.volume (fun z => (z, ()) = v1) ∧
 ∃ v2 : Int × Unit, Z20 x0.sector x1.sector (fun z => (z, ()) = v2) ∧
 ∃ v3 : Int × Unit, cmp_Or_int_W ([v1.1, v2.1] : List Int) (fun z => (z, ()) = v3) ∧
 Φ v3.1
def pleB (a b : coalesce_place) : Bool := decide (a.volume < b.volume ∨ a.volume = b.volume ∧ a.sector ≤ b.sector)
def Z22 (xs : List coalesce_place) (Φ : List coalesce_place → Prop) : Prop := xs.length ≤ 1099511627776 ∧ Φ (sortG pleB xs)
def Z23 (x0 : List api_Write) (v3 : Int) (rec2 : (Int × (List (coalesce_place × Sec))) → Prop) (_ : List api_Write × Int → Prop) : (Int × Int × Int × (List (coalesce_place × Sec))) → ((Int × Int × Int × (List (coalesce_place × Sec))) → Prop) → Prop
 | (v5, v6, v7, v8), rec3 =>
 (v5 < (((ix x0 v3).Data).length : Int) →
 inX v5 ((ix x0 v3).Data).length ∧
 Z18 (coalesce_place.mk v6 v7) fun v9 =>
 inI (v5 + 1) ∧
 rec3 ((v5 + 1), v9.volume, v9.sector, (mput v8 (coalesce_place.mk v6 v7) (ix ((ix x0 v3).Data) v5)))) ∧
 (¬ (v5 < (((ix x0 v3).Data).length : Int)) →
 inI (v3 + 1) ∧
 rec2 ((v3 + 1), v8))
def Z24 (v4 : List (coalesce_place × Sec)) (v13 : List coalesce_place) (v14 : Int) (rec5 : (Int × Int × Int × List api_Write × List Sec) → Prop) (_ : List api_Write × Int → Prop) : List api_Write × List Sec → Prop
 | (v19, v20) =>
 inI ((v19.length : Int) - 1) ∧
 inX ((v19.length : Int) - 1) v19.length ∧
 ((v19.length : Int) - 1) + 1 = (v19.length : Int) ∧
 lenOk (v20 ++ ([(mget v4 (ix v13 v14) sec0)] : List Sec)).length 8 ∧
 Z18 (ix v13 v14) fun v21 =>
 inI (v14 + 1) ∧
 rec5 ((v14 + 1), v21.volume, v21.sector, v19, (v20 ++ ([(mget v4 (ix v13 v14) sec0)] : List Sec)))
def Z25 (v4 : List (coalesce_place × Sec)) (v13 : List coalesce_place) (Φ : List api_Write × Int → Prop) : (Int × Int × Int × List api_Write × List Sec) → ((Int × Int × Int × List api_Write × List Sec) → Prop) → Prop
 | (v14, v15, v16, v17, v18), rec5 =>
 (v14 < (v13.length : Int) →
 inX v14 v13.length ∧
 Join (Z24 v4 v13 v14 rec5 Φ) fun J6 =>
 ((ix v13 v14) ≠ (coalesce_place.mk v15 v16) →
 lenOk ((put v17 ((v17.length : Int) - 1) (api_Write.mk ((ix v17 ((v17.length : Int) - 1)).Volume) ((ix v17 ((v17.length : Int) - 1)).Start) v18)) ++ ([(api_Write.mk ((ix v13 v14).volume) ((ix v13 v14).sector) ([] : List Sec))] : List api_Write)).length 40 ∧
 J6 (((put v17 ((v17.length : Int) - 1) (api_Write.mk ((ix v17 ((v17.length : Int) - 1)).Volume) ((ix v17 ((v17.length : Int) - 1)).Start) v18)) ++ ([(api_Write.mk ((ix v13 v14).volume) ((ix v13 v14).sector) ([] : List Sec))] : List api_Write)), ([] : List Sec))) ∧
 (¬ ((ix v13 v14) ≠ (coalesce_place.mk v15 v16)) →
 J6 (v17, v18))) ∧
 (¬ (v14 < (v13.length : Int)) →
 Φ ((put v17 ((v17.length : Int) - 1) (api_Write.mk ((ix v17 ((v17.length : Int) - 1)).Volume) ((ix v17 ((v17.length : Int) - 1)).Start) v18)), 0))
def Z26 (v4 : List (coalesce_place × Sec)) (Φ : List api_Write × Int → Prop) : (((Nat × List Nat)) × List coalesce_place) → ((((Nat × List Nat)) × List coalesce_place) → Prop) → Prop
 | (v10, v11), rec4 =>
 v4.length = v10.1 ∧ ((∀ i, i < v4.length → i ∈ v10.2) →
 Z22 v11 fun v13 =>
 LoopW (Z25 v4 v13 Φ) (0, (-1), 0, ([] : List api_Write), ([] : List Sec))) ∧
 ∀ i12, i12 < v4.length → i12 ∉ v10.2 →
 v4.length = v10.1 ∧
 i12 < v4.length ∧
 lenOk (v11 ++ ([((ent v4 i12).1)] : List coalesce_place)).length 16 ∧
 rec4 ((v10.1, (i12 :: v10.2)), (v11 ++ ([((ent v4 i12).1)] : List coalesce_place)))
def Z27 (x0 : List api_Write) (Φ : List api_Write × Int → Prop) : (Int × (List (coalesce_place × Sec))) → ((Int × (List (coalesce_place × Sec))) → Prop) → Prop
 | (v3, v4), rec2 =>
 (v3 < (x0.length : Int) →
 inX v3 x0.length ∧
 LoopW (Z23 x0 v3 rec2 Φ) (0, (ix x0 v3).Volume, (ix x0 v3).Start, v4)) ∧
 (¬ (v3 < (x0.length : Int)) →
 0 ≤ (v4.length : Int) ∧
 lenOk (v4.length : Int).toNat 16 ∧
 LoopW (Z26 v4 Φ) ((v4.length, []), ([] : List coalesce_place)))
def Z28 (x0 : List api_Write) (Φ : List api_Write × Int → Prop) : (Int) → ((Int) → Prop) → Prop
 | v1, rec1 =>
 (v1 < (x0.length : Int) →
 inX v1 x0.length ∧
 Z17 (ix x0 v1) fun v2 =>
 (v2 ≠ 0 →
 Φ (([] : List api_Write), v2)) ∧
 (¬ (v2 ≠ 0) →
 inI (v1 + 1) ∧
 rec1 (v1 + 1))) ∧
 (¬ (v1 < (x0.length : Int)) →
 LoopW (Z27 x0 Φ) (0, ([] : List (coalesce_place × Sec))))
def Z29 (x0 : List api_Write) (Φ : List api_Write × Int → Prop) : Prop :=
 LoopW (Z28 x0 Φ) 0
def Z30 (v1 : api_Write) (v2 : List Sec) (rec1 : (List (Int × api_Write × Unit) × List Sec) → Prop) (v3 : Int × api_Write × Unit) (r4 : List (Int × api_Write × Unit)) (_ : api_Write → Prop) : (Int × List Sec) → ((Int × List Sec) → Prop) → Prop
 | (v6, v7), rec3 =>
 (v6 < (v2.length : Int) →
 inI (v1.Start + v6) ∧
 inI ((v1.Start + v6) - v3.2.1.Start) ∧
 inI ((v3.2.1.Data.length : Int) - 1) ∧
 cycle_in_W ((v1.Start + v6) - v3.2.1.Start) 0 ((v3.2.1.Data.length : Int) - 1) fun v8 =>
 (v8 = true →
 inX ((v1.Start + v6) - v3.2.1.Start) v3.2.1.Data.length ∧
 inX v6 v7.length ∧
 inI (v6 + 1) ∧
 rec3 ((v6 + 1), (put v7 v6 (ix v3.2.1.Data ((v1.Start + v6) - v3.2.1.Start))))) ∧
 (¬ (v8 = true) →
 inI (v6 + 1) ∧
 rec3 ((v6 + 1), v7))) ∧
 (¬ (v6 < (v2.length : Int)) →
 rec1 (r4, v7))
def Z31 (v1 : api_Write) (v2 : List Sec) (rec1 : (List (Int × api_Write × Unit) × List Sec) → Prop) (v3 : Int × api_Write × Unit) (r4 : List (Int × api_Write × Unit)) (Φ : api_Write → Prop) : Bool → Prop
 | v5 =>
 (v5 = true →
 rec1 (r4, v2)) ∧
 (¬ (v5 = true) →
 LoopW (Z30 v1 v2 rec1 v3 r4 Φ) (0, v2))
def Z32 (x1 : Int) (v1 : api_Write) (Φ : api_Write → Prop) : (List (Int × api_Write × Unit) × List Sec) → ((List (Int × api_Write × Unit) × List Sec) → Prop) → Prop
 | (lst, v2), rec1 =>
 match lst with
 | [] =>
 Φ (api_Write.mk v1.Volume v1.Start v2)
 | v3 :: r4 =>
 Join (Z31 v1 v2 rec1 v3 r4 Φ) fun J2 =>
 (v3.1 < x1 →
 J2 true) ∧
 (¬ (v3.1 < x1) →
 J2 (decide (v3.2.1.Volume ≠ v1.Volume)))
def Z33 (x0 : cycle_division) (x1 : Int) (x2 : api_Write) (Φ : api_Write → Prop) : Prop :=
 Z11 x2 fun v1 =>
 ∃ l9 : List (Int × api_Write × Unit), cycle_division_writes_1_I x0 true l9 ∧
 LoopW (Z32 x1 v1 Φ) (l9, v1.Data)
def Z34 (x0 : api_Capture) (x1 : Int) (v12 : List Bool) (v18 : List api_Write × Int) (v19 : List Int × Unit) (v20 : List Int × Unit) (v21 : List Int × Unit) (Φ : api_Capture × api_Cycle × Int → Prop) : (List (Int × api_Write × Unit) × (List Int × List api_Write)) → ((List (Int × api_Write × Unit) × (List Int × List api_Write)) → Prop) → Prop
 | (lst, v22, v23), rec6 =>
 match lst with
 | [] =>
 Φ ((api_Capture.mk (x0.Number + 1) v20.1 v21.1 v22 v23), (api_Cycle.mk x0.Number (x0.Number + 1) x1 v19.1 v18.1), 0)
 | v24 :: r25 =>
 inX v24.1 x0.Nodes.length ∧
 lenOk (v22 ++ ([(ix x0.Nodes v24.1)] : List Int)).length 8 ∧
 ∃ v26 : api_Write × Unit, Z33 (cycle_division.mk x0 v12) v24.1 v24.2.1 (fun z => (z, ()) = v26) ∧
 lenOk (v23 ++ ([v26.1] : List api_Write)).length 40 ∧
 rec6 (r25, ((v22 ++ ([(ix x0.Nodes v24.1)] : List Int)), (v23 ++ ([v26.1] : List api_Write))))
def Z35 (x0 : api_Capture) (x1 : Int) (x2 : List Int) (v12 : List Bool) (Φ : api_Capture × api_Cycle × Int → Prop) : (List (Int × api_Write × Unit) × List api_Write) → ((List (Int × api_Write × Unit) × List api_Write) → Prop) → Prop
 | (lst, v15), rec5 =>
 match lst with
 | [] =>
 Z29 v15 fun v18 =>
 (¬ (v18.2 = 0) →
 Φ ((api_Capture.mk 0 ([] : List Int) ([] : List Int) ([] : List Int) ([] : List api_Write)), (api_Cycle.mk 0 0 0 ([] : List Int) ([] : List api_Write)), v18.2)) ∧
 (¬ (¬ (v18.2 = 0)) →
 inI (x0.Number + 1) ∧
 ∃ v19 : List Int × Unit, Z3 x2 (fun z => (z, ()) = v19) ∧
 inI (x0.Number + 1) ∧
 ∃ v20 : List Int × Unit, Z3 x0.Sizes (fun z => (z, ()) = v20) ∧
 ∃ v21 : List Int × Unit, Z3 x2 (fun z => (z, ()) = v21) ∧
 ∃ l27 : List (Int × api_Write × Unit), cycle_division_writes_1_I (cycle_division.mk x0 v12) false l27 ∧
 LoopW (Z34 x0 x1 v12 v18 v19 v20 v21 Φ) (l27, (([] : List Int), ([] : List api_Write))))
 | v16 :: r17 =>
 lenOk (v15 ++ ([v16.2.1] : List api_Write)).length 40 ∧
 rec5 (r17, (v15 ++ ([v16.2.1] : List api_Write)))
def Z36 (x0 : api_Capture) (x1 : Int) (v12 : List Bool) (v32 : List api_Write × Int) (v33 : List Int × Unit) (v34 : List Int × Unit) (v35 : List Int × Unit) (Φ : api_Capture × api_Cycle × Int → Prop) : (List (Int × api_Write × Unit) × (List Int × List api_Write)) → ((List (Int × api_Write × Unit) × (List Int × List api_Write)) → Prop) → Prop
 | (lst, v36, v37), rec8 =>
 match lst with
 | [] =>
 Φ ((api_Capture.mk (x0.Number + 1) v34.1 v35.1 v36 v37), (api_Cycle.mk x0.Number (x0.Number + 1) x1 v33.1 v32.1), 0)
 | v38 :: r39 =>
 inX v38.1 x0.Nodes.length ∧
 lenOk (v36 ++ ([(ix x0.Nodes v38.1)] : List Int)).length 8 ∧
 ∃ v40 : api_Write × Unit, Z33 (cycle_division.mk x0 v12) v38.1 v38.2.1 (fun z => (z, ()) = v40) ∧
 lenOk (v37 ++ ([v40.1] : List api_Write)).length 40 ∧
 rec8 (r39, ((v36 ++ ([(ix x0.Nodes v38.1)] : List Int)), (v37 ++ ([v40.1] : List api_Write))))
def Z37 (x0 : api_Capture) (x1 : Int) (x2 : List Int) (v12 : List Bool) (Φ : api_Capture × api_Cycle × Int → Prop) : (List (Int × api_Write × Unit) × List api_Write) → ((List (Int × api_Write × Unit) × List api_Write) → Prop) → Prop
 | (lst, v29), rec7 =>
 match lst with
 | [] =>
 Z29 v29 fun v32 =>
 (¬ (v32.2 = 0) →
 Φ ((api_Capture.mk 0 ([] : List Int) ([] : List Int) ([] : List Int) ([] : List api_Write)), (api_Cycle.mk 0 0 0 ([] : List Int) ([] : List api_Write)), v32.2)) ∧
 (¬ (¬ (v32.2 = 0)) →
 inI (x0.Number + 1) ∧
 ∃ v33 : List Int × Unit, Z3 x2 (fun z => (z, ()) = v33) ∧
 inI (x0.Number + 1) ∧
 ∃ v34 : List Int × Unit, Z3 x0.Sizes (fun z => (z, ()) = v34) ∧
 ∃ v35 : List Int × Unit, Z3 x2 (fun z => (z, ()) = v35) ∧
 ∃ l41 : List (Int × api_Write × Unit), cycle_division_writes_1_I (cycle_division.mk x0 v12) false l41 ∧
 LoopW (Z36 x0 x1 v12 v32 v33 v34 v35 Φ) (l41, (([] : List Int), ([] : List api_Write))))
 | v30 :: r31 =>
 lenOk (v29 ++ ([v30.2.1] : List api_Write)).length 40 ∧
 rec7 (r31, (v29 ++ ([v30.2.1] : List api_Write)))
def Z38 (x0 : api_Capture) (x1 : Int) (x2 : List Int) (v11 : List Int) (v12 : List Bool) (Φ : api_Capture × api_Cycle × Int → Prop) : (Int) → ((Int) → Prop) → Prop
 | v13, rec4 =>
 (v13 < (v11.length : Int) →
 inX v13 v11.length ∧
 Z14 (ix v11 v13) fun v14 =>
 (v14 = true →
 (¬ (¬ (0 ≤ v13)) →
 Φ ((api_Capture.mk 0 ([] : List Int) ([] : List Int) ([] : List Int) ([] : List api_Write)), (api_Cycle.mk 0 0 0 ([] : List Int) ([] : List api_Write)), 2)) ∧
 (¬ (¬ (¬ (0 ≤ v13))) →
 ∃ l28 : List (Int × api_Write × Unit), cycle_division_writes_1_I (cycle_division.mk x0 v12) true l28 ∧
 LoopW (Z35 x0 x1 x2 v12 Φ) (l28, ([] : List api_Write)))) ∧
 (¬ (v14 = true) →
 inI (v13 + 1) ∧
 rec4 (v13 + 1))) ∧
 (¬ (v13 < (v11.length : Int)) →
 (¬ (¬ (0 ≤ ((-1) : Int))) →
 Φ ((api_Capture.mk 0 ([] : List Int) ([] : List Int) ([] : List Int) ([] : List api_Write)), (api_Cycle.mk 0 0 0 ([] : List Int) ([] : List api_Write)), 2)) ∧
 (¬ (¬ (¬ (0 ≤ ((-1) : Int)))) →
 ∃ l42 : List (Int × api_Write × Unit), cycle_division_writes_1_I (cycle_division.mk x0 v12) true l42 ∧
 LoopW (Z37 x0 x1 x2 v12 Φ) (l42, ([] : List api_Write))))
def Z39 (x0 : api_Capture) (x1 : Int) (x2 : List Int) (Φ : api_Capture × api_Cycle × Int → Prop) : (Int × List Int × List Bool) → ((Int × List Int × List Bool) → Prop) → Prop
 | (v10, v11, v12), rec3 =>
 (v10 < (x0.Nodes.length : Int) →
 inX v10 x0.Nodes.length ∧
 inX (ix x0.Nodes v10) v11.length ∧
 lenOk (v12 ++ ([decide (0 < (ix v11 (ix x0.Nodes v10)))] : List Bool)).length 1 ∧
 inX (ix x0.Nodes v10) v11.length ∧
 inI ((ix v11 (ix x0.Nodes v10)) - 1) ∧
 inX (ix x0.Nodes v10) v11.length ∧
 inI (v10 + 1) ∧
 rec3 ((v10 + 1), (put v11 (ix x0.Nodes v10) (if ((ix v11 (ix x0.Nodes v10)) - 1) < 0 then 0 else ((ix v11 (ix x0.Nodes v10)) - 1))), (v12 ++ ([decide (0 < (ix v11 (ix x0.Nodes v10)))] : List Bool)))) ∧
 (¬ (v10 < (x0.Nodes.length : Int)) →
 LoopW (Z38 x0 x1 x2 v11 v12 Φ) 0)
def Z40 (x0 : api_Capture) (x1 : Int) (x2 : List Int) (Φ : api_Capture × api_Cycle × Int → Prop) : (Int × List Int) → ((Int × List Int) → Prop) → Prop
 | (v8, v9), rec2 =>
 (v8 < (x2.length : Int) →
 inX v8 x2.length ∧
 inX v8 x0.Positions.length ∧
 inX v8 v9.length ∧
 inX v8 (put v9 v8 (Go.IntKind.wrap Go.IntKind.i64 ((ix x2 v8) - (ix x0.Positions v8)))).length ∧
 (¬ (0 ≤ (ix (put v9 v8 (Go.IntKind.wrap Go.IntKind.i64 ((ix x2 v8) - (ix x0.Positions v8)))) v8)) →
 Φ ((api_Capture.mk 0 ([] : List Int) ([] : List Int) ([] : List Int) ([] : List api_Write)), (api_Cycle.mk 0 0 0 ([] : List Int) ([] : List api_Write)), 2)) ∧
 (¬ (¬ (0 ≤ (ix (put v9 v8 (Go.IntKind.wrap Go.IntKind.i64 ((ix x2 v8) - (ix x0.Positions v8)))) v8))) →
 inI (v8 + 1) ∧
 rec2 ((v8 + 1), (put v9 v8 (Go.IntKind.wrap Go.IntKind.i64 ((ix x2 v8) - (ix x0.Positions v8))))))) ∧
 (¬ (v8 < (x2.length : Int)) →
 LoopW (Z39 x0 x1 x2 Φ) (0, v9, ([] : List Bool)))
def Z41 (x0 : api_Capture) (x1 : Int) (x2 : List Int) (v1 : List (List Sec) × Int) (Φ : api_Capture × api_Cycle × Int → Prop) : (Int) → ((Int) → Prop) → Prop
 | v4, rec1 =>
 (v4 < (x0.Writes.length : Int) →
 inX v4 x0.Writes.length ∧
 inX v4 x0.Nodes.length ∧
 inI ((x0.Positions.length : Int) - 1) ∧
 cycle_in_W (ix x0.Nodes v4) 0 ((x0.Positions.length : Int) - 1) fun v5 =>
 (¬ (v5 = true) →
 Φ ((api_Capture.mk 0 ([] : List Int) ([] : List Int) ([] : List Int) ([] : List api_Write)), (api_Cycle.mk 0 0 0 ([] : List Int) ([] : List api_Write)), 7)) ∧
 (¬ (¬ (v5 = true)) →
 image_Fits_W v1.1 (ix x0.Writes v4) fun v6 =>
 (¬ (v6 = 0) →
 Φ ((api_Capture.mk 0 ([] : List Int) ([] : List Int) ([] : List Int) ([] : List api_Write)), (api_Cycle.mk 0 0 0 ([] : List Int) ([] : List api_Write)), v6)) ∧
 (¬ (¬ (v6 = 0)) →
 inI (v4 + 1) ∧
 rec1 (v4 + 1)))) ∧
 (¬ (v4 < (x0.Writes.length : Int)) →
 cycle_in_W x1 0 1073741824 fun v7 =>
 (¬ (v7 = true) →
 Φ ((api_Capture.mk 0 ([] : List Int) ([] : List Int) ([] : List Int) ([] : List api_Write)), (api_Cycle.mk 0 0 0 ([] : List Int) ([] : List api_Write)), 24)) ∧
 (¬ (¬ (v7 = true)) →
 (¬ ((x2.length : Int) = (x0.Positions.length : Int)) →
 Φ ((api_Capture.mk 0 ([] : List Int) ([] : List Int) ([] : List Int) ([] : List api_Write)), (api_Cycle.mk 0 0 0 ([] : List Int) ([] : List api_Write)), 6)) ∧
 (¬ (¬ ((x2.length : Int) = (x0.Positions.length : Int))) →
 0 ≤ (x2.length : Int) ∧
 lenOk (x2.length : Int).toNat 8 ∧
 LoopW (Z40 x0 x1 x2 Φ) (0, (List.replicate (x2.length : Int).toNat (0 : Int))))))
def cycle_Close_W (x0 : api_Capture) (x1 : Int) (x2 : List Int) (Φ : api_Capture × api_Cycle × Int → Prop) : Prop :=
 image_New_W x0.Sizes fun v1 =>
 (¬ (v1.2 = 0) →
 Φ ((api_Capture.mk 0 ([] : List Int) ([] : List Int) ([] : List Int) ([] : List api_Write)), (api_Cycle.mk 0 0 0 ([] : List Int) ([] : List api_Write)), v1.2)) ∧
 (¬ (¬ (v1.2 = 0)) →
 cycle_in_W x0.Number 0 1073741823 fun v2 =>
 (¬ (v2 = true) →
 Φ ((api_Capture.mk 0 ([] : List Int) ([] : List Int) ([] : List Int) ([] : List api_Write)), (api_Cycle.mk 0 0 0 ([] : List Int) ([] : List api_Write)), 2)) ∧
 (¬ (¬ (v2 = true)) →
 Z7 x0.Positions 1 fun v3 =>
 (¬ (v3 = 0) →
 Φ ((api_Capture.mk 0 ([] : List Int) ([] : List Int) ([] : List Int) ([] : List api_Write)), (api_Cycle.mk 0 0 0 ([] : List Int) ([] : List api_Write)), v3)) ∧
 (¬ (¬ (v3 = 0)) →
 ((x0.Nodes.length : Int) = (x0.Writes.length : Int) →
 (¬ ((x0.Writes.length : Int) ≤ 4096) →
 Φ ((api_Capture.mk 0 ([] : List Int) ([] : List Int) ([] : List Int) ([] : List api_Write)), (api_Cycle.mk 0 0 0 ([] : List Int) ([] : List api_Write)), 6)) ∧
 (¬ (¬ ((x0.Writes.length : Int) ≤ 4096)) →
 LoopW (Z41 x0 x1 x2 v1 Φ) 0)) ∧
 (¬ ((x0.Nodes.length : Int) = (x0.Writes.length : Int)) →
 Φ ((api_Capture.mk 0 ([] : List Int) ([] : List Int) ([] : List Int) ([] : List api_Write)), (api_Cycle.mk 0 0 0 ([] : List Int) ([] : List api_Write)), 6)))))
def Z42 (x0 : List Sec) (x1 : List Sec) (Φ : Bool → Prop) : (Int) → ((Int) → Prop) → Prop
 | v1, rec1 =>
 (v1 < (x0.length : Int) →
 inX v1 x0.length ∧
 inX v1 x1.length ∧
 ((ix x0 v1) ≠ (ix x1 v1) →
 Φ false) ∧
 (¬ ((ix x0 v1) ≠ (ix x1 v1)) →
 inI (v1 + 1) ∧
 rec1 (v1 + 1))) ∧
 (¬ (v1 < (x0.length : Int)) →
 Φ true)
def Z43 (x0 : List Sec) (x1 : List Sec) (Φ : Bool → Prop) : Prop :=
 ((x0.length : Int) ≠ (x1.length : Int) →
 Φ false) ∧
 (¬ ((x0.length : Int) ≠ (x1.length : Int)) →
 LoopW (Z42 x0 x1 Φ) 0)
def Z44 (x0 : List api_Write) (x1 : List api_Write) (Φ : Bool → Prop) : (Int) → ((Int) → Prop) → Prop
 | v1, rec1 =>
 (v1 < (x0.length : Int) →
 inX v1 x0.length ∧
 inX v1 x1.length ∧
 (((ix x0 v1).Volume) ≠ ((ix x1 v1).Volume) →
 Φ false) ∧
 (¬ (((ix x0 v1).Volume) ≠ ((ix x1 v1).Volume)) →
 inX v1 x0.length ∧
 inX v1 x1.length ∧
 (((ix x0 v1).Start) ≠ ((ix x1 v1).Start) →
 Φ false) ∧
 (¬ (((ix x0 v1).Start) ≠ ((ix x1 v1).Start)) →
 inX v1 x0.length ∧
 inX v1 x1.length ∧
 ∃ v2 : Bool × Unit, Z43 ((ix x0 v1).Data) ((ix x1 v1).Data) (fun z => (z, ()) = v2) ∧
 (¬ (v2.1 = true) →
 Φ false) ∧
 (¬ (¬ (v2.1 = true)) →
 inI (v1 + 1) ∧
 rec1 (v1 + 1))))) ∧
 (¬ (v1 < (x0.length : Int)) →
 Φ true)
def Z45 (x0 : List api_Write) (x1 : List api_Write) (Φ : Bool → Prop) : Prop :=
 ((x0.length : Int) ≠ (x1.length : Int) →
 Φ false) ∧
 (¬ ((x0.length : Int) ≠ (x1.length : Int)) →
 LoopW (Z44 x0 x1 Φ) 0)
def ref22_Same_W (x0 : List api_Write) (x1 : List api_Write) (Φ : Bool → Prop) : Prop :=
 Z45 x0 x1 fun v1 =>
 Φ v1
def Z46 (x0 : BitVec 64) (x1 : BitVec 64) (Φ : BitVec 64 × BitVec 64 → Prop) : Prop :=
 Φ (((((x0 >>> ((32#64).toNat : Int).toNat) * (x1 >>> ((32#64).toNat : Int).toNat)) + ((((x0 >>> ((32#64).toNat : Int).toNat) * (x1 &&& (4294967295#64))) + (((x0 &&& (4294967295#64)) * (x1 &&& (4294967295#64))) >>> ((32#64).toNat : Int).toNat)) >>> ((32#64).toNat : Int).toNat)) + ((((((x0 >>> ((32#64).toNat : Int).toNat) * (x1 &&& (4294967295#64))) + (((x0 &&& (4294967295#64)) * (x1 &&& (4294967295#64))) >>> ((32#64).toNat : Int).toNat)) &&& (4294967295#64)) + ((x0 &&& (4294967295#64)) * (x1 >>> ((32#64).toNat : Int).toNat))) >>> ((32#64).toNat : Int).toNat)), (x0 * x1))
def Z47 (x0 : BitVec 64) (x1 : BitVec 64) (Φ : BitVec 64 × BitVec 64 → Prop) : Prop :=
 Z46 x0 x1 fun v1 =>
 Φ (v1.1, v1.2)
def Z48 (Φ : List Int → Prop) : (Int × List Int) → ((Int × List Int) → Prop) → Prop
 | (v3, v4), rec2 =>
 (v3 < (v4.length : Int) →
 inS v3 (v4.length : Int) v4.length ∧
 inS 0 v3 v4.length ∧
 inI (v3 + ((min (sub v4 0 v3).length (v4.length - (v3 : Int).toNat) : Nat) : Int)) ∧
 rec2 ((v3 + ((min (sub v4 0 v3).length (v4.length - (v3 : Int).toNat) : Nat) : Int)), (paste v4 v3 (sub v4 0 v3)))) ∧
 (¬ (v3 < (v4.length : Int)) →
 Φ v4)
def Z49 (x0 : List Int) (v1 : BitVec 64 × BitVec 64) (Φ : List Int → Prop) : Bool → Prop
 | v2 =>
 (v2 = true →
 False) ∧
 (¬ (v2 = true) →
 0 ≤ v1.2.toInt ∧
 lenOk v1.2.toInt.toNat 8 ∧
 LoopW (Z48 Φ) (((min x0.length ((List.replicate v1.2.toInt.toNat (0 : Int)).length - (0 : Int).toNat) : Nat) : Int), (paste (List.replicate v1.2.toInt.toNat (0 : Int)) 0 x0)))
def Z50 (x0 : List Int) (x1 : Int) (Φ : List Int → Prop) : Prop :=
 (x1 < 0 →
 False) ∧
 (¬ (x1 < 0) →
 Z47 (BitVec.ofInt 64 (x0.length : Int)) (BitVec.ofInt 64 x1) fun v1 =>
 Join (Z49 x0 v1 Φ) fun J1 =>
 ((0#64) < v1.1 →
 J1 true) ∧
 (¬ ((0#64) < v1.1) →
 J1 (decide ((9223372036854775807#64) < v1.2))))
def Z51 (Φ : List Int → Prop) : Prop :=
 Z50 ([4096] : List Int) 8 fun v1 =>
 Φ v1
def Z52 (x0 : List api_Write) (v1 : List (List Sec) × Int) (Φ : Int → Prop) : (Int) → ((Int) → Prop) → Prop
 | v2, rec1 =>
 (v2 < (x0.length : Int) →
 inX v2 x0.length ∧
 image_Fits_W v1.1 (ix x0 v2) fun v3 =>
 (v3 ≠ 0 →
 Φ v3) ∧
 (¬ (v3 ≠ 0) →
 (v2 = 0 →
 inI (v2 + 1) ∧
 rec1 (v2 + 1)) ∧
 (¬ (v2 = 0) →
 inI (v2 - 1) ∧
 inX (v2 - 1) x0.length ∧
 (((ix x0 v2).Volume) < ((ix x0 (v2 - 1)).Volume) →
 Φ 3) ∧
 (¬ (((ix x0 v2).Volume) < ((ix x0 (v2 - 1)).Volume)) →
 (((ix x0 v2).Volume) = ((ix x0 (v2 - 1)).Volume) →
 inI (((ix x0 (v2 - 1)).Start) + (((ix x0 (v2 - 1)).Data).length : Int)) ∧
 (((ix x0 v2).Start) ≤ (((ix x0 (v2 - 1)).Start) + (((ix x0 (v2 - 1)).Data).length : Int)) →
 Φ 3) ∧
 (¬ (((ix x0 v2).Start) ≤ (((ix x0 (v2 - 1)).Start) + (((ix x0 (v2 - 1)).Data).length : Int))) →
 inI (v2 + 1) ∧
 rec1 (v2 + 1))) ∧
 (¬ (((ix x0 v2).Volume) = ((ix x0 (v2 - 1)).Volume)) →
 inI (v2 + 1) ∧
 rec1 (v2 + 1)))))) ∧
 (¬ (v2 < (x0.length : Int)) →
 Φ 0)
def Z53 (x0 : List api_Write) (x1 : List Int) (Φ : Int → Prop) : Prop :=
 image_New_W x1 fun v1 =>
 (v1.2 ≠ 0 →
 Φ v1.2) ∧
 (¬ (v1.2 ≠ 0) →
 LoopW (Z52 x0 v1 Φ) 0)
def Z54 (x0 : api_Cycle) (x1 : List Int) (Φ : Int → Prop) : Bool → Prop
 | v2 =>
 (v2 = true →
 Φ 2) ∧
 (¬ (v2 = true) →
 cycle_in_W x0.Time 0 1073741824 fun v3 =>
 (¬ (v3 = true) →
 Φ 24) ∧
 (¬ (¬ (v3 = true)) →
 Z7 x0.Positions 0 fun v4 =>
 (v4 ≠ 0 →
 Φ v4) ∧
 (¬ (v4 ≠ 0) →
 Z53 x0.Writes x1 fun v5 =>
 Φ v5)))
def cycle_Check_W (x0 : api_Cycle) (x1 : List Int) (Φ : Int → Prop) : Prop :=
 image_New_W x1 fun v1 =>
 (v1.2 ≠ 0 →
 Φ v1.2) ∧
 (¬ (v1.2 ≠ 0) →
 Join (Z54 x0 x1 Φ) fun J1 =>
 (x0.Base < 0 →
 J1 true) ∧
 (¬ (x0.Base < 0) →
 (x0.Number ≤ x0.Base →
 J1 true) ∧
 (¬ (x0.Number ≤ x0.Base) →
 J1 (decide (1073741824 < x0.Number)))))
def Z55 (x0 : List (List api_Write)) (Φ : List api_Write → Prop) : (Int × List api_Write) → ((Int × List api_Write) → Prop) → Prop
 | (v4, v5), rec3 =>
 (v4 < (x0.length : Int) →
 inX v4 x0.length ∧
 lenOk (v5 ++ (ix x0 v4)).length 40 ∧
 inI (v4 + 1) ∧
 rec3 ((v4 + 1), (v5 ++ (ix x0 v4)))) ∧
 (¬ (v4 < (x0.length : Int)) →
 Φ v5)
def Z56 (x0 : List (List api_Write)) (Φ : List api_Write → Prop) : List api_Write → Prop
 | v3 =>
 LoopW (Z55 x0 Φ) (0, v3)
def Z57 (x0 : List (List api_Write)) (Φ : List api_Write → Prop) : (Int × Int) → ((Int × Int) → Prop) → Prop
 | (v1, v2), rec1 =>
 (v2 < (x0.length : Int) →
 inX v2 x0.length ∧
 inI (v1 + ((ix x0 v2).length : Int)) ∧
 ((v1 + ((ix x0 v2).length : Int)) < 0 →
 False) ∧
 (¬ ((v1 + ((ix x0 v2).length : Int)) < 0) →
 inI (v2 + 1) ∧
 rec1 ((v1 + ((ix x0 v2).length : Int)), (v2 + 1)))) ∧
 (¬ (v2 < (x0.length : Int)) →
 Join (Z56 x0 Φ) fun J2 =>
 (v1 < 0 →
 False) ∧
 (¬ (v1 < 0) →
 inI ((0 : Int) - 0) ∧
 inI (v1 - ((0 : Int) - 0)) ∧
 (0 < (v1 - ((0 : Int) - 0)) →
 (0 : Int) = 0 ∧
 (0 : Int) < (v1 - ((0 : Int) - 0)) ∧
 lenOk (v1 - ((0 : Int) - 0)).toNat 40 ∧
 inS 0 0 (List.replicate (v1 - ((0 : Int) - 0)).toNat ((api_Write.mk 0 0 ([] : List Sec)) : api_Write)).length ∧
 J2 (sub (List.replicate (v1 - ((0 : Int) - 0)).toNat ((api_Write.mk 0 0 ([] : List Sec)) : api_Write)) 0 0)) ∧
 (¬ (0 < (v1 - ((0 : Int) - 0))) →
 J2 ([] : List api_Write))))
def Z58 (x0 : List (List api_Write)) (Φ : List api_Write → Prop) : Prop :=
 LoopW (Z57 x0 Φ) (0, 0)
def Z59 (v1 : Int) (rec1 : (Int) → Prop) (Φ : List api_Write × Int → Prop) : Int → Prop
 | v2 =>
 (v2 ≠ 0 →
 Φ (([] : List api_Write), v2)) ∧
 (¬ (v2 ≠ 0) →
 inI (v1 + 1) ∧
 rec1 (v1 + 1))
def Z60 (x0 : List api_Write) (x1 : List api_Write) (v1 : Int) (rec1 : (Int) → Prop) (Φ : List api_Write × Int → Prop) : (Int) → ((Int) → Prop) → Prop
 | v3, rec3 =>
 (v3 < ((ix ([x0, x1] : List (List api_Write)) v1).length : Int) →
 inX v3 (ix ([x0, x1] : List (List api_Write)) v1).length ∧
 Z17 (ix (ix ([x0, x1] : List (List api_Write)) v1) v3) fun v4 =>
 (v4 ≠ 0 →
 Z59 v1 rec1 Φ v4) ∧
 (¬ (v4 ≠ 0) →
 (v3 = 0 →
 inI (v3 + 1) ∧
 rec3 (v3 + 1)) ∧
 (¬ (v3 = 0) →
 inI (v3 - 1) ∧
 inX (v3 - 1) (ix ([x0, x1] : List (List api_Write)) v1).length ∧
 (((ix (ix ([x0, x1] : List (List api_Write)) v1) v3).Volume) < ((ix (ix ([x0, x1] : List (List api_Write)) v1) (v3 - 1)).Volume) →
 Z59 v1 rec1 Φ 3) ∧
 (¬ (((ix (ix ([x0, x1] : List (List api_Write)) v1) v3).Volume) < ((ix (ix ([x0, x1] : List (List api_Write)) v1) (v3 - 1)).Volume)) →
 (((ix (ix ([x0, x1] : List (List api_Write)) v1) v3).Volume) = ((ix (ix ([x0, x1] : List (List api_Write)) v1) (v3 - 1)).Volume) →
 inI (((ix (ix ([x0, x1] : List (List api_Write)) v1) (v3 - 1)).Start) + (((ix (ix ([x0, x1] : List (List api_Write)) v1) (v3 - 1)).Data).length : Int)) ∧
 (((ix (ix ([x0, x1] : List (List api_Write)) v1) v3).Start) ≤ (((ix (ix ([x0, x1] : List (List api_Write)) v1) (v3 - 1)).Start) + (((ix (ix ([x0, x1] : List (List api_Write)) v1) (v3 - 1)).Data).length : Int)) →
 Z59 v1 rec1 Φ 3) ∧
 (¬ (((ix (ix ([x0, x1] : List (List api_Write)) v1) v3).Start) ≤ (((ix (ix ([x0, x1] : List (List api_Write)) v1) (v3 - 1)).Start) + (((ix (ix ([x0, x1] : List (List api_Write)) v1) (v3 - 1)).Data).length : Int))) →
 inI (v3 + 1) ∧
 rec3 (v3 + 1))) ∧
 (¬ (((ix (ix ([x0, x1] : List (List api_Write)) v1) v3).Volume) = ((ix (ix ([x0, x1] : List (List api_Write)) v1) (v3 - 1)).Volume)) →
 inI (v3 + 1) ∧
 rec3 (v3 + 1)))))) ∧
 (¬ (v3 < ((ix ([x0, x1] : List (List api_Write)) v1).length : Int)) →
 Z59 v1 rec1 Φ 0)
def Z61 (v5 : List api_Write) (v6 : Int) (rec4 : (Int × (List (coalesce_place × Sec))) → Prop) (_ : List api_Write × Int → Prop) : (Int × Int × Int × (List (coalesce_place × Sec))) → ((Int × Int × Int × (List (coalesce_place × Sec))) → Prop) → Prop
 | (v8, v9, v10, v11), rec5 =>
 (v8 < (((ix v5 v6).Data).length : Int) →
 inX v8 ((ix v5 v6).Data).length ∧
 Z18 (coalesce_place.mk v9 v10) fun v12 =>
 inI (v8 + 1) ∧
 rec5 ((v8 + 1), v12.volume, v12.sector, (mput v11 (coalesce_place.mk v9 v10) (ix ((ix v5 v6).Data) v8)))) ∧
 (¬ (v8 < (((ix v5 v6).Data).length : Int)) →
 inI (v6 + 1) ∧
 rec4 ((v6 + 1), v11))
def Z62 (v7 : List (coalesce_place × Sec)) (v16 : List coalesce_place) (v17 : Int) (rec7 : (Int × Int × Int × List api_Write × List Sec) → Prop) (_ : List api_Write × Int → Prop) : List api_Write × List Sec → Prop
 | (v22, v23) =>
 inI ((v22.length : Int) - 1) ∧
 inX ((v22.length : Int) - 1) v22.length ∧
 ((v22.length : Int) - 1) + 1 = (v22.length : Int) ∧
 lenOk (v23 ++ ([(mget v7 (ix v16 v17) sec0)] : List Sec)).length 8 ∧
 Z18 (ix v16 v17) fun v24 =>
 inI (v17 + 1) ∧
 rec7 ((v17 + 1), v24.volume, v24.sector, v22, (v23 ++ ([(mget v7 (ix v16 v17) sec0)] : List Sec)))
def Z63 (v7 : List (coalesce_place × Sec)) (v16 : List coalesce_place) (Φ : List api_Write × Int → Prop) : (Int × Int × Int × List api_Write × List Sec) → ((Int × Int × Int × List api_Write × List Sec) → Prop) → Prop
 | (v17, v18, v19, v20, v21), rec7 =>
 (v17 < (v16.length : Int) →
 inX v17 v16.length ∧
 Join (Z62 v7 v16 v17 rec7 Φ) fun J8 =>
 ((ix v16 v17) ≠ (coalesce_place.mk v18 v19) →
 lenOk ((put v20 ((v20.length : Int) - 1) (api_Write.mk ((ix v20 ((v20.length : Int) - 1)).Volume) ((ix v20 ((v20.length : Int) - 1)).Start) v21)) ++ ([(api_Write.mk ((ix v16 v17).volume) ((ix v16 v17).sector) ([] : List Sec))] : List api_Write)).length 40 ∧
 J8 (((put v20 ((v20.length : Int) - 1) (api_Write.mk ((ix v20 ((v20.length : Int) - 1)).Volume) ((ix v20 ((v20.length : Int) - 1)).Start) v21)) ++ ([(api_Write.mk ((ix v16 v17).volume) ((ix v16 v17).sector) ([] : List Sec))] : List api_Write)), ([] : List Sec))) ∧
 (¬ ((ix v16 v17) ≠ (coalesce_place.mk v18 v19)) →
 J8 (v20, v21))) ∧
 (¬ (v17 < (v16.length : Int)) →
 Φ ((put v20 ((v20.length : Int) - 1) (api_Write.mk ((ix v20 ((v20.length : Int) - 1)).Volume) ((ix v20 ((v20.length : Int) - 1)).Start) v21)), 0))
def Z64 (v7 : List (coalesce_place × Sec)) (Φ : List api_Write × Int → Prop) : (((Nat × List Nat)) × List coalesce_place) → ((((Nat × List Nat)) × List coalesce_place) → Prop) → Prop
 | (v13, v14), rec6 =>
 v7.length = v13.1 ∧ ((∀ i, i < v7.length → i ∈ v13.2) →
 Z22 v14 fun v16 =>
 LoopW (Z63 v7 v16 Φ) (0, (-1), 0, ([] : List api_Write), ([] : List Sec))) ∧
 ∀ i15, i15 < v7.length → i15 ∉ v13.2 →
 v7.length = v13.1 ∧
 i15 < v7.length ∧
 lenOk (v14 ++ ([((ent v7 i15).1)] : List coalesce_place)).length 16 ∧
 rec6 ((v13.1, (i15 :: v13.2)), (v14 ++ ([((ent v7 i15).1)] : List coalesce_place)))
def Z65 (v5 : List api_Write) (Φ : List api_Write × Int → Prop) : (Int × (List (coalesce_place × Sec))) → ((Int × (List (coalesce_place × Sec))) → Prop) → Prop
 | (v6, v7), rec4 =>
 (v6 < (v5.length : Int) →
 inX v6 v5.length ∧
 LoopW (Z61 v5 v6 rec4 Φ) (0, (ix v5 v6).Volume, (ix v5 v6).Start, v7)) ∧
 (¬ (v6 < (v5.length : Int)) →
 0 ≤ (v7.length : Int) ∧
 lenOk (v7.length : Int).toNat 16 ∧
 LoopW (Z64 v7 Φ) ((v7.length, []), ([] : List coalesce_place)))
def Z66 (x0 : List api_Write) (x1 : List api_Write) (Φ : List api_Write × Int → Prop) : (Int) → ((Int) → Prop) → Prop
 | v1, rec1 =>
 (v1 < (([x0, x1] : List (List api_Write)).length : Int) →
 inX v1 ([x0, x1] : List (List api_Write)).length ∧
 LoopW (Z60 x0 x1 v1 rec1 Φ) 0) ∧
 (¬ (v1 < (([x0, x1] : List (List api_Write)).length : Int)) →
 Z58 ([x0, x1] : List (List api_Write)) fun v5 =>
 LoopW (Z65 v5 Φ) (0, ([] : List (coalesce_place × Sec))))
def Z67 (x0 : List api_Write) (x1 : List api_Write) (Φ : List api_Write × Int → Prop) : Prop :=
 LoopW (Z66 x0 x1 Φ) 0
def Z68 (x0 : api_Cycle) (x1 : api_Cycle) (Φ : api_Cycle × Int → Prop) : (Int) → ((Int) → Prop) → Prop
 | v4, rec2 =>
 (v4 < (x0.Positions.length : Int) →
 inX v4 x0.Positions.length ∧
 inX v4 x1.Positions.length ∧
 ((ix x1.Positions v4) < (ix x0.Positions v4) →
 Φ ((api_Cycle.mk 0 0 0 ([] : List Int) ([] : List api_Write)), 2)) ∧
 (¬ ((ix x1.Positions v4) < (ix x0.Positions v4)) →
 inI (v4 + 1) ∧
 rec2 (v4 + 1))) ∧
 (¬ (v4 < (x0.Positions.length : Int)) →
 Z67 x0.Writes x1.Writes fun v5 =>
 (v5.2 ≠ 0 →
 Φ ((api_Cycle.mk 0 0 0 ([] : List Int) ([] : List api_Write)), v5.2)) ∧
 (¬ (v5.2 ≠ 0) →
 ∃ v6 : List Int × Unit, Z3 x1.Positions (fun z => (z, ()) = v6) ∧
 Φ ((api_Cycle.mk x0.Base x1.Number x1.Time v6.1 v5.1), 0)))
def Z69 (x0 : api_Cycle) (x1 : api_Cycle) (Φ : api_Cycle × Int → Prop) : (Int) → ((Int) → Prop) → Prop
 | v1, rec1 =>
 (v1 < (([x0, x1] : List api_Cycle).length : Int) →
 inX v1 ([x0, x1] : List api_Cycle).length ∧
 ∃ v2 : List Int × Unit, Z51 (fun z => (z, ()) = v2) ∧
 ∃ v3 : Int × Unit, cycle_Check_W (ix ([x0, x1] : List api_Cycle) v1) v2.1 (fun z => (z, ()) = v3) ∧
 (v3.1 ≠ 0 →
 Φ ((api_Cycle.mk 0 0 0 ([] : List Int) ([] : List api_Write)), v3.1)) ∧
 (¬ (v3.1 ≠ 0) →
 inI (v1 + 1) ∧
 rec1 (v1 + 1))) ∧
 (¬ (v1 < (([x0, x1] : List api_Cycle).length : Int)) →
 (x1.Base ≠ x0.Number →
 Φ ((api_Cycle.mk 0 0 0 ([] : List Int) ([] : List api_Write)), 15)) ∧
 (¬ (x1.Base ≠ x0.Number) →
 ((x0.Positions.length : Int) ≠ (x1.Positions.length : Int) →
 Φ ((api_Cycle.mk 0 0 0 ([] : List Int) ([] : List api_Write)), 6)) ∧
 (¬ ((x0.Positions.length : Int) ≠ (x1.Positions.length : Int)) →
 (x1.Time < x0.Time →
 Φ ((api_Cycle.mk 0 0 0 ([] : List Int) ([] : List api_Write)), 24)) ∧
 (¬ (x1.Time < x0.Time) →
 LoopW (Z68 x0 x1 Φ) 0))))
def Z70 (x0 : api_Cycle) (x1 : api_Cycle) (Φ : api_Cycle × Int → Prop) : Prop :=
 LoopW (Z69 x0 x1 Φ) 0
def Z71 (v8 : api_Capture × api_Cycle × Int) (Φ : Bool → Prop) : Unit → Prop
 | _ =>
 cycle_Close_W v8.1 6 ([2, 1] : List Int) fun v9 =>
 Z70 v8.2.1 v9.2.1 fun v10 =>
 law23_write_W 0 1 ([98#8, 99#8] : List (BitVec 8)) fun v11 =>
 (v9.2.2 = 0 →
 (v10.2 = 0 →
 ref22_Same_W v9.2.1.Writes ([v11] : List api_Write) fun v12 =>
 (v12 = true →
 (v10.1.Base = 0 →
 (v10.1.Number = 2 →
 ref22_Same_W v10.1.Writes ([v11] : List api_Write) fun v13 =>
 Φ v13) ∧
 (¬ (v10.1.Number = 2) →
 Φ false)) ∧
 (¬ (v10.1.Base = 0) →
 Φ false)) ∧
 (¬ (v12 = true) →
 Φ false)) ∧
 (¬ (v10.2 = 0) →
 Φ false)) ∧
 (¬ (v9.2.2 = 0) →
 Φ false)
def law23_awake_W (Φ : Bool → Prop) : Prop :=
 cycle_Open_W ([4] : List Int) 2 0 fun v1 =>
 ∃ v2 : api_Write × Unit, law23_write_W 0 1 ([97#8] : List (BitVec 8)) (fun z => (z, ()) = v2) ∧
 ∃ v3 : api_Capture × Int × Unit, cycle_Add_W v1.1 0 v2.1 (fun z => (z.1, z.2, ()) = v3) ∧
 ∃ v4 : api_Write × Unit, law23_write_W 0 1 ([98#8] : List (BitVec 8)) (fun z => (z, ()) = v4) ∧
 ∃ v5 : api_Capture × Int × Unit, cycle_Add_W v3.1 1 v4.1 (fun z => (z.1, z.2, ()) = v5) ∧
 ∃ v6 : api_Write × Unit, law23_write_W 0 2 ([99#8] : List (BitVec 8)) (fun z => (z, ()) = v6) ∧
 ∃ v7 : api_Capture × Int × Unit, cycle_Add_W v5.1 0 v6.1 (fun z => (z.1, z.2, ()) = v7) ∧
 cycle_Close_W v7.1 5 ([0, 1] : List Int) fun v8 =>
 Join (Z71 v8 Φ) fun J1 =>
 inI (v1.2 + v3.2.1) ∧
 inI ((v1.2 + v3.2.1) + v5.2.1) ∧
 inI (((v1.2 + v3.2.1) + v5.2.1) + v7.2.1) ∧
 inI ((((v1.2 + v3.2.1) + v5.2.1) + v7.2.1) + v8.2.2) ∧
 (((((v1.2 + v3.2.1) + v5.2.1) + v7.2.1) + v8.2.2) ≠ 0 →
 Φ false) ∧
 (¬ (((((v1.2 + v3.2.1) + v5.2.1) + v7.2.1) + v8.2.2) ≠ 0) →
 (v8.2.1.Base ≠ 0 →
 Φ false) ∧
 (¬ (v8.2.1.Base ≠ 0) →
 (v8.2.1.Number ≠ 1 →
 Φ false) ∧
 (¬ (v8.2.1.Number ≠ 1) →
 ∃ v14 : api_Write × Unit, law23_write_W 0 1 ([98#8] : List (BitVec 8)) (fun z => (z, ()) = v14) ∧
 ∃ v15 : Bool × Unit, ref22_Same_W v8.2.1.Writes ([v14.1] : List api_Write) (fun z => (z, ()) = v15) ∧
 (¬ (v15.1 = true) →
 Φ false) ∧
 (¬ (¬ (v15.1 = true)) →
 ∃ v16 : api_Write × Unit, law23_write_W 0 1 ([98#8] : List (BitVec 8)) (fun z => (z, ()) = v16) ∧
 ∃ v17 : api_Write × Unit, law23_write_W 0 2 ([99#8] : List (BitVec 8)) (fun z => (z, ()) = v17) ∧
 ∃ v18 : Bool × Unit, ref22_Same_W v8.1.Writes ([v16.1, v17.1] : List api_Write) (fun z => (z, ()) = v18) ∧
 (¬ (v18.1 = true) →
 Φ false) ∧
 (¬ (¬ (v18.1 = true)) →
 J1 ())))))
def law23_sizes_W (Φ : List Int → Prop) : Prop :=
 Φ ([6, 3] : List Int)
def law23_data_L1 (x0 : standbylaw23_Step) (v1 : List Int × Unit) (Φ : api_Write → Prop) : (Int × List Sec) → ((Int × List Sec) → Prop) → Prop
 | (v2, v3), rec1 =>
 inI ((ix v1.1 ((x0.Volume % (2#8)).toNat : Int)) - ((x0.Start.toNat : Int) % (ix v1.1 ((x0.Volume % (2#8)).toNat : Int)))) ∧
 (0 ≤ (x0.Count.toNat : Int) ∧ ((ix v1.1 ((x0.Volume % (2#8)).toNat : Int)) - ((x0.Start.toNat : Int) % (ix v1.1 ((x0.Volume % (2#8)).toNat : Int)))) ≠ (0 : Int)) ∧
 (v2 ≤ ((x0.Count.toNat : Int) % ((ix v1.1 ((x0.Volume % (2#8)).toNat : Int)) - ((x0.Start.toNat : Int) % (ix v1.1 ((x0.Volume % (2#8)).toNat : Int))))) →
 lenOk (v3 ++ ([(Sec.mk x0.First (BitVec.ofInt 8 v2) (0#8) (0#8) (0#8) (0#8) (0#8) (0#8))] : List Sec)).length 8 ∧
 inI (v2 + 1) ∧
 rec1 ((v2 + 1), (v3 ++ ([(Sec.mk x0.First (BitVec.ofInt 8 v2) (0#8) (0#8) (0#8) (0#8) (0#8) (0#8))] : List Sec)))) ∧
 (¬ (v2 ≤ ((x0.Count.toNat : Int) % ((ix v1.1 ((x0.Volume % (2#8)).toNat : Int)) - ((x0.Start.toNat : Int) % (ix v1.1 ((x0.Volume % (2#8)).toNat : Int)))))) →
 Φ (api_Write.mk ((x0.Volume % (2#8)).toNat : Int) ((x0.Start.toNat : Int) % (ix v1.1 ((x0.Volume % (2#8)).toNat : Int))) v3))
def law23_data_W (x0 : standbylaw23_Step) (Φ : api_Write → Prop) : Prop :=
 ∃ v1 : List Int × Unit, law23_sizes_W (fun z => (z, ()) = v1) ∧
 (2#8) ≠ 0#8 ∧
 inX ((x0.Volume % (2#8)).toNat : Int) v1.1.length ∧
 (0 ≤ (x0.Start.toNat : Int) ∧ (ix v1.1 ((x0.Volume % (2#8)).toNat : Int)) ≠ (0 : Int)) ∧
 (2#8) ≠ 0#8 ∧
 LoopW (law23_data_L1 x0 v1 Φ) (0, ([] : List Sec))
def Z72 (x0 : List (List Sec)) (Φ : List (List Sec) → Prop) : (List (List Sec) × Int) → ((List (List Sec) × Int) → Prop) → Prop
 | (v12, v20), rec1 =>
 (v20 < (x0.length : Int) →
 inX v20 x0.length ∧
 Z10 (ix x0 v20) fun v27 =>
 lenOk (v12 ++ [v27]).length 24 ∧
 inI (v20 + 1) ∧
 rec1 ((v12 ++ [v27]), v20 + 1)) ∧
 (¬ (v20 < (x0.length : Int)) →
 Φ v12)
def Z73 (x0 : List (List Sec)) (Φ : List (List Sec) → Prop) : Prop :=
 0 ≤ (x0.length : Int) ∧
 lenOk (x0.length : Int).toNat 24 ∧
 LoopW (Z72 x0 Φ) (([] : List (List Sec)), 0)
def Z74 (x0 : List (List Sec)) (Φ : List (List Sec) → Prop) : Prop :=
 Z73 x0 fun v2 =>
 Φ v2
def Z75 (x1 : List api_Write) (Φ : List (List Sec) × Int × Int → Prop) : (List (List Sec) × Int) → ((List (List Sec) × Int) → Prop) → Prop
 | (v16, v24), rec1 =>
 (v24 < (x1.length : Int) →
 inX v24 x1.length ∧
 image_fits_W v16 (ix x1 v24) fun v38 =>
 (v38 ≠ 0 →
 Φ (([] : List (List Sec)), v24, v38)) ∧
 (¬ (v38 ≠ 0) →
 inX ((ix x1 v24).Volume) v16.length ∧
 inS ((ix x1 v24).Start) ((ix v16 ((ix x1 v24).Volume)).length : Int) (ix v16 ((ix x1 v24).Volume)).length ∧
 inI (v24 + 1) ∧
 rec1 ((put v16 ((ix x1 v24).Volume) (paste (ix v16 ((ix x1 v24).Volume)) ((ix x1 v24).Start) ((ix x1 v24).Data))), v24 + 1))) ∧
 (¬ (v24 < (x1.length : Int)) →
 Φ (v16, 0, 0))
def image_Apply_W (x0 : List (List Sec)) (x1 : List api_Write) (Φ : List (List Sec) × Int × Int → Prop) : Prop :=
 image_Check_W x0 fun v3 =>
 (v3 ≠ 0 →
 Φ (([] : List (List Sec)), 0, v3)) ∧
 (¬ (v3 ≠ 0) →
 Z74 x0 fun v7 =>
 LoopW (Z75 x1 Φ) (v7, 0))
def Z76 (x0 : List (List Sec)) (x1 : api_Cycle) (Φ : List (List Sec) × Int → Prop) : (Int × List Int) → ((Int × List Int) → Prop) → Prop
 | (v2, v3), rec1 =>
 (v2 < (x0.length : Int) →
 inX v2 x0.length ∧
 lenOk (v3 ++ ([((ix x0 v2).length : Int)] : List Int)).length 8 ∧
 inI (v2 + 1) ∧
 rec1 ((v2 + 1), (v3 ++ ([((ix x0 v2).length : Int)] : List Int)))) ∧
 (¬ (v2 < (x0.length : Int)) →
 cycle_Check_W x1 v3 fun v4 =>
 (v4 ≠ 0 →
 Φ (([] : List (List Sec)), v4)) ∧
 (¬ (v4 ≠ 0) →
 image_Apply_W x0 x1.Writes fun v5 =>
 Φ (v5.1, v5.2.2)))
def cycle_Apply_W (x0 : List (List Sec)) (x1 : api_Cycle) (Φ : List (List Sec) × Int → Prop) : Prop :=
 image_Check_W x0 fun v1 =>
 (v1 ≠ 0 →
 Φ (([] : List (List Sec)), v1)) ∧
 (¬ (v1 ≠ 0) →
 LoopW (Z76 x0 x1 Φ) (0, ([] : List Int)))
def Z77 (x0 : List Int) (Φ : Int → Prop) : (Int) → ((Int) → Prop) → Prop
 | v1, rec1 =>
 (v1 < (x0.length : Int) →
 inX v1 x0.length ∧
 ((ix x0 v1) < 1 →
 Φ 2) ∧
 (¬ ((ix x0 v1) < 1) →
 inX v1 x0.length ∧
 (4096 < (ix x0 v1) →
 Φ 2) ∧
 (¬ (4096 < (ix x0 v1)) →
 inI (v1 + 1) ∧
 rec1 (v1 + 1)))) ∧
 (¬ (v1 < (x0.length : Int)) →
 Φ 0)
def ref07_Sizes_W (x0 : List Int) (Φ : Int → Prop) : Prop :=
 ((x0.length : Int) < 1 →
 Φ 6) ∧
 (¬ ((x0.length : Int) < 1) →
 (8 < (x0.length : Int) →
 Φ 6) ∧
 (¬ (8 < (x0.length : Int)) →
 LoopW (Z77 x0 Φ) 0))
def ref07_New_L1 (x0 : List Int) (Φ : List (List Sec) × Int → Prop) : (Int × List (List Sec)) → ((Int × List (List Sec)) → Prop) → Prop
 | (v2, v3), rec1 =>
 (v2 < (x0.length : Int) →
 inX v2 x0.length ∧
 0 ≤ (ix x0 v2) ∧
 lenOk (ix x0 v2).toNat 8 ∧
 lenOk (v3 ++ ([(List.replicate (ix x0 v2).toNat (sec0 : Sec))] : List (List Sec))).length 24 ∧
 inI (v2 + 1) ∧
 rec1 ((v2 + 1), (v3 ++ ([(List.replicate (ix x0 v2).toNat (sec0 : Sec))] : List (List Sec))))) ∧
 (¬ (v2 < (x0.length : Int)) →
 Φ (v3, 0))
def ref07_New_W (x0 : List Int) (Φ : List (List Sec) × Int → Prop) : Prop :=
 ref07_Sizes_W x0 fun v1 =>
 (v1 ≠ 0 →
 Φ (([] : List (List Sec)), v1)) ∧
 (¬ (v1 ≠ 0) →
 LoopW (ref07_New_L1 x0 Φ) (0, ([] : List (List Sec))))
def Z78 (x0 : List Sec) (x1 : List Sec) (Φ : Bool → Prop) : (Int) → ((Int) → Prop) → Prop
 | v1, rec1 =>
 (v1 < (x0.length : Int) →
 inX v1 x0.length ∧
 inX v1 x1.length ∧
 ((ix x0 v1) ≠ (ix x1 v1) →
 Φ false) ∧
 (¬ ((ix x0 v1) ≠ (ix x1 v1)) →
 inI (v1 + 1) ∧
 rec1 (v1 + 1))) ∧
 (¬ (v1 < (x0.length : Int)) →
 Φ true)
def Z79 (x0 : List Sec) (x1 : List Sec) (Φ : Bool → Prop) : Prop :=
 ((x0.length : Int) ≠ (x1.length : Int) →
 Φ false) ∧
 (¬ ((x0.length : Int) ≠ (x1.length : Int)) →
 LoopW (Z78 x0 x1 Φ) 0)
def ref07_Same_L1 (x0 : List (List Sec)) (x1 : List (List Sec)) (Φ : Bool → Prop) : (Int) → ((Int) → Prop) → Prop
 | v1, rec1 =>
 (v1 < (x0.length : Int) →
 inX v1 x0.length ∧
 inX v1 x1.length ∧
 ∃ v2 : Bool × Unit, Z79 (ix x0 v1) (ix x1 v1) (fun z => (z, ()) = v2) ∧
 (¬ (v2.1 = true) →
 Φ false) ∧
 (¬ (¬ (v2.1 = true)) →
 inI (v1 + 1) ∧
 rec1 (v1 + 1))) ∧
 (¬ (v1 < (x0.length : Int)) →
 Φ true)
def ref07_Same_W (x0 : List (List Sec)) (x1 : List (List Sec)) (Φ : Bool → Prop) : Prop :=
 ((x0.length : Int) ≠ (x1.length : Int) →
 Φ false) ∧
 (¬ ((x0.length : Int) ≠ (x1.length : Int)) →
 LoopW (ref07_Same_L1 x0 x1 Φ) 0)
def Z80 (x0 : List (List Sec)) (Φ : List Int → Prop) : (Int × List Int) → ((Int × List Int) → Prop) → Prop
 | (v1, v2), rec1 =>
 (v1 < (x0.length : Int) →
 inX v1 x0.length ∧
 lenOk (v2 ++ ([((ix x0 v1).length : Int)] : List Int)).length 8 ∧
 inI (v1 + 1) ∧
 rec1 ((v1 + 1), (v2 ++ ([((ix x0 v1).length : Int)] : List Int)))) ∧
 (¬ (v1 < (x0.length : Int)) →
 Φ v2)
def Z81 (x0 : List (List Sec)) (Φ : List Int → Prop) : Prop :=
 LoopW (Z80 x0 Φ) (0, ([] : List Int))
def ref07_Check_W (x0 : List (List Sec)) (Φ : Int → Prop) : Prop :=
 Z81 x0 fun v1 =>
 ref07_Sizes_W v1 fun v2 =>
 Φ v2
def Z82 (x0 : List Int) (x1 : api_Write) (Φ : Int → Prop) : Prop :=
 (x1.Volume < 0 →
 Φ 7) ∧
 (¬ (x1.Volume < 0) →
 ((x0.length : Int) ≤ x1.Volume →
 Φ 7) ∧
 (¬ ((x0.length : Int) ≤ x1.Volume) →
 ((x1.Data.length : Int) = 0 →
 Φ 1) ∧
 (¬ ((x1.Data.length : Int) = 0) →
 (x1.Start < 0 →
 Φ 2) ∧
 (¬ (x1.Start < 0) →
 inX x1.Volume x0.length ∧
 ((ix x0 x1.Volume) ≤ x1.Start →
 Φ 2) ∧
 (¬ ((ix x0 x1.Volume) ≤ x1.Start) →
 inX x1.Volume x0.length ∧
 inI ((ix x0 x1.Volume) - x1.Start) ∧
 (((ix x0 x1.Volume) - x1.Start) < (x1.Data.length : Int) →
 Φ 2) ∧
 (¬ (((ix x0 x1.Volume) - x1.Start) < (x1.Data.length : Int)) →
 Φ 0))))))
def ref07_Fits_W (x0 : List (List Sec)) (x1 : api_Write) (Φ : Int → Prop) : Prop :=
 ref07_Check_W x0 fun v1 =>
 (v1 ≠ 0 →
 Φ v1) ∧
 (¬ (v1 ≠ 0) →
 ∃ v2 : List Int × Unit, Z81 x0 (fun z => (z, ()) = v2) ∧
 ∃ v3 : Int × Unit, Z82 v2.1 x1 (fun z => (z, ()) = v3) ∧
 Φ v3.1)
def Z83 (x0 : List (List Sec)) (Φ : List (List Sec) → Prop) : (List (List Sec) × Int) → ((List (List Sec) × Int) → Prop) → Prop
 | (v4, v12), rec1 =>
 (v12 < (x0.length : Int) →
 inX v12 x0.length ∧
 lenOk (([] : List Sec) ++ (ix x0 v12)).length 8 ∧
 lenOk (v4 ++ [(([] : List Sec) ++ (ix x0 v12))]).length 24 ∧
 inI (v12 + 1) ∧
 rec1 ((v4 ++ [(([] : List Sec) ++ (ix x0 v12))]), v12 + 1)) ∧
 (¬ (v12 < (x0.length : Int)) →
 Φ v4)
def ref07_CopyE_W (x0 : List (List Sec)) (Φ : List (List Sec) → Prop) : Prop :=
 LoopW (Z83 x0 Φ) (([] : List (List Sec)), 0)
def Z84 (x1 : List api_Write) (v24 : Int) (rec1 : (List (List Sec) × Int) → Prop) (_ : List (List Sec) × Int × Int → Prop) : (List (List Sec) × Int) → ((List (List Sec) × Int) → Prop) → Prop
 | (v37, v45), rec2 =>
 (v45 < (((ix x1 v24).Data).length : Int) →
 inX ((ix x1 v24).Volume) v37.length ∧
 inI (((ix x1 v24).Start) + v45) ∧
 inX v45 ((ix x1 v24).Data).length ∧
 inX (((ix x1 v24).Start) + v45) (ix v37 ((ix x1 v24).Volume)).length ∧
 inI (v45 + 1) ∧
 rec2 ((put v37 ((ix x1 v24).Volume) (put (ix v37 ((ix x1 v24).Volume)) (((ix x1 v24).Start) + v45) (ix ((ix x1 v24).Data) v45))), v45 + 1)) ∧
 (¬ (v45 < (((ix x1 v24).Data).length : Int)) →
 inI (v24 + 1) ∧
 rec1 (v37, v24 + 1))
def Z85 (x0 : List (List Sec)) (x1 : List api_Write) (Φ : List (List Sec) × Int × Int → Prop) : (List (List Sec) × Int) → ((List (List Sec) × Int) → Prop) → Prop
 | (v16, v24), rec1 =>
 (v24 < (x1.length : Int) →
 inX v24 x1.length ∧
 ref07_Fits_W x0 (ix x1 v24) fun v31 =>
 (v31 ≠ 0 →
 Φ (([] : List (List Sec)), v24, v31)) ∧
 (¬ (v31 ≠ 0) →
 LoopW (Z84 x1 v24 rec1 Φ) (v16, 0))) ∧
 (¬ (v24 < (x1.length : Int)) →
 Φ (v16, 0, 0))
def ref07_Apply_W (x0 : List (List Sec)) (x1 : List api_Write) (Φ : List (List Sec) × Int × Int → Prop) : Prop :=
 ref07_Check_W x0 fun v3 =>
 (v3 ≠ 0 →
 Φ (([] : List (List Sec)), 0, v3)) ∧
 (¬ (v3 ≠ 0) →
 ref07_CopyE_W x0 fun v7 =>
 LoopW (Z85 x0 x1 Φ) (v7, 0))
def Z86 (v6 : Int) (v10 : Int) (v11 : Int) (v12 : Int) (v19 : List api_Write) (v20 : List Int) (rec1 : (Int × Int × Int × Int × Int × Int × Int × Int × List Int × List Int × List Int × List api_Write × List (List Sec) × List api_Write × List Int) → Prop) (v24 : Int) (v25 : Int) (v26 : Int) (v27 : api_Capture × api_Cycle × Int) (v28 : List (List Sec) × Int) (Φ : Bool → Prop) : (Int × Int × Int × Int × List (List Sec)) → ((Int × Int × Int × Int × List (List Sec)) → Prop) → Prop
 | (v31, v32, v33, v34, v35), rec3 =>
 (v31 < (v19.length : Int) →
 inX v31 v20.length ∧
 (0 ≤ (ix v20 v31) ∧ (ix v20 v31) < (3 : Int)) ∧
 ((ix v20 v31) = (0 : Int) →
 ((0 : Int) ≤ 0 ∧ 0 < (3 : Int)) ∧
 inX v31 v20.length ∧
 (0 ≤ (ix v20 v31) ∧ (ix v20 v31) < (3 : Int)) ∧
 ((ix v20 v31) = (0 : Int) →
 ((0 : Int) ≤ 0 ∧ 0 < (3 : Int)) ∧
 (v32 < v24 →
 inX v31 v19.length ∧
 ref07_Apply_W v35 ([(ix v19 v31)] : List api_Write) fun v36 =>
 inX v31 v20.length ∧
 (0 ≤ (ix v20 v31) ∧ (ix v20 v31) < (3 : Int)) ∧
 ((ix v20 v31) = (0 : Int) →
 ((0 : Int) ≤ 0 ∧ 0 < (3 : Int)) ∧
 inI (v32 + 1) ∧
 ((0 : Int) ≤ 0 ∧ 0 < (3 : Int)) ∧
 inI (v31 + 1) ∧
 rec3 ((v31 + 1), (v32 + 1), v33, v34, v36.1)) ∧
 ((ix v20 v31) = (1 : Int) →
 ((0 : Int) ≤ 1 ∧ 1 < (3 : Int)) ∧
 inI (v33 + 1) ∧
 ((0 : Int) ≤ 1 ∧ 1 < (3 : Int)) ∧
 inI (v31 + 1) ∧
 rec3 ((v31 + 1), v32, (v33 + 1), v34, v36.1)) ∧
 ((ix v20 v31) = (2 : Int) →
 ((0 : Int) ≤ 2 ∧ 2 < (3 : Int)) ∧
 inI (v34 + 1) ∧
 ((0 : Int) ≤ 2 ∧ 2 < (3 : Int)) ∧
 inI (v31 + 1) ∧
 rec3 ((v31 + 1), v32, v33, (v34 + 1), v36.1)) ∧
 True) ∧
 (¬ (v32 < v24) →
 inX v31 v20.length ∧
 (0 ≤ (ix v20 v31) ∧ (ix v20 v31) < (3 : Int)) ∧
 ((ix v20 v31) = (0 : Int) →
 ((0 : Int) ≤ 0 ∧ 0 < (3 : Int)) ∧
 inI (v32 + 1) ∧
 ((0 : Int) ≤ 0 ∧ 0 < (3 : Int)) ∧
 inI (v31 + 1) ∧
 rec3 ((v31 + 1), (v32 + 1), v33, v34, v35)) ∧
 ((ix v20 v31) = (1 : Int) →
 ((0 : Int) ≤ 1 ∧ 1 < (3 : Int)) ∧
 inI (v33 + 1) ∧
 ((0 : Int) ≤ 1 ∧ 1 < (3 : Int)) ∧
 inI (v31 + 1) ∧
 rec3 ((v31 + 1), v32, (v33 + 1), v34, v35)) ∧
 ((ix v20 v31) = (2 : Int) →
 ((0 : Int) ≤ 2 ∧ 2 < (3 : Int)) ∧
 inI (v34 + 1) ∧
 ((0 : Int) ≤ 2 ∧ 2 < (3 : Int)) ∧
 inI (v31 + 1) ∧
 rec3 ((v31 + 1), v32, v33, (v34 + 1), v35)) ∧
 True)) ∧
 ((ix v20 v31) = (1 : Int) →
 ((0 : Int) ≤ 1 ∧ 1 < (3 : Int)) ∧
 (v32 < v25 →
 inX v31 v19.length ∧
 ref07_Apply_W v35 ([(ix v19 v31)] : List api_Write) fun v37 =>
 inX v31 v20.length ∧
 (0 ≤ (ix v20 v31) ∧ (ix v20 v31) < (3 : Int)) ∧
 ((ix v20 v31) = (0 : Int) →
 ((0 : Int) ≤ 0 ∧ 0 < (3 : Int)) ∧
 inI (v32 + 1) ∧
 ((0 : Int) ≤ 0 ∧ 0 < (3 : Int)) ∧
 inI (v31 + 1) ∧
 rec3 ((v31 + 1), (v32 + 1), v33, v34, v37.1)) ∧
 ((ix v20 v31) = (1 : Int) →
 ((0 : Int) ≤ 1 ∧ 1 < (3 : Int)) ∧
 inI (v33 + 1) ∧
 ((0 : Int) ≤ 1 ∧ 1 < (3 : Int)) ∧
 inI (v31 + 1) ∧
 rec3 ((v31 + 1), v32, (v33 + 1), v34, v37.1)) ∧
 ((ix v20 v31) = (2 : Int) →
 ((0 : Int) ≤ 2 ∧ 2 < (3 : Int)) ∧
 inI (v34 + 1) ∧
 ((0 : Int) ≤ 2 ∧ 2 < (3 : Int)) ∧
 inI (v31 + 1) ∧
 rec3 ((v31 + 1), v32, v33, (v34 + 1), v37.1)) ∧
 True) ∧
 (¬ (v32 < v25) →
 inX v31 v20.length ∧
 (0 ≤ (ix v20 v31) ∧ (ix v20 v31) < (3 : Int)) ∧
 ((ix v20 v31) = (0 : Int) →
 ((0 : Int) ≤ 0 ∧ 0 < (3 : Int)) ∧
 inI (v32 + 1) ∧
 ((0 : Int) ≤ 0 ∧ 0 < (3 : Int)) ∧
 inI (v31 + 1) ∧
 rec3 ((v31 + 1), (v32 + 1), v33, v34, v35)) ∧
 ((ix v20 v31) = (1 : Int) →
 ((0 : Int) ≤ 1 ∧ 1 < (3 : Int)) ∧
 inI (v33 + 1) ∧
 ((0 : Int) ≤ 1 ∧ 1 < (3 : Int)) ∧
 inI (v31 + 1) ∧
 rec3 ((v31 + 1), v32, (v33 + 1), v34, v35)) ∧
 ((ix v20 v31) = (2 : Int) →
 ((0 : Int) ≤ 2 ∧ 2 < (3 : Int)) ∧
 inI (v34 + 1) ∧
 ((0 : Int) ≤ 2 ∧ 2 < (3 : Int)) ∧
 inI (v31 + 1) ∧
 rec3 ((v31 + 1), v32, v33, (v34 + 1), v35)) ∧
 True)) ∧
 ((ix v20 v31) = (2 : Int) →
 ((0 : Int) ≤ 2 ∧ 2 < (3 : Int)) ∧
 (v32 < v26 →
 inX v31 v19.length ∧
 ref07_Apply_W v35 ([(ix v19 v31)] : List api_Write) fun v38 =>
 inX v31 v20.length ∧
 (0 ≤ (ix v20 v31) ∧ (ix v20 v31) < (3 : Int)) ∧
 ((ix v20 v31) = (0 : Int) →
 ((0 : Int) ≤ 0 ∧ 0 < (3 : Int)) ∧
 inI (v32 + 1) ∧
 ((0 : Int) ≤ 0 ∧ 0 < (3 : Int)) ∧
 inI (v31 + 1) ∧
 rec3 ((v31 + 1), (v32 + 1), v33, v34, v38.1)) ∧
 ((ix v20 v31) = (1 : Int) →
 ((0 : Int) ≤ 1 ∧ 1 < (3 : Int)) ∧
 inI (v33 + 1) ∧
 ((0 : Int) ≤ 1 ∧ 1 < (3 : Int)) ∧
 inI (v31 + 1) ∧
 rec3 ((v31 + 1), v32, (v33 + 1), v34, v38.1)) ∧
 ((ix v20 v31) = (2 : Int) →
 ((0 : Int) ≤ 2 ∧ 2 < (3 : Int)) ∧
 inI (v34 + 1) ∧
 ((0 : Int) ≤ 2 ∧ 2 < (3 : Int)) ∧
 inI (v31 + 1) ∧
 rec3 ((v31 + 1), v32, v33, (v34 + 1), v38.1)) ∧
 True) ∧
 (¬ (v32 < v26) →
 inX v31 v20.length ∧
 (0 ≤ (ix v20 v31) ∧ (ix v20 v31) < (3 : Int)) ∧
 ((ix v20 v31) = (0 : Int) →
 ((0 : Int) ≤ 0 ∧ 0 < (3 : Int)) ∧
 inI (v32 + 1) ∧
 ((0 : Int) ≤ 0 ∧ 0 < (3 : Int)) ∧
 inI (v31 + 1) ∧
 rec3 ((v31 + 1), (v32 + 1), v33, v34, v35)) ∧
 ((ix v20 v31) = (1 : Int) →
 ((0 : Int) ≤ 1 ∧ 1 < (3 : Int)) ∧
 inI (v33 + 1) ∧
 ((0 : Int) ≤ 1 ∧ 1 < (3 : Int)) ∧
 inI (v31 + 1) ∧
 rec3 ((v31 + 1), v32, (v33 + 1), v34, v35)) ∧
 ((ix v20 v31) = (2 : Int) →
 ((0 : Int) ≤ 2 ∧ 2 < (3 : Int)) ∧
 inI (v34 + 1) ∧
 ((0 : Int) ≤ 2 ∧ 2 < (3 : Int)) ∧
 inI (v31 + 1) ∧
 rec3 ((v31 + 1), v32, v33, (v34 + 1), v35)) ∧
 True)) ∧
 True) ∧
 ((ix v20 v31) = (1 : Int) →
 ((0 : Int) ≤ 1 ∧ 1 < (3 : Int)) ∧
 inX v31 v20.length ∧
 (0 ≤ (ix v20 v31) ∧ (ix v20 v31) < (3 : Int)) ∧
 ((ix v20 v31) = (0 : Int) →
 ((0 : Int) ≤ 0 ∧ 0 < (3 : Int)) ∧
 (v33 < v24 →
 inX v31 v19.length ∧
 ref07_Apply_W v35 ([(ix v19 v31)] : List api_Write) fun v39 =>
 inX v31 v20.length ∧
 (0 ≤ (ix v20 v31) ∧ (ix v20 v31) < (3 : Int)) ∧
 ((ix v20 v31) = (0 : Int) →
 ((0 : Int) ≤ 0 ∧ 0 < (3 : Int)) ∧
 inI (v32 + 1) ∧
 ((0 : Int) ≤ 0 ∧ 0 < (3 : Int)) ∧
 inI (v31 + 1) ∧
 rec3 ((v31 + 1), (v32 + 1), v33, v34, v39.1)) ∧
 ((ix v20 v31) = (1 : Int) →
 ((0 : Int) ≤ 1 ∧ 1 < (3 : Int)) ∧
 inI (v33 + 1) ∧
 ((0 : Int) ≤ 1 ∧ 1 < (3 : Int)) ∧
 inI (v31 + 1) ∧
 rec3 ((v31 + 1), v32, (v33 + 1), v34, v39.1)) ∧
 ((ix v20 v31) = (2 : Int) →
 ((0 : Int) ≤ 2 ∧ 2 < (3 : Int)) ∧
 inI (v34 + 1) ∧
 ((0 : Int) ≤ 2 ∧ 2 < (3 : Int)) ∧
 inI (v31 + 1) ∧
 rec3 ((v31 + 1), v32, v33, (v34 + 1), v39.1)) ∧
 True) ∧
 (¬ (v33 < v24) →
 inX v31 v20.length ∧
 (0 ≤ (ix v20 v31) ∧ (ix v20 v31) < (3 : Int)) ∧
 ((ix v20 v31) = (0 : Int) →
 ((0 : Int) ≤ 0 ∧ 0 < (3 : Int)) ∧
 inI (v32 + 1) ∧
 ((0 : Int) ≤ 0 ∧ 0 < (3 : Int)) ∧
 inI (v31 + 1) ∧
 rec3 ((v31 + 1), (v32 + 1), v33, v34, v35)) ∧
 ((ix v20 v31) = (1 : Int) →
 ((0 : Int) ≤ 1 ∧ 1 < (3 : Int)) ∧
 inI (v33 + 1) ∧
 ((0 : Int) ≤ 1 ∧ 1 < (3 : Int)) ∧
 inI (v31 + 1) ∧
 rec3 ((v31 + 1), v32, (v33 + 1), v34, v35)) ∧
 ((ix v20 v31) = (2 : Int) →
 ((0 : Int) ≤ 2 ∧ 2 < (3 : Int)) ∧
 inI (v34 + 1) ∧
 ((0 : Int) ≤ 2 ∧ 2 < (3 : Int)) ∧
 inI (v31 + 1) ∧
 rec3 ((v31 + 1), v32, v33, (v34 + 1), v35)) ∧
 True)) ∧
 ((ix v20 v31) = (1 : Int) →
 ((0 : Int) ≤ 1 ∧ 1 < (3 : Int)) ∧
 (v33 < v25 →
 inX v31 v19.length ∧
 ref07_Apply_W v35 ([(ix v19 v31)] : List api_Write) fun v40 =>
 inX v31 v20.length ∧
 (0 ≤ (ix v20 v31) ∧ (ix v20 v31) < (3 : Int)) ∧
 ((ix v20 v31) = (0 : Int) →
 ((0 : Int) ≤ 0 ∧ 0 < (3 : Int)) ∧
 inI (v32 + 1) ∧
 ((0 : Int) ≤ 0 ∧ 0 < (3 : Int)) ∧
 inI (v31 + 1) ∧
 rec3 ((v31 + 1), (v32 + 1), v33, v34, v40.1)) ∧
 ((ix v20 v31) = (1 : Int) →
 ((0 : Int) ≤ 1 ∧ 1 < (3 : Int)) ∧
 inI (v33 + 1) ∧
 ((0 : Int) ≤ 1 ∧ 1 < (3 : Int)) ∧
 inI (v31 + 1) ∧
 rec3 ((v31 + 1), v32, (v33 + 1), v34, v40.1)) ∧
 ((ix v20 v31) = (2 : Int) →
 ((0 : Int) ≤ 2 ∧ 2 < (3 : Int)) ∧
 inI (v34 + 1) ∧
 ((0 : Int) ≤ 2 ∧ 2 < (3 : Int)) ∧
 inI (v31 + 1) ∧
 rec3 ((v31 + 1), v32, v33, (v34 + 1), v40.1)) ∧
 True) ∧
 (¬ (v33 < v25) →
 inX v31 v20.length ∧
 (0 ≤ (ix v20 v31) ∧ (ix v20 v31) < (3 : Int)) ∧
 ((ix v20 v31) = (0 : Int) →
 ((0 : Int) ≤ 0 ∧ 0 < (3 : Int)) ∧
 inI (v32 + 1) ∧
 ((0 : Int) ≤ 0 ∧ 0 < (3 : Int)) ∧
 inI (v31 + 1) ∧
 rec3 ((v31 + 1), (v32 + 1), v33, v34, v35)) ∧
 ((ix v20 v31) = (1 : Int) →
 ((0 : Int) ≤ 1 ∧ 1 < (3 : Int)) ∧
 inI (v33 + 1) ∧
 ((0 : Int) ≤ 1 ∧ 1 < (3 : Int)) ∧
 inI (v31 + 1) ∧
 rec3 ((v31 + 1), v32, (v33 + 1), v34, v35)) ∧
 ((ix v20 v31) = (2 : Int) →
 ((0 : Int) ≤ 2 ∧ 2 < (3 : Int)) ∧
 inI (v34 + 1) ∧
 ((0 : Int) ≤ 2 ∧ 2 < (3 : Int)) ∧
 inI (v31 + 1) ∧
 rec3 ((v31 + 1), v32, v33, (v34 + 1), v35)) ∧
 True)) ∧
 ((ix v20 v31) = (2 : Int) →
 ((0 : Int) ≤ 2 ∧ 2 < (3 : Int)) ∧
 (v33 < v26 →
 inX v31 v19.length ∧
 ref07_Apply_W v35 ([(ix v19 v31)] : List api_Write) fun v41 =>
 inX v31 v20.length ∧
 (0 ≤ (ix v20 v31) ∧ (ix v20 v31) < (3 : Int)) ∧
 ((ix v20 v31) = (0 : Int) →
 ((0 : Int) ≤ 0 ∧ 0 < (3 : Int)) ∧
 inI (v32 + 1) ∧
 ((0 : Int) ≤ 0 ∧ 0 < (3 : Int)) ∧
 inI (v31 + 1) ∧
 rec3 ((v31 + 1), (v32 + 1), v33, v34, v41.1)) ∧
 ((ix v20 v31) = (1 : Int) →
 ((0 : Int) ≤ 1 ∧ 1 < (3 : Int)) ∧
 inI (v33 + 1) ∧
 ((0 : Int) ≤ 1 ∧ 1 < (3 : Int)) ∧
 inI (v31 + 1) ∧
 rec3 ((v31 + 1), v32, (v33 + 1), v34, v41.1)) ∧
 ((ix v20 v31) = (2 : Int) →
 ((0 : Int) ≤ 2 ∧ 2 < (3 : Int)) ∧
 inI (v34 + 1) ∧
 ((0 : Int) ≤ 2 ∧ 2 < (3 : Int)) ∧
 inI (v31 + 1) ∧
 rec3 ((v31 + 1), v32, v33, (v34 + 1), v41.1)) ∧
 True) ∧
 (¬ (v33 < v26) →
 inX v31 v20.length ∧
 (0 ≤ (ix v20 v31) ∧ (ix v20 v31) < (3 : Int)) ∧
 ((ix v20 v31) = (0 : Int) →
 ((0 : Int) ≤ 0 ∧ 0 < (3 : Int)) ∧
 inI (v32 + 1) ∧
 ((0 : Int) ≤ 0 ∧ 0 < (3 : Int)) ∧
 inI (v31 + 1) ∧
 rec3 ((v31 + 1), (v32 + 1), v33, v34, v35)) ∧
 ((ix v20 v31) = (1 : Int) →
 ((0 : Int) ≤ 1 ∧ 1 < (3 : Int)) ∧
 inI (v33 + 1) ∧
 ((0 : Int) ≤ 1 ∧ 1 < (3 : Int)) ∧
 inI (v31 + 1) ∧
 rec3 ((v31 + 1), v32, (v33 + 1), v34, v35)) ∧
 ((ix v20 v31) = (2 : Int) →
 ((0 : Int) ≤ 2 ∧ 2 < (3 : Int)) ∧
 inI (v34 + 1) ∧
 ((0 : Int) ≤ 2 ∧ 2 < (3 : Int)) ∧
 inI (v31 + 1) ∧
 rec3 ((v31 + 1), v32, v33, (v34 + 1), v35)) ∧
 True)) ∧
 True) ∧
 ((ix v20 v31) = (2 : Int) →
 ((0 : Int) ≤ 2 ∧ 2 < (3 : Int)) ∧
 inX v31 v20.length ∧
 (0 ≤ (ix v20 v31) ∧ (ix v20 v31) < (3 : Int)) ∧
 ((ix v20 v31) = (0 : Int) →
 ((0 : Int) ≤ 0 ∧ 0 < (3 : Int)) ∧
 (v34 < v24 →
 inX v31 v19.length ∧
 ref07_Apply_W v35 ([(ix v19 v31)] : List api_Write) fun v42 =>
 inX v31 v20.length ∧
 (0 ≤ (ix v20 v31) ∧ (ix v20 v31) < (3 : Int)) ∧
 ((ix v20 v31) = (0 : Int) →
 ((0 : Int) ≤ 0 ∧ 0 < (3 : Int)) ∧
 inI (v32 + 1) ∧
 ((0 : Int) ≤ 0 ∧ 0 < (3 : Int)) ∧
 inI (v31 + 1) ∧
 rec3 ((v31 + 1), (v32 + 1), v33, v34, v42.1)) ∧
 ((ix v20 v31) = (1 : Int) →
 ((0 : Int) ≤ 1 ∧ 1 < (3 : Int)) ∧
 inI (v33 + 1) ∧
 ((0 : Int) ≤ 1 ∧ 1 < (3 : Int)) ∧
 inI (v31 + 1) ∧
 rec3 ((v31 + 1), v32, (v33 + 1), v34, v42.1)) ∧
 ((ix v20 v31) = (2 : Int) →
 ((0 : Int) ≤ 2 ∧ 2 < (3 : Int)) ∧
 inI (v34 + 1) ∧
 ((0 : Int) ≤ 2 ∧ 2 < (3 : Int)) ∧
 inI (v31 + 1) ∧
 rec3 ((v31 + 1), v32, v33, (v34 + 1), v42.1)) ∧
 True) ∧
 (¬ (v34 < v24) →
 inX v31 v20.length ∧
 (0 ≤ (ix v20 v31) ∧ (ix v20 v31) < (3 : Int)) ∧
 ((ix v20 v31) = (0 : Int) →
 ((0 : Int) ≤ 0 ∧ 0 < (3 : Int)) ∧
 inI (v32 + 1) ∧
 ((0 : Int) ≤ 0 ∧ 0 < (3 : Int)) ∧
 inI (v31 + 1) ∧
 rec3 ((v31 + 1), (v32 + 1), v33, v34, v35)) ∧
 ((ix v20 v31) = (1 : Int) →
 ((0 : Int) ≤ 1 ∧ 1 < (3 : Int)) ∧
 inI (v33 + 1) ∧
 ((0 : Int) ≤ 1 ∧ 1 < (3 : Int)) ∧
 inI (v31 + 1) ∧
 rec3 ((v31 + 1), v32, (v33 + 1), v34, v35)) ∧
 ((ix v20 v31) = (2 : Int) →
 ((0 : Int) ≤ 2 ∧ 2 < (3 : Int)) ∧
 inI (v34 + 1) ∧
 ((0 : Int) ≤ 2 ∧ 2 < (3 : Int)) ∧
 inI (v31 + 1) ∧
 rec3 ((v31 + 1), v32, v33, (v34 + 1), v35)) ∧
 True)) ∧
 ((ix v20 v31) = (1 : Int) →
 ((0 : Int) ≤ 1 ∧ 1 < (3 : Int)) ∧
 (v34 < v25 →
 inX v31 v19.length ∧
 ref07_Apply_W v35 ([(ix v19 v31)] : List api_Write) fun v43 =>
 inX v31 v20.length ∧
 (0 ≤ (ix v20 v31) ∧ (ix v20 v31) < (3 : Int)) ∧
 ((ix v20 v31) = (0 : Int) →
 ((0 : Int) ≤ 0 ∧ 0 < (3 : Int)) ∧
 inI (v32 + 1) ∧
 ((0 : Int) ≤ 0 ∧ 0 < (3 : Int)) ∧
 inI (v31 + 1) ∧
 rec3 ((v31 + 1), (v32 + 1), v33, v34, v43.1)) ∧
 ((ix v20 v31) = (1 : Int) →
 ((0 : Int) ≤ 1 ∧ 1 < (3 : Int)) ∧
 inI (v33 + 1) ∧
 ((0 : Int) ≤ 1 ∧ 1 < (3 : Int)) ∧
 inI (v31 + 1) ∧
 rec3 ((v31 + 1), v32, (v33 + 1), v34, v43.1)) ∧
 ((ix v20 v31) = (2 : Int) →
 ((0 : Int) ≤ 2 ∧ 2 < (3 : Int)) ∧
 inI (v34 + 1) ∧
 ((0 : Int) ≤ 2 ∧ 2 < (3 : Int)) ∧
 inI (v31 + 1) ∧
 rec3 ((v31 + 1), v32, v33, (v34 + 1), v43.1)) ∧
 True) ∧
 (¬ (v34 < v25) →
 inX v31 v20.length ∧
 (0 ≤ (ix v20 v31) ∧ (ix v20 v31) < (3 : Int)) ∧
 ((ix v20 v31) = (0 : Int) →
 ((0 : Int) ≤ 0 ∧ 0 < (3 : Int)) ∧
 inI (v32 + 1) ∧
 ((0 : Int) ≤ 0 ∧ 0 < (3 : Int)) ∧
 inI (v31 + 1) ∧
 rec3 ((v31 + 1), (v32 + 1), v33, v34, v35)) ∧
 ((ix v20 v31) = (1 : Int) →
 ((0 : Int) ≤ 1 ∧ 1 < (3 : Int)) ∧
 inI (v33 + 1) ∧
 ((0 : Int) ≤ 1 ∧ 1 < (3 : Int)) ∧
 inI (v31 + 1) ∧
 rec3 ((v31 + 1), v32, (v33 + 1), v34, v35)) ∧
 ((ix v20 v31) = (2 : Int) →
 ((0 : Int) ≤ 2 ∧ 2 < (3 : Int)) ∧
 inI (v34 + 1) ∧
 ((0 : Int) ≤ 2 ∧ 2 < (3 : Int)) ∧
 inI (v31 + 1) ∧
 rec3 ((v31 + 1), v32, v33, (v34 + 1), v35)) ∧
 True)) ∧
 ((ix v20 v31) = (2 : Int) →
 ((0 : Int) ≤ 2 ∧ 2 < (3 : Int)) ∧
 (v34 < v26 →
 inX v31 v19.length ∧
 ref07_Apply_W v35 ([(ix v19 v31)] : List api_Write) fun v44 =>
 inX v31 v20.length ∧
 (0 ≤ (ix v20 v31) ∧ (ix v20 v31) < (3 : Int)) ∧
 ((ix v20 v31) = (0 : Int) →
 ((0 : Int) ≤ 0 ∧ 0 < (3 : Int)) ∧
 inI (v32 + 1) ∧
 ((0 : Int) ≤ 0 ∧ 0 < (3 : Int)) ∧
 inI (v31 + 1) ∧
 rec3 ((v31 + 1), (v32 + 1), v33, v34, v44.1)) ∧
 ((ix v20 v31) = (1 : Int) →
 ((0 : Int) ≤ 1 ∧ 1 < (3 : Int)) ∧
 inI (v33 + 1) ∧
 ((0 : Int) ≤ 1 ∧ 1 < (3 : Int)) ∧
 inI (v31 + 1) ∧
 rec3 ((v31 + 1), v32, (v33 + 1), v34, v44.1)) ∧
 ((ix v20 v31) = (2 : Int) →
 ((0 : Int) ≤ 2 ∧ 2 < (3 : Int)) ∧
 inI (v34 + 1) ∧
 ((0 : Int) ≤ 2 ∧ 2 < (3 : Int)) ∧
 inI (v31 + 1) ∧
 rec3 ((v31 + 1), v32, v33, (v34 + 1), v44.1)) ∧
 True) ∧
 (¬ (v34 < v26) →
 inX v31 v20.length ∧
 (0 ≤ (ix v20 v31) ∧ (ix v20 v31) < (3 : Int)) ∧
 ((ix v20 v31) = (0 : Int) →
 ((0 : Int) ≤ 0 ∧ 0 < (3 : Int)) ∧
 inI (v32 + 1) ∧
 ((0 : Int) ≤ 0 ∧ 0 < (3 : Int)) ∧
 inI (v31 + 1) ∧
 rec3 ((v31 + 1), (v32 + 1), v33, v34, v35)) ∧
 ((ix v20 v31) = (1 : Int) →
 ((0 : Int) ≤ 1 ∧ 1 < (3 : Int)) ∧
 inI (v33 + 1) ∧
 ((0 : Int) ≤ 1 ∧ 1 < (3 : Int)) ∧
 inI (v31 + 1) ∧
 rec3 ((v31 + 1), v32, (v33 + 1), v34, v35)) ∧
 ((ix v20 v31) = (2 : Int) →
 ((0 : Int) ≤ 2 ∧ 2 < (3 : Int)) ∧
 inI (v34 + 1) ∧
 ((0 : Int) ≤ 2 ∧ 2 < (3 : Int)) ∧
 inI (v31 + 1) ∧
 rec3 ((v31 + 1), v32, v33, (v34 + 1), v35)) ∧
 True)) ∧
 True) ∧
 True) ∧
 (¬ (v31 < (v19.length : Int)) →
 ref07_Same_W v28.1 v35 fun v45 =>
 (¬ (v45 = true) →
 Φ false) ∧
 (¬ (¬ (v45 = true)) →
 inI (v6 + 1) ∧
 rec1 ((v6 + 1), v24, v25, v26, v10, v11, v12, v27.1.Number, v27.1.Sizes, v27.1.Positions, v27.1.Nodes, v27.1.Writes, v28.1, v19, v20)))
def Z87 (v6 : Int) (v10 : Int) (v11 : Int) (v12 : Int) (v13 : Int) (v14 : List Int) (v15 : List Int) (v16 : List Int) (v17 : List api_Write) (v18 : List (List Sec)) (v19 : List api_Write) (v20 : List Int) (rec1 : (Int × Int × Int × Int × Int × Int × Int × Int × List Int × List Int × List Int × List api_Write × List (List Sec) × List api_Write × List Int) → Prop) (Φ : Bool → Prop) : Int × Int × Int → Prop
 | (v24, v25, v26) =>
 ((0 : Int) ≤ 0 ∧ 0 < (3 : Int)) ∧
 ((0 : Int) ≤ 1 ∧ 1 < (3 : Int)) ∧
 ((0 : Int) ≤ 2 ∧ 2 < (3 : Int)) ∧
 cycle_Close_W (api_Capture.mk v13 v14 v15 v16 v17) v6 ([v24, v25, v26] : List Int) fun v27 =>
 (v27.2.2 ≠ 0 →
 Φ false) ∧
 (¬ (v27.2.2 ≠ 0) →
 inI (v27.2.1.Base + 1) ∧
 (v27.2.1.Number ≠ (v27.2.1.Base + 1) →
 Φ false) ∧
 (¬ (v27.2.1.Number ≠ (v27.2.1.Base + 1)) →
 (v27.2.1.Base ≠ v13 →
 Φ false) ∧
 (¬ (v27.2.1.Base ≠ v13) →
 (v27.1.Number ≠ v27.2.1.Number →
 Φ false) ∧
 (¬ (v27.1.Number ≠ v27.2.1.Number) →
 cycle_Apply_W v18 v27.2.1 fun v28 =>
 (v28.2 ≠ 0 →
 Φ false) ∧
 (¬ (v28.2 ≠ 0) →
 law23_sizes_W fun v29 =>
 ref07_New_W v29 fun v30 =>
 LoopW (Z86 v6 v10 v11 v12 v19 v20 rec1 v24 v25 v26 v27 v28 Φ) (0, 0, 0, 0, v30.1))))))
def Z88 (x0 : List standbylaw23_Step) (Φ : Bool → Prop) : (Int × Int × Int × Int × Int × Int × Int × Int × List Int × List Int × List Int × List api_Write × List (List Sec) × List api_Write × List Int) → ((Int × Int × Int × Int × Int × Int × Int × Int × List Int × List Int × List Int × List api_Write × List (List Sec) × List api_Write × List Int) → Prop) → Prop
 | (v6, v7, v8, v9, v10, v11, v12, v13, v14, v15, v16, v17, v18, v19, v20), rec1 =>
 (v6 < (x0.length : Int) →
 inX v6 x0.length ∧
 (¬ ((ix x0 v6).Close = true) →
 (3#8) ≠ 0#8 ∧
 ∃ v21 : api_Write × Unit, law23_data_W (standbylaw23_Step.mk ((ix x0 v6).Node) ((ix x0 v6).Volume) ((ix x0 v6).Start) ((ix x0 v6).Count) ((ix x0 v6).First) ((ix x0 v6).Close) ((ix x0 v6).More)) (fun z => (z, ()) = v21) ∧
 ∃ v22 : api_Capture × Int × Unit, cycle_Add_W (api_Capture.mk v13 v14 v15 v16 v17) ((((ix x0 v6).Node) % (3#8)).toNat : Int) v21.1 (fun z => (z.1, z.2, ()) = v22) ∧
 (v22.2.1 ≠ 0 →
 Φ false) ∧
 (¬ (v22.2.1 ≠ 0) →
 law23_data_W (standbylaw23_Step.mk ((ix x0 v6).Node) ((ix x0 v6).Volume) ((ix x0 v6).Start) ((ix x0 v6).Count) ((ix x0 v6).First) ((ix x0 v6).Close) ((ix x0 v6).More)) fun v23 =>
 lenOk (v19 ++ ([v23] : List api_Write)).length 40 ∧
 lenOk (v20 ++ ([((((ix x0 v6).Node) % (3#8)).toNat : Int)] : List Int)).length 8 ∧
 (0 ≤ ((((ix x0 v6).Node) % (3#8)).toNat : Int) ∧ ((((ix x0 v6).Node) % (3#8)).toNat : Int) < (3 : Int)) ∧
 (((((ix x0 v6).Node) % (3#8)).toNat : Int) = (0 : Int) →
 ((0 : Int) ≤ 0 ∧ 0 < (3 : Int)) ∧
 inI (v10 + 1) ∧
 ((0 : Int) ≤ 0 ∧ 0 < (3 : Int)) ∧
 inI (v6 + 1) ∧
 rec1 ((v6 + 1), v7, v8, v9, (v10 + 1), v11, v12, v22.1.Number, v22.1.Sizes, v22.1.Positions, v22.1.Nodes, v22.1.Writes, v18, (v19 ++ ([v23] : List api_Write)), (v20 ++ ([((((ix x0 v6).Node) % (3#8)).toNat : Int)] : List Int)))) ∧
 (((((ix x0 v6).Node) % (3#8)).toNat : Int) = (1 : Int) →
 ((0 : Int) ≤ 1 ∧ 1 < (3 : Int)) ∧
 inI (v11 + 1) ∧
 ((0 : Int) ≤ 1 ∧ 1 < (3 : Int)) ∧
 inI (v6 + 1) ∧
 rec1 ((v6 + 1), v7, v8, v9, v10, (v11 + 1), v12, v22.1.Number, v22.1.Sizes, v22.1.Positions, v22.1.Nodes, v22.1.Writes, v18, (v19 ++ ([v23] : List api_Write)), (v20 ++ ([((((ix x0 v6).Node) % (3#8)).toNat : Int)] : List Int)))) ∧
 (((((ix x0 v6).Node) % (3#8)).toNat : Int) = (2 : Int) →
 ((0 : Int) ≤ 2 ∧ 2 < (3 : Int)) ∧
 inI (v12 + 1) ∧
 ((0 : Int) ≤ 2 ∧ 2 < (3 : Int)) ∧
 inI (v6 + 1) ∧
 rec1 ((v6 + 1), v7, v8, v9, v10, v11, (v12 + 1), v22.1.Number, v22.1.Sizes, v22.1.Positions, v22.1.Nodes, v22.1.Writes, v18, (v19 ++ ([v23] : List api_Write)), (v20 ++ ([((((ix x0 v6).Node) % (3#8)).toNat : Int)] : List Int)))) ∧
 True)) ∧
 (¬ (¬ ((ix x0 v6).Close = true)) →
 Join (Z87 v6 v10 v11 v12 v13 v14 v15 v16 v17 v18 v19 v20 rec1 Φ) fun J2 =>
 ((0 : Int) < 3 →
 ((0 : Int) ≤ 0 ∧ 0 < (3 : Int)) ∧
 ((0 : Int) ≤ 0 ∧ 0 < (3 : Int)) ∧
 ((0 : Int) ≤ 0 ∧ 0 < (3 : Int)) ∧
 ((0 : Int) ≤ 0 ∧ 0 < (3 : Int)) ∧
 inI (v10 - v7) ∧
 inI ((v10 - v7) + 1) ∧
 (0 ≤ ((((ix x0 v6).More).e0).toNat : Int) ∧ ((v10 - v7) + 1) ≠ (0 : Int)) ∧
 inI (v7 + (((((ix x0 v6).More).e0).toNat : Int) % ((v10 - v7) + 1))) ∧
 ((0 : Int) ≤ 0 ∧ 0 < (3 : Int)) ∧
 inI ((0 : Int) + 1) ∧
 ((1 : Int) < 3 →
 ((0 : Int) ≤ 1 ∧ 1 < (3 : Int)) ∧
 ((0 : Int) ≤ 1 ∧ 1 < (3 : Int)) ∧
 ((0 : Int) ≤ 1 ∧ 1 < (3 : Int)) ∧
 ((0 : Int) ≤ 1 ∧ 1 < (3 : Int)) ∧
 inI (v11 - v8) ∧
 inI ((v11 - v8) + 1) ∧
 (0 ≤ ((((ix x0 v6).More).e1).toNat : Int) ∧ ((v11 - v8) + 1) ≠ (0 : Int)) ∧
 inI (v8 + (((((ix x0 v6).More).e1).toNat : Int) % ((v11 - v8) + 1))) ∧
 ((0 : Int) ≤ 1 ∧ 1 < (3 : Int)) ∧
 inI ((1 : Int) + 1) ∧
 ((2 : Int) < 3 →
 ((0 : Int) ≤ 2 ∧ 2 < (3 : Int)) ∧
 ((0 : Int) ≤ 2 ∧ 2 < (3 : Int)) ∧
 ((0 : Int) ≤ 2 ∧ 2 < (3 : Int)) ∧
 ((0 : Int) ≤ 2 ∧ 2 < (3 : Int)) ∧
 inI (v12 - v9) ∧
 inI ((v12 - v9) + 1) ∧
 (0 ≤ ((((ix x0 v6).More).e2).toNat : Int) ∧ ((v12 - v9) + 1) ≠ (0 : Int)) ∧
 inI (v9 + (((((ix x0 v6).More).e2).toNat : Int) % ((v12 - v9) + 1))) ∧
 ((0 : Int) ≤ 2 ∧ 2 < (3 : Int)) ∧
 inI ((2 : Int) + 1) ∧
 ((3 : Int) < 3 →
 ((0 : Int) ≤ 3 ∧ 3 < (3 : Int)) ∧
 False) ∧
 (¬ ((3 : Int) < 3) →
 J2 ((v7 + (((((ix x0 v6).More).e0).toNat : Int) % ((v10 - v7) + 1))), (v8 + (((((ix x0 v6).More).e1).toNat : Int) % ((v11 - v8) + 1))), (v9 + (((((ix x0 v6).More).e2).toNat : Int) % ((v12 - v9) + 1)))))) ∧
 (¬ ((2 : Int) < 3) →
 J2 ((v7 + (((((ix x0 v6).More).e0).toNat : Int) % ((v10 - v7) + 1))), (v8 + (((((ix x0 v6).More).e1).toNat : Int) % ((v11 - v8) + 1))), v9))) ∧
 (¬ ((1 : Int) < 3) →
 J2 ((v7 + (((((ix x0 v6).More).e0).toNat : Int) % ((v10 - v7) + 1))), v8, v9))) ∧
 (¬ ((0 : Int) < 3) →
 J2 (v7, v8, v9)))) ∧
 (¬ (v6 < (x0.length : Int)) →
 law23_awake_W fun v46 =>
 Φ v46)
def Z89 (x0 : List standbylaw23_Step) (Φ : Bool → Prop) : Prop :=
 (25 < (x0.length : Int) →
 law23_awake_W fun v1 =>
 Φ v1) ∧
 (¬ (25 < (x0.length : Int)) →
 law23_sizes_W fun v2 =>
 cycle_Open_W v2 3 0 fun v3 =>
 law23_sizes_W fun v4 =>
 image_New_W v4 fun v5 =>
 (v3.2 ≠ 0 →
 Φ false) ∧
 (¬ (v3.2 ≠ 0) →
 (v5.2 ≠ 0 →
 Φ false) ∧
 (¬ (v5.2 ≠ 0) →
 ((v3.1.Positions.length : Int) ≠ 3 →
 Φ false) ∧
 (¬ ((v3.1.Positions.length : Int) ≠ 3) →
 LoopW (Z88 x0 Φ) (0, 0, 0, 0, 0, 0, 0, v3.1.Number, v3.1.Sizes, v3.1.Positions, v3.1.Nodes, v3.1.Writes, v5.1, ([] : List api_Write), ([] : List Int))))))
def ghT : Hp → Prop := fun _ => True
def gh : Hp → Prop := fun _ => True
theorem ghUp : GUp gh := fun _ _ _ _ => trivial
def ct48 : Ct DD := ⟨48, [3], [4], [[false]], true, fun x Φ => Z0 x.1 fun y => Φ (y, ())⟩
def pl48 : List PE := []
def ct20 : Ct DD := ⟨20, [24], [28], [[false]], true, fun x Φ => Z2 x.1 fun y => Φ (y, ())⟩
def pl20 : List PE := [⟨[4, 1, 0, 1, 12, 0, 1, 11, 0, 0, 1, 1], [], [], ⟨[.int], [(0, .kp 0), (1, .kp 1), (7, .kp 4), (8, .v .int)], [], [], []⟩, false⟩]
def ct22 : Ct DD := ⟨22, [3], [41], [[true]], false, fun x Φ => image_New_1_W x.1 fun y => Φ (y, ())⟩
def pl22 : List PE := []
def ct7 : Ct DD := ⟨7, [24], [33, 28], [[true], [false]], false, fun x Φ => image_New_W x.1 fun y => Φ (y.1, y.2, ())⟩
def pl7 : List PE := [⟨[4, 1, 0, 1, 1, 11, 0, 1, 1], [], [], ⟨[.int, .lst 41], [(1, .kp 2), (5, .own 0), (11, .kp 8), (12, .kp 9), (13, .v .int)], [], [41], []⟩, false⟩]
def ct18 : Ct DD := ⟨18, [3, 3, 3], [4], [[false]], true, fun x Φ => cycle_in_W x.1 x.2.1 x.2.2.1 fun y => Φ (y, ())⟩
def pl18 : List PE := []
def ct19 : Ct DD := ⟨19, [24], [24], [[true]], false, fun x Φ => Z3 x.1 fun y => Φ (y, ())⟩
def pl19 : List PE := []
def ct5 : Ct DD := ⟨5, [24, 3, 3], [27, 28], [[false, true, true, false, false], [false]], false, fun x Φ => cycle_Open_W x.1 x.2.1 x.2.2.1 fun y => Φ (y.1, y.2, ())⟩
def pl5 : List PE := []
def ct15 : Ct DD := ⟨15, [3, 3, 93], [43], [[false, false, true]], false, fun x Φ => law23_write_W x.1 x.2.1 x.2.2.1 fun y => Φ (y, ())⟩
def pl15 : List PE := [⟨[4, 1, 0, 1, 1], [], [0], ⟨[.int, .lst 72], [(2, .kp 4), (6, .kp 5), (7, .kp 9), (8, .v .int)], [(1, 43, [.kp 11,.kp 12,.own 0])], [72], []⟩, false⟩]
def ct68 : Ct DD := ⟨68, [3], [4], [[false]], true, fun x Φ => Z5 x.1 fun y => Φ (y, ())⟩
def pl68 : List PE := []
def ct50 : Ct DD := ⟨50, [24, 3], [28], [[false]], true, fun x Φ => Z7 x.1 x.2.1 fun y => Φ (y, ())⟩
def pl50 : List PE := [⟨[4, 1, 0, 1, 12, 0, 1, 11, 0, 0, 1, 1], [], [], ⟨[.int], [(0, .kp 0), (1, .kp 1), (7, .kp 4), (8, .v .int)], [], [], []⟩, false⟩]
def ct73 : Ct DD := ⟨73, [41], [3], [[false]], true, fun x Φ => Z8 x.1 fun y => Φ (y, ())⟩
def pl73 : List PE := []
def ct57 : Ct DD := ⟨57, [33], [24], [[true]], false, fun x Φ => image_sizes_W x.1 fun y => Φ (y, ())⟩
def pl57 : List PE := [⟨[4, 1, 0, 1, 1, 11, 0, 1], [], [], ⟨[.int, .lst 3], [(1, .kp 2), (5, .own 0), (11, .kp 8), (12, .kp 9), (13, .v .int)], [], [3], []⟩, false⟩]
def ct36 : Ct DD := ⟨36, [33], [28], [[false]], true, fun x Φ => image_Check_W x.1 fun y => Φ (y, ())⟩
def pl36 : List PE := []
def ct60 : Ct DD := ⟨60, [33, 43], [28], [[false]], true, fun x Φ => image_fits_W x.1 x.2.1 fun y => Φ (y, ())⟩
def pl60 : List PE := [⟨[4, 0, 1], [], [0], ⟨[.bool], [(0, .kp 1), (3, .kp 3), (5, .v .bool)], [], [], []⟩, true⟩]
def ct49 : Ct DD := ⟨49, [33, 43], [28], [[false]], true, fun x Φ => image_Fits_W x.1 x.2.1 fun y => Φ (y, ())⟩
def pl49 : List PE := []
def ct51 : Ct DD := ⟨51, [41], [41], [[true]], false, fun x Φ => Z10 x.1 fun y => Φ (y, ())⟩
def pl51 : List PE := []
def ct29 : Ct DD := ⟨29, [43], [43], [[false, false, true]], false, fun x Φ => Z11 x.1 fun y => Φ (y, ())⟩
def pl29 : List PE := []
def ct28 : Ct DD := ⟨28, [27], [27], [[false, true, true, true, true]], false, fun x Φ => Z13 x.1 fun y => Φ (y, ())⟩
def pl28 : List PE := [⟨[4, 1, 0, 1, 1, 1], [], [4, 3, 2, 0, 1], ⟨[.int, .lst 43], [(1, .kp 6), (2, .kp 7), (3, .own 0), (19, .kp 22), (20, .kp 23), (21, .v .int)], [], [43], []⟩, false⟩]
def ct8 : Ct DD := ⟨8, [27, 3, 43], [27, 28], [[false, true, true, true, true], [false]], false, fun x Φ => cycle_Add_W x.1 x.2.1 x.2.2.1 fun y => Φ (y.1, y.2, ())⟩
def pl8 : List PE := [⟨[0, 1, 1], [0, 1], [0, 1], ⟨[], [(0, .kp 0), (1, .kp 0), (3, .kp 0), (4, .kp 0)], [], [0, 0, 0, 1, 3, 4, 2, 5], []⟩, false⟩, ⟨[4, 1, 0, 1, 1, 1, 1, 1, 1, 12, 0, 1, 1], [19], [19, 18, 3, 2], ⟨[.int], [(1, .kp 21), (3, .kp 29), (38, .kp 56), (39, .kp 57), (40, .v .int)], [], [], []⟩, false⟩, ⟨[1, 4, 0, 1, 1, 5, 4, 1, 0, 1, 1, 1, 1, 1, 1, 12, 0, 1, 1], [], [], ⟨[], [], [], [8], []⟩, false⟩]
def ct52 : Ct DD := ⟨52, [3], [4], [[false]], true, fun x Φ => Z14 x.1 fun y => Φ (y, ())⟩
def pl52 : List PE := []
def it53 : It DD := ⟨53, [75, 4], [3, 43], fun x l => cycle_division_writes_1_I x.1 x.2.1 l⟩
def pl53 : List PE := [⟨[4, 1], [], [], ⟨[.int], [(0, .kp 0), (1, .kp 3), (2, .kp 4), (8, .kp 7), (9, .kp 8), (10, .v .int)], [], [], []⟩, false⟩, ⟨[0, 1, 4, 0, 1, 1, 5, 4, 1], [], [], ⟨[], [(2, .kp 0), (5, .kp 0), (7, .kp 0), (8, .kp 0), (9, .kp 0)], [], [0, 0, 2, 5, 0, 1, 3, 4, 6, 7, 8, 9, 10, 11, 12, 13], []⟩, false⟩]
def ct54 : Ct DD := ⟨54, [43], [28], [[false]], true, fun x Φ => Z17 x.1 fun y => Φ (y, ())⟩
def pl54 : List PE := [⟨[4, 0, 1], [], [0], ⟨[.bool], [(1, .kp 2), (3, .v .bool)], [], [], []⟩, true⟩]
def ct69 : Ct DD := ⟨69, [119], [119], [[false, false]], true, fun x Φ => Z18 x.1 fun y => Φ (y, ())⟩
def pl69 : List PE := []
def ct94 : Ct DD := ⟨94, [3], [4], [[false]], true, fun x Φ => Z19 x.1 fun y => Φ (y, ())⟩
def pl94 : List PE := []
def ct81 : Ct DD := ⟨81, [3, 3], [3], [[false]], true, fun x Φ => Z20 x.1 x.2.1 fun y => Φ (y, ())⟩
def pl81 : List PE := []
def ct80 : Ct DD := ⟨80, [24], [3], [[false]], true, fun x Φ => cmp_Or_int_W x.1 fun y => Φ (y, ())⟩
def pl80 : List PE := [⟨[4, 1, 0, 1, 1], [], [], ⟨[.int], [(3, .kp 2), (6, .kp 3), (7, .kp 4), (8, .v .int)], [], [], []⟩, false⟩]
def ct71 : Ct DD := ⟨71, [119, 119], [3], [[false]], true, fun x Φ => Z21 x.1 x.2.1 fun y => Φ (y, ())⟩
def pl71 : List PE := []
def tn70 : Tn DD := ⟨70, 119, [71], fun xs Φ => Z22 xs Φ⟩
def ct33 : Ct DD := ⟨33, [25], [25, 28], [[true], [false]], false, fun x Φ => Z29 x.1 fun y => Φ (y.1, y.2, ())⟩
def pl33 : List PE := [⟨[4, 1, 0, 1], [], [], ⟨[.int], [(0, .kp 0), (7, .kp 3), (8, .kp 4), (9, .v .int)], [], [], []⟩, false⟩, ⟨[4, 1, 0, 1, 1, 11, 0, 1, 1], [], [], ⟨[.int, .mp 119 72], [(3, .kp 9), (10, .kp 0), (11, .kp 10), (12, .v .int)], [], [], [(6, .map 119 72 true true)]⟩, false⟩, ⟨[4, 1, 1, 1, 4, 0, 1, 1, 5, 4, 1, 0, 1, 1, 11, 0, 1, 1], [], [12], ⟨[.int, .int, .int, .mp 119 72], [(3, .kp 9), (6, .kp 24), (10, .kp 0), (11, .kp 10), (12, .kp 14), (22, .kp 26), (23, .kp 27), (24, .v .int)], [(13, 119, [.v .int,.v .int])], [], [(6, .map 119 72 true true)]⟩, false⟩, ⟨[4, 1, 0, 1, 1, 12, 0, 1, 1], [], [6], ⟨[.itr, .lst 119], [(0, .kp 9), (3, .own 0), (14, .kp 18)], [], [119], [(13, .itr 6)]⟩, false⟩, ⟨[4, 1, 0, 1, 1, 1, 1, 1, 1, 12, 0, 1, 1], [], [13, 19, 6], ⟨[.int, .int, .int, .lst 43, .lst 72], [(0, .kp 9), (5, .own 0), (6, .kp 28), (26, .kp 29), (27, .kp 30), (28, .v .int)], [(20, 119, [.v .int,.v .int])], [300043, 72], []⟩, false⟩, ⟨[1, 4, 0, 1, 1, 5, 4, 1, 0, 1, 1, 1, 1, 1, 1, 12, 0, 1, 1], [], [36, 20], ⟨[.lst 43, .lst 72], [(0, .kp 9), (5, .own 0), (6, .kp 28), (8, .kp 42), (26, .kp 29), (27, .kp 30), (28, .kp 38)], [], [300043, 72], []⟩, true⟩]
def ct35 : Ct DD := ⟨35, [75, 3, 43], [43], [[false, false, true]], false, fun x Φ => Z33 x.1 x.2.1 x.2.2.1 fun y => Φ (y, ())⟩
def pl35 : List PE := [⟨[4, 1, 0, 1, 1], [5, 6], [6, 5, 3, 1, 0], ⟨[.lst 72], [], [(2, 43, [.kp 21,.kp 22,.own 0])], [72], []⟩, false⟩, ⟨[4, 1, 1, 4, 7, 4, 1, 0, 1, 1], [], [32], ⟨[.int, .lst 72], [(5, .kp 12), (8, .kp 36), (29, .kp 43), (30, .v .int)], [(2, 43, [.kp 21,.kp 22,.own 0])], [72], []⟩, false⟩, ⟨[0, 4, 7, 4, 1, 0, 1, 1], [], [32, 2, 31], ⟨[.bool], [(5, .kp 12), (8, .kp 36), (26, .v .bool)], [], [], []⟩, true⟩]
def ct10 : Ct DD := ⟨10, [27, 3, 24], [27, 46, 28], [[false, true, true, true, true], [false, false, false, true, true], [false]], false, fun x Φ => cycle_Close_W x.1 x.2.1 x.2.2.1 fun y => Φ (y.1, y.2.1, y.2.2, ())⟩
def pl10 : List PE := [⟨[4, 1, 0, 1, 1, 1, 1, 1, 1, 11, 0, 1, 1], [5], [5, 4, 3, 2, 1, 0], ⟨[.int], [(1, .kp 7), (3, .kp 15), (38, .kp 42), (39, .kp 43), (40, .v .int)], [], [], []⟩, false⟩, ⟨[1, 4, 0, 1, 1, 5, 4, 1, 0, 1, 1, 1, 1, 1, 1, 11, 0, 1, 1], [], [], ⟨[], [], [], [8], []⟩, false⟩, ⟨[4, 1, 0, 1, 1, 12, 0, 1, 1, 1, 1, 1], [], [67, 66, 5, 4, 3, 2, 1, 0], ⟨[.int, .lst 3], [(2, .kp 71), (4, .kp 72), (5, .own 0), (14, .kp 77), (15, .kp 78), (16, .v .int)], [], [3], []⟩, false⟩, ⟨[4, 1, 0, 1, 1, 1, 1, 12, 0, 1, 1, 1, 1, 1], [], [67, 66, 5, 4, 3, 2, 1, 0], ⟨[.int, .lst 3, .lst 4], [(4, .kp 72), (5, .own 0), (8, .kp 98), (41, .kp 89), (42, .kp 100), (43, .v .int)], [(92, 75, [.kp 102,.kp 103,.kp 104,.kp 105,.kp 106,.own 1])], [3, 4], []⟩, false⟩, ⟨[4, 1, 0, 1, 12, 0, 1, 11, 0, 1, 1, 1, 1, 1, 12, 0, 1, 1, 1, 1, 1], [], [92, 108, 109, 67, 66, 5, 4, 3, 2, 1, 0], ⟨[.int], [(0, .kp 110), (1, .kp 111), (7, .kp 114), (8, .v .int)], [], [], []⟩, false⟩, ⟨[4, 1, 0, 1, 1, 1, 1, 1, 1, 1], [119, 109, 120], [120, 119, 117, 92, 108, 109, 67, 66, 5, 4, 3, 2, 1, 0], ⟨[.lst 43], [], [(118, 25, [.own 0])], [43], []⟩, false⟩, ⟨[4, 1, 0, 1, 1, 1, 1, 1, 1, 1, 1, 1, 1, 1, 1], [164, 165], [165, 164, 162, 163, 161, 160, 2, 118, 159, 120, 119, 117, 92, 108, 109, 67, 66, 5, 4, 3, 0], ⟨[.lst 3, .lst 43], [], [(1, 27, [.kp 187,.kp 188,.kp 189,.own 0,.own 1])], [3, 43], []⟩, false⟩, ⟨[4, 1, 0, 1, 1, 1, 1, 1, 1, 1], [119, 109, 120], [120, 119, 117, 92, 108, 109, 67, 66, 5, 4, 3, 2, 1, 0], ⟨[.lst 43], [], [(118, 25, [.own 0])], [43], []⟩, false⟩, ⟨[4, 1, 0, 1, 1, 1, 1, 1, 1, 1, 1, 1, 1, 1, 1], [164, 165], [165, 164, 162, 163, 161, 160, 2, 118, 159, 120, 119, 117, 92, 108, 109, 67, 66, 5, 4, 3, 0], ⟨[.lst 3, .lst 43], [], [(1, 27, [.kp 187,.kp 188,.kp 189,.own 0,.own 1])], [3, 43], []⟩, false⟩]
def ct63 : Ct DD := ⟨63, [41, 41], [4], [[false]], true, fun x Φ => Z43 x.1 x.2.1 fun y => Φ (y, ())⟩
def pl63 : List PE := [⟨[4, 1, 0, 1, 1], [], [], ⟨[.int], [(0, .kp 0), (1, .kp 1), (5, .v .int)], [], [], []⟩, false⟩]
def ct44 : Ct DD := ⟨44, [25, 25], [4], [[false]], true, fun x Φ => Z45 x.1 x.2.1 fun y => Φ (y, ())⟩
def pl44 : List PE := [⟨[4, 1, 0, 1, 1], [], [], ⟨[.int], [(0, .kp 0), (1, .kp 1), (5, .v .int)], [], [], []⟩, false⟩]
def ct16 : Ct DD := ⟨16, [25, 25], [4], [[false]], true, fun x Φ => ref22_Same_W x.1 x.2.1 fun y => Φ (y, ())⟩
def pl16 : List PE := []
def ct83 : Ct DD := ⟨83, [139, 139], [139, 139], [[false], [false]], true, fun x Φ => Z46 x.1 x.2.1 fun y => Φ (y.1, y.2, ())⟩
def pl83 : List PE := []
def ct76 : Ct DD := ⟨76, [128, 128], [128, 128], [[false], [false]], true, fun x Φ => Z47 x.1 x.2.1 fun y => Φ (y.1, y.2, ())⟩
def pl76 : List PE := []
def ct64 : Ct DD := ⟨64, [24, 3], [24], [[true]], false, fun x Φ => Z50 x.1 x.2.1 fun y => Φ (y, ())⟩
def pl64 : List PE := [⟨[4, 0, 1, 1, 1, 1, 1, 1], [], [], ⟨[.int, .lst 3], [(7, .own 0), (8, .v .int)], [], [3], []⟩, false⟩, ⟨[0, 1, 1, 1], [], [], ⟨[.bool], [(0, .kp 0), (6, .kp 15), (26, .v .bool)], [], [], []⟩, true⟩]
def ct45 : Ct DD := ⟨45, [], [24], [[true]], false, fun _ Φ => Z51 fun y => Φ (y, ())⟩
def pl45 : List PE := []
def ct58 : Ct DD := ⟨58, [25, 24], [28], [[false]], true, fun x Φ => Z53 x.1 x.2.1 fun y => Φ (y, ())⟩
def pl58 : List PE := [⟨[4, 1, 0, 1, 12, 0, 1, 1, 1], [0], [1, 0], ⟨[.int], [(0, .kp 2), (1, .kp 3), (9, .kp 5), (10, .kp 6), (11, .v .int)], [], [], []⟩, false⟩]
def ct37 : Ct DD := ⟨37, [46, 24], [28], [[false]], true, fun x Φ => cycle_Check_W x.1 x.2.1 fun y => Φ (y, ())⟩
def pl37 : List PE := [⟨[4, 0, 1, 1], [], [1, 0], ⟨[.bool], [(1, .kp 3), (2, .kp 4), (16, .v .bool)], [], [], []⟩, true⟩]
def ct66 : Ct DD := ⟨66, [114], [25], [[true]], false, fun x Φ => Z58 x.1 fun y => Φ (y, ())⟩
def pl66 : List PE := [⟨[4, 1, 0, 1, 1], [], [], ⟨[.int, .int], [(0, .kp 0), (3, .v .int), (9, .kp 3), (10, .kp 4), (11, .v .int)], [], [], []⟩, false⟩, ⟨[4, 1, 0, 1, 1, 1, 1], [], [], ⟨[.int, .lst 43], [(6, .own 0), (25, .kp 0), (26, .kp 11), (27, .v .int)], [], [43], []⟩, false⟩, ⟨[1, 1, 1], [], [], ⟨[.lst 43], [(0, .kp 0), (6, .own 0)], [], [43], []⟩, true⟩]
def ct46 : Ct DD := ⟨46, [25, 25], [25, 28], [[true], [false]], false, fun x Φ => Z67 x.1 x.2.1 fun y => Φ (y.1, y.2, ())⟩
def pl46 : List PE := [⟨[4, 1, 0, 1], [], [0], ⟨[.int], [(0, .kp 1), (1, .kp 2), (11, .kp 7), (12, .kp 8), (13, .v .int)], [], [], []⟩, false⟩, ⟨[1, 4, 0, 1, 1, 5, 4, 1, 0, 1], [], [], ⟨[.int], [(0, .kp 1), (1, .kp 2), (8, .v .int), (11, .kp 7), (12, .kp 8), (13, .kp 10)], [], [], []⟩, true⟩, ⟨[4, 1, 0, 1, 11, 0, 1, 4, 0, 1, 1, 5, 4, 1, 0, 1], [], [], ⟨[.int], [(0, .kp 14), (1, .kp 15), (9, .kp 14), (10, .kp 17), (11, .v .int)], [], [], []⟩, false⟩, ⟨[4, 1, 0, 1, 1, 14, 0, 1, 1], [], [11, 10, 0], ⟨[.int, .mp 119 72], [(3, .kp 16), (10, .kp 17), (11, .kp 18), (12, .v .int)], [], [], [(12, .map 119 72 true true)]⟩, false⟩, ⟨[4, 1, 1, 1, 4, 0, 1, 1, 5, 4, 1, 0, 1, 1, 14, 0, 1, 1], [], [20], ⟨[.int, .int, .int, .mp 119 72], [(3, .kp 16), (6, .kp 32), (10, .kp 17), (11, .kp 18), (12, .kp 22), (22, .kp 34), (23, .kp 35), (24, .v .int)], [(21, 119, [.v .int,.v .int])], [], [(12, .map 119 72 true true)]⟩, false⟩, ⟨[4, 1, 0, 1, 1, 15, 0, 1, 1], [], [12, 11, 10, 0], ⟨[.itr, .lst 119], [(0, .kp 16), (3, .own 0), (14, .kp 26)], [], [119], [(21, .itr 12)]⟩, false⟩, ⟨[4, 1, 0, 1, 1, 1, 1, 1, 1, 15, 0, 1, 1], [], [21, 27, 12, 11, 10, 0], ⟨[.int, .int, .int, .lst 43, .lst 72], [(0, .kp 16), (5, .own 0), (6, .kp 36), (26, .kp 37), (27, .kp 38), (28, .v .int)], [(28, 119, [.v .int,.v .int])], [300043, 72], []⟩, false⟩, ⟨[1, 4, 0, 1, 1, 5, 4, 1, 0, 1, 1, 1, 1, 1, 1, 15, 0, 1, 1], [], [44, 28], ⟨[.lst 43, .lst 72], [(0, .kp 16), (5, .own 0), (6, .kp 36), (8, .kp 50), (26, .kp 37), (27, .kp 38), (28, .kp 46)], [], [300043, 72], []⟩, true⟩]
def ct17 : Ct DD := ⟨17, [46, 46], [46, 28], [[false, false, false, true, true], [false]], false, fun x Φ => Z70 x.1 x.2.1 fun y => Φ (y.1, y.2, ())⟩
def pl17 : List PE := [⟨[4, 1, 0, 1], [], [3, 1, 0], ⟨[.int], [(2, .kp 6), (3, .kp 7), (4, .kp 8), (15, .kp 12), (16, .kp 13), (17, .v .int)], [(2, 46, [.kp 15,.kp 16,.kp 17,.kp 18,.kp 19])], [], []⟩, false⟩, ⟨[4, 1, 0, 1, 1, 1], [], [3, 1, 0], ⟨[.int], [(2, .kp 6), (3, .kp 7), (4, .kp 8), (53, .kp 28), (54, .kp 47), (55, .v .int)], [(2, 46, [.kp 15,.kp 16,.kp 17,.kp 18,.kp 19])], [], []⟩, false⟩]
def ct4 : Ct DD := ⟨4, [], [4], [[false]], true, fun _ Φ => law23_awake_W fun y => Φ (y, ())⟩
def pl4 : List PE := [⟨[1, 1, 1, 1, 1, 1], [26, 28], [29, 23, 24, 25, 26, 27, 28, 22, 18, 19, 20, 21, 17, 16, 12, 13, 14, 15, 3, 11, 10, 6, 7, 8, 9, 5, 4, 1, 2, 0], ⟨[], [(1, .kp 36), (6, .kp 69)], [], [], []⟩, true⟩]
def ct6 : Ct DD := ⟨6, [], [24], [[true]], false, fun _ Φ => law23_sizes_W fun y => Φ (y, ())⟩
def pl6 : List PE := []
def ct9 : Ct DD := ⟨9, [39], [43], [[false, false, true]], false, fun x Φ => law23_data_W x.1 fun y => Φ (y, ())⟩
def pl9 : List PE := [⟨[4, 1, 0, 1, 1, 1, 1], [], [2, 1, 0], ⟨[.int, .lst 72], [(1, .kp 5), (2, .kp 6), (3, .kp 13), (4, .kp 19), (5, .kp 26), (6, .v .int)], [(3, 43, [.kp 28,.kp 29,.own 0])], [72], []⟩, false⟩]
def ct38 : Ct DD := ⟨38, [33, 25], [33, 3, 28], [[true], [false], [false]], false, fun x Φ => image_Apply_W x.1 x.2.1 fun y => Φ (y.1, y.2.1, y.2.2, ())⟩
def ct11 : Ct DD := ⟨11, [33, 46], [33, 28], [[true], [false]], false, fun x Φ => cycle_Apply_W x.1 x.2.1 fun y => Φ (y.1, y.2, ())⟩
def pl11 : List PE := [⟨[4, 1, 0, 1, 1, 1], [], [0], ⟨[.int, .lst 3], [(0, .kp 1), (3, .kp 3), (7, .own 0), (19, .kp 12), (20, .kp 13), (21, .v .int)], [], [3], []⟩, false⟩]
def ct39 : Ct DD := ⟨39, [24], [3], [[false]], true, fun x Φ => ref07_Sizes_W x.1 fun y => Φ (y, ())⟩
def pl39 : List PE := [⟨[4, 1, 0, 1, 1], [], [], ⟨[.int], [(0, .kp 0), (3, .v .int)], [], [], []⟩, false⟩]
def ct12 : Ct DD := ⟨12, [24], [33, 3], [[true], [false]], false, fun x Φ => ref07_New_W x.1 fun y => Φ (y.1, y.2, ())⟩
def pl12 : List PE := [⟨[4, 1, 0, 1, 1, 1], [], [], ⟨[.int, .lst 41], [(0, .kp 0), (5, .own 0), (6, .v .int)], [], [41], []⟩, false⟩]
def ct43 : Ct DD := ⟨43, [41, 41], [4], [[false]], true, fun x Φ => Z79 x.1 x.2.1 fun y => Φ (y, ())⟩
def pl43 : List PE := [⟨[4, 1, 0, 1, 1], [], [], ⟨[.int], [(0, .kp 0), (1, .kp 1), (5, .v .int)], [], [], []⟩, false⟩]
def ct14 : Ct DD := ⟨14, [33, 33], [4], [[false]], true, fun x Φ => ref07_Same_W x.1 x.2.1 fun y => Φ (y, ())⟩
def pl14 : List PE := [⟨[4, 1, 0, 1, 1], [], [], ⟨[.int], [(0, .kp 0), (1, .kp 1), (5, .v .int)], [], [], []⟩, false⟩]
def ct61 : Ct DD := ⟨61, [33], [24], [[true]], false, fun x Φ => Z81 x.1 fun y => Φ (y, ())⟩
def pl61 : List PE := [⟨[4, 1, 0, 1, 1], [], [], ⟨[.int, .lst 3], [(0, .kp 0), (3, .own 0), (4, .v .int)], [], [3], []⟩, false⟩]
def ct40 : Ct DD := ⟨40, [33], [3], [[false]], true, fun x Φ => ref07_Check_W x.1 fun y => Φ (y, ())⟩
def pl40 : List PE := []
def ct62 : Ct DD := ⟨62, [24, 43], [3], [[false]], true, fun x Φ => Z82 x.1 x.2.1 fun y => Φ (y, ())⟩
def pl62 : List PE := []
def ct42 : Ct DD := ⟨42, [33, 43], [3], [[false]], true, fun x Φ => ref07_Fits_W x.1 x.2.1 fun y => Φ (y, ())⟩
def pl42 : List PE := []
def ct13 : Ct DD := ⟨13, [33, 25], [33, 3, 3], [[true], [false], [false]], false, fun x Φ => ref07_Apply_W x.1 x.2.1 fun y => Φ (y.1, y.2.1, y.2.2, ())⟩
def ct3 : Ct DD := ⟨3, [22], [4], [[false]], true, fun x Φ => Z89 x.1 fun y => Φ (y, ())⟩
def pl3 : List PE := [⟨[4, 1, 0, 1, 1, 1, 1, 1, 1, 1, 1], [1, 2], [4, 1, 2, 0], ⟨[.int, .int, .int, .int, .int, .int, .int, .int, .lst 3, .lst 3, .lst 3, .lst 43, .lst 41, .lst 43, .lst 3], [(0, .kp 8), (3, .kp 18), (5, .own 0), (7, .own 1), (8, .own 2), (9, .kp 43), (10, .kp 44), (11, .v .int)], [(7, 36, [.v .int,.v .int,.v .int]), (6, 36, [.v .int,.v .int,.v .int]), (3, 27, [.v .int,.v (.lst 3),.v (.lst 3),.v (.lst 3),.v (.lst 43)])], [41, 43, 3], []⟩, false⟩, ⟨[4, 1, 0, 1, 1, 1, 1, 1, 1, 1, 1, 1, 1, 4, 0, 1, 5, 4, 1, 0, 1, 1, 1, 1, 1, 1, 1, 1], [], [105, 104, 103, 102, 96, 97, 98, 99, 100, 101, 95, 7, 60, 6, 3, 57, 58, 59], ⟨[.int, .int, .int, .int, .lst 41], [(0, .kp 8), (3, .kp 18), (5, .kp 108), (7, .kp 62), (8, .kp 63), (9, .kp 43), (10, .kp 44), (11, .kp 64), (18, .own 0), (20, .kp 165), (21, .v .int)], [(107, 36, [.v .int,.v .int,.v .int])], [41], []⟩, false⟩, ⟨[1, 1, 4, 0, 1, 5, 4, 1, 0, 1, 1, 1, 1, 1, 1, 1, 1], [], [60, 6, 3, 57, 58, 59], ⟨[.int, .int, .int], [(0, .kp 8), (3, .kp 18), (5, .kp 61), (7, .kp 62), (8, .kp 63), (9, .kp 43), (10, .kp 44), (11, .kp 64)], [(7, 36, [.v .int,.v .int,.v .int])], [], []⟩, true⟩, ⟨[8, 4, 1, 0, 1, 1, 4, 0, 1, 5, 4, 1, 0, 1, 1, 1, 1, 1, 1, 1, 1], [], [], ⟨[.lst 4], [], [], [4], []⟩, false⟩]
theorem eq3 (x : TupD DD ct3.ps) (Φ : TupD DD ct3.rs → Prop) : ct3.W x Φ = topF ⟨Try.prog, tab, [ct4, ct5, ct6, ct7, ct8, ct9, ct10, ct11, ct12, ct13, ct14], pl3, [], gh, [], [([1, 1000177], 3), ([1, 1000183], 3), ([9, 11, 0, 1, 1, 1, 1, 2, 1, 0, 1, 4, 0, 1, 5, 4, 1, 0, 1, 1, 1, 1, 1, 1, 1, 1], 3), ([9, 14, 1, 4, 0, 1, 5, 4, 1, 0, 1, 1, 1, 1, 1, 1, 1, 1, 1, 1, 4, 0, 1, 5, 4, 1, 0, 1, 1, 1, 1, 1, 1, 1, 1], 3)]⟩ 9 ct3.f ct3.ps ct3.rs ct3.own x Φ := by kernel_rfl
theorem eq10 (x : TupD DD ct10.ps) (Φ : TupD DD ct10.rs → Prop) : ct10.W x Φ = topD ⟨Try.prog, tab, [ct7, ct18, ct19, ct33, ct35, ct49, ct50, ct52], pl10, [it53], gh, [], [([18, 0, 1, 4, 0, 1, 1, 5, 4, 1, 0, 1, 1, 12, 0, 1, 1, 1, 1, 1], 0)]⟩ 9 ct10.f ct10.ps ct10.rs ct10.own x Φ := by kernel_rfl
theorem eq9 (x : TupD DD ct9.ps) (Φ : TupD DD ct9.rs → Prop) : ct9.W x Φ = topF ⟨Try.prog, tab, [ct6], pl9, [], gh, [], []⟩ 9 ct9.f ct9.ps ct9.rs ct9.own x Φ := by kernel_rfl
theorem eq44 (x : TupD DD ct44.ps) (Φ : TupD DD ct44.rs → Prop) : ct44.W x Φ = topF ⟨Try.prog, tab, [ct63], pl44, [], gh, [], []⟩ 9 ct44.f ct44.ps ct44.rs ct44.own x Φ := by kernel_rfl
theorem eq28 (x : TupD DD ct28.ps) (Φ : TupD DD ct28.rs → Prop) : ct28.W x Φ = topF ⟨Try.prog, tab, [ct19, ct29], pl28, [], gh, [], []⟩ 9 ct28.f ct28.ps ct28.rs ct28.own x Φ := by kernel_rfl
theorem eq37 (x : TupD DD ct37.ps) (Φ : TupD DD ct37.rs → Prop) : ct37.W x Φ = topF ⟨Try.prog, tab, [ct7, ct18, ct50, ct58], pl37, [], gh, [], []⟩ 9 ct37.f ct37.ps ct37.rs ct37.own x Φ := by kernel_rfl
theorem eq12 (x : TupD DD ct12.ps) (Φ : TupD DD ct12.rs → Prop) : ct12.W x Φ = topF ⟨Try.prog, tab, [ct39], pl12, [], gh, [], []⟩ 9 ct12.f ct12.ps ct12.rs ct12.own x Φ := by kernel_rfl
theorem eq20 (x : TupD DD ct20.ps) (Φ : TupD DD ct20.rs → Prop) : ct20.W x Φ = topF ⟨Try.prog, tab, [ct48], pl20, [], gh, [], []⟩ 9 ct20.f ct20.ps ct20.rs ct20.own x Φ := by kernel_rfl
theorem eq54 (x : TupD DD ct54.ps) (Φ : TupD DD ct54.rs → Prop) : ct54.W x Φ = topF ⟨Try.prog, tab, [], pl54, [], gh, [], []⟩ 9 ct54.f ct54.ps ct54.rs ct54.own x Φ := by kernel_rfl
theorem eq63 (x : TupD DD ct63.ps) (Φ : TupD DD ct63.rs → Prop) : ct63.W x Φ = topF ⟨Try.prog, tab, [], pl63, [], gh, [], []⟩ 9 ct63.f ct63.ps ct63.rs ct63.own x Φ := by kernel_rfl
theorem eq57 (x : TupD DD ct57.ps) (Φ : TupD DD ct57.rs → Prop) : ct57.W x Φ = topF ⟨Try.prog, tab, [ct73], pl57, [], gh, [], []⟩ 9 ct57.f ct57.ps ct57.rs ct57.own x Φ := by kernel_rfl
theorem eq51 (x : TupD DD ct51.ps) (Φ : TupD DD ct51.rs → Prop) : ct51.W x Φ = topF ⟨Try.prog, tab, [], pl51, [], gh, [], []⟩ 9 ct51.f ct51.ps ct51.rs ct51.own x Φ := by kernel_rfl
theorem eq76 (x : TupD DD ct76.ps) (Φ : TupD DD ct76.rs → Prop) : ct76.W x Φ = topF ⟨Try.prog, tab, [ct83], pl76, [], gh, [], []⟩ 9 ct76.f ct76.ps ct76.rs ct76.own x Φ := by kernel_rfl
theorem eq18 (x : TupD DD ct18.ps) (Φ : TupD DD ct18.rs → Prop) : ct18.W x Φ = topF ⟨Try.prog, tab, [], pl18, [], gh, [], []⟩ 9 ct18.f ct18.ps ct18.rs ct18.own x Φ := by kernel_rfl
theorem eq48 (x : TupD DD ct48.ps) (Φ : TupD DD ct48.rs → Prop) : ct48.W x Φ = topF ⟨Try.prog, tab, [], pl48, [], gh, [], []⟩ 9 ct48.f ct48.ps ct48.rs ct48.own x Φ := by kernel_rfl
theorem eq73 (x : TupD DD ct73.ps) (Φ : TupD DD ct73.rs → Prop) : ct73.W x Φ = topF ⟨Try.prog, tab, [], pl73, [], gh, [], []⟩ 9 ct73.f ct73.ps ct73.rs ct73.own x Φ := by kernel_rfl
theorem eq52 (x : TupD DD ct52.ps) (Φ : TupD DD ct52.rs → Prop) : ct52.W x Φ = topF ⟨Try.prog, tab, [], pl52, [], gh, [], []⟩ 9 ct52.f ct52.ps ct52.rs ct52.own x Φ := by kernel_rfl
theorem eq46 (x : TupD DD ct46.ps) (Φ : TupD DD ct46.rs → Prop) : ct46.W x Φ = topF ⟨Try.prog, tab, [ct54, ct66, ct69], pl46, [], gh, [tn70], [([11, 0, 1, 1, 1, 1, 1, 1, 1, 15, 0, 1, 1], 0), ([16, 2, 1, 0, 1, 4, 0, 1, 1, 5, 4, 1, 0, 1, 1, 1, 1, 1, 1, 15, 0, 1, 1], 72002), ([17, 2, 1, 0, 1, 4, 0, 1, 1, 5, 4, 1, 0, 1, 1, 1, 1, 1, 1, 15, 0, 1, 1], 0)]⟩ 9 ct46.f ct46.ps ct46.rs ct46.own x Φ := by kernel_rfl
theorem eq4 (x : TupD DD ct4.ps) (Φ : TupD DD ct4.rs → Prop) : ct4.W x Φ = topF ⟨Try.prog, tab, [ct5, ct8, ct10, ct15, ct16, ct17], pl4, [], gh, [], []⟩ 9 ct4.f ct4.ps ct4.rs ct4.own x Φ := by kernel_rfl
theorem eq35 (x : TupD DD ct35.ps) (Φ : TupD DD ct35.rs → Prop) : ct35.W x Φ = topF ⟨Try.prog, tab, [ct18, ct29], pl35, [it53], gh, [], []⟩ 9 ct35.f ct35.ps ct35.rs ct35.own x Φ := by kernel_rfl
theorem eq58 (x : TupD DD ct58.ps) (Φ : TupD DD ct58.rs → Prop) : ct58.W x Φ = topF ⟨Try.prog, tab, [ct7, ct49], pl58, [], gh, [], []⟩ 9 ct58.f ct58.ps ct58.rs ct58.own x Φ := by kernel_rfl
theorem eq11 (x : TupD DD ct11.ps) (Φ : TupD DD ct11.rs → Prop) : ct11.W x Φ = topF ⟨Try.prog, tab, [ct36, ct37, ct38], pl11, [], gh, [], []⟩ 9 ct11.f ct11.ps ct11.rs ct11.own x Φ := by kernel_rfl
theorem eq60 (x : TupD DD ct60.ps) (Φ : TupD DD ct60.rs → Prop) : ct60.W x Φ = topF ⟨Try.prog, tab, [], pl60, [], gh, [], []⟩ 9 ct60.f ct60.ps ct60.rs ct60.own x Φ := by kernel_rfl
theorem eq7 (x : TupD DD ct7.ps) (Φ : TupD DD ct7.rs → Prop) : ct7.W x Φ = topF ⟨Try.prog, tab, [ct20, ct22], pl7, [], gh, [], []⟩ 9 ct7.f ct7.ps ct7.rs ct7.own x Φ := by kernel_rfl
theorem eq14 (x : TupD DD ct14.ps) (Φ : TupD DD ct14.rs → Prop) : ct14.W x Φ = topF ⟨Try.prog, tab, [ct43], pl14, [], gh, [], []⟩ 9 ct14.f ct14.ps ct14.rs ct14.own x Φ := by kernel_rfl
theorem eq15 (x : TupD DD ct15.ps) (Φ : TupD DD ct15.rs → Prop) : ct15.W x Φ = topF ⟨Try.prog, tab, [], pl15, [], gh, [], []⟩ 9 ct15.f ct15.ps ct15.rs ct15.own x Φ := by kernel_rfl
theorem eq43 (x : TupD DD ct43.ps) (Φ : TupD DD ct43.rs → Prop) : ct43.W x Φ = topF ⟨Try.prog, tab, [], pl43, [], gh, [], []⟩ 9 ct43.f ct43.ps ct43.rs ct43.own x Φ := by kernel_rfl
theorem eq71 (x : TupD DD ct71.ps) (Φ : TupD DD ct71.rs → Prop) : ct71.W x Φ = topF ⟨Try.prog, tab, [ct80, ct81], pl71, [], gh, [], []⟩ 9 ct71.f ct71.ps ct71.rs ct71.own x Φ := by kernel_rfl
theorem eq49 (x : TupD DD ct49.ps) (Φ : TupD DD ct49.rs → Prop) : ct49.W x Φ = topF ⟨Try.prog, tab, [ct36, ct60], pl49, [], gh, [], []⟩ 9 ct49.f ct49.ps ct49.rs ct49.own x Φ := by kernel_rfl
theorem eq29 (x : TupD DD ct29.ps) (Φ : TupD DD ct29.rs → Prop) : ct29.W x Φ = topF ⟨Try.prog, tab, [ct51], pl29, [], gh, [], []⟩ 9 ct29.f ct29.ps ct29.rs ct29.own x Φ := by kernel_rfl
theorem eq22 (x : TupD DD ct22.ps) (Φ : TupD DD ct22.rs → Prop) : ct22.W x Φ = topF ⟨Try.prog, tab, [], pl22, [], gh, [], []⟩ 9 ct22.f ct22.ps ct22.rs ct22.own x Φ := by kernel_rfl
theorem eq68 (x : TupD DD ct68.ps) (Φ : TupD DD ct68.rs → Prop) : ct68.W x Φ = topF ⟨Try.prog, tab, [ct18], pl68, [], gh, [], []⟩ 9 ct68.f ct68.ps ct68.rs ct68.own x Φ := by kernel_rfl
theorem eq6 (x : TupD DD ct6.ps) (Φ : TupD DD ct6.rs → Prop) : ct6.W x Φ = topF ⟨Try.prog, tab, [], pl6, [], gh, [], []⟩ 9 ct6.f ct6.ps ct6.rs ct6.own x Φ := by kernel_rfl
theorem eq33 (x : TupD DD ct33.ps) (Φ : TupD DD ct33.rs → Prop) : ct33.W x Φ = topF ⟨Try.prog, tab, [ct54, ct69], pl33, [], gh, [tn70], [([11, 0, 1, 1, 1, 1, 1, 1, 1, 12, 0, 1, 1], 0), ([16, 2, 1, 0, 1, 4, 0, 1, 1, 5, 4, 1, 0, 1, 1, 1, 1, 1, 1, 12, 0, 1, 1], 72002), ([17, 2, 1, 0, 1, 4, 0, 1, 1, 5, 4, 1, 0, 1, 1, 1, 1, 1, 1, 12, 0, 1, 1], 0)]⟩ 9 ct33.f ct33.ps ct33.rs ct33.own x Φ := by kernel_rfl
theorem eq8 (x : TupD DD ct8.ps) (Φ : TupD DD ct8.rs → Prop) : ct8.W x Φ = topD ⟨Try.prog, tab, [ct7, ct18, ct28, ct29, ct49, ct50], pl8, [], gh, [], []⟩ 9 ct8.f ct8.ps ct8.rs ct8.own x Φ := by kernel_rfl
theorem eq17 (x : TupD DD ct17.ps) (Φ : TupD DD ct17.rs → Prop) : ct17.W x Φ = topF ⟨Try.prog, tab, [ct19, ct37, ct45, ct46], pl17, [], gh, [], []⟩ 9 ct17.f ct17.ps ct17.rs ct17.own x Φ := by kernel_rfl
theorem eq66 (x : TupD DD ct66.ps) (Φ : TupD DD ct66.rs → Prop) : ct66.W x Φ = topF ⟨Try.prog, tab, [], pl66, [], gh, [], [([19, 2, 1, 1, 0, 1, 1, 11, 0, 1, 1, 1], 0)]⟩ 9 ct66.f ct66.ps ct66.rs ct66.own x Φ := by kernel_rfl
theorem eq64 (x : TupD DD ct64.ps) (Φ : TupD DD ct64.rs → Prop) : ct64.W x Φ = topF ⟨Try.prog, tab, [ct76], pl64, [], gh, [], []⟩ 9 ct64.f ct64.ps ct64.rs ct64.own x Φ := by kernel_rfl
theorem eq5 (x : TupD DD ct5.ps) (Φ : TupD DD ct5.rs → Prop) : ct5.W x Φ = topF ⟨Try.prog, tab, [ct7, ct18, ct19], pl5, [], gh, [], []⟩ 9 ct5.f ct5.ps ct5.rs ct5.own x Φ := by kernel_rfl
theorem eqi53 (x : TupD DD it53.cs) (l : List (TupD DD it53.ts)) : it53.W x l = iterF ⟨Try.prog, tab, [], pl53, [], gh, [], []⟩ it53.f it53.cs it53.ts x l := by kernel_rfl
theorem eq50 (x : TupD DD ct50.ps) (Φ : TupD DD ct50.rs → Prop) : ct50.W x Φ = topF ⟨Try.prog, tab, [ct18, ct68], pl50, [], gh, [], []⟩ 9 ct50.f ct50.ps ct50.rs ct50.own x Φ := by kernel_rfl
theorem eq83 (x : TupD DD ct83.ps) (Φ : TupD DD ct83.rs → Prop) : ct83.W x Φ = topF ⟨Try.prog, tab, [], pl83, [], gh, [], []⟩ 9 ct83.f ct83.ps ct83.rs ct83.own x Φ := by kernel_rfl
theorem eq39 (x : TupD DD ct39.ps) (Φ : TupD DD ct39.rs → Prop) : ct39.W x Φ = topF ⟨Try.prog, tab, [], pl39, [], gh, [], []⟩ 9 ct39.f ct39.ps ct39.rs ct39.own x Φ := by kernel_rfl
theorem eq81 (x : TupD DD ct81.ps) (Φ : TupD DD ct81.rs → Prop) : ct81.W x Φ = topF ⟨Try.prog, tab, [ct94], pl81, [], gh, [], []⟩ 9 ct81.f ct81.ps ct81.rs ct81.own x Φ := by kernel_rfl
theorem eq80 (x : TupD DD ct80.ps) (Φ : TupD DD ct80.rs → Prop) : ct80.W x Φ = topF ⟨Try.prog, tab, [], pl80, [], gh, [], []⟩ 9 ct80.f ct80.ps ct80.rs ct80.own x Φ := by kernel_rfl
theorem eq19 (x : TupD DD ct19.ps) (Φ : TupD DD ct19.rs → Prop) : ct19.W x Φ = topF ⟨Try.prog, tab, [], pl19, [], gh, [], []⟩ 9 ct19.f ct19.ps ct19.rs ct19.own x Φ := by kernel_rfl
theorem eq69 (x : TupD DD ct69.ps) (Φ : TupD DD ct69.rs → Prop) : ct69.W x Φ = topF ⟨Try.prog, tab, [], pl69, [], gh, [], []⟩ 9 ct69.f ct69.ps ct69.rs ct69.own x Φ := by kernel_rfl
theorem eq36 (x : TupD DD ct36.ps) (Φ : TupD DD ct36.rs → Prop) : ct36.W x Φ = topF ⟨Try.prog, tab, [ct20, ct57], pl36, [], gh, [], []⟩ 9 ct36.f ct36.ps ct36.rs ct36.own x Φ := by kernel_rfl
theorem eq16 (x : TupD DD ct16.ps) (Φ : TupD DD ct16.rs → Prop) : ct16.W x Φ = topF ⟨Try.prog, tab, [ct44], pl16, [], gh, [], []⟩ 9 ct16.f ct16.ps ct16.rs ct16.own x Φ := by kernel_rfl
theorem eq45 (x : TupD DD ct45.ps) (Φ : TupD DD ct45.rs → Prop) : ct45.W x Φ = topF ⟨Try.prog, tab, [ct64], pl45, [], gh, [], []⟩ 9 ct45.f ct45.ps ct45.rs ct45.own x Φ := by kernel_rfl
theorem eq94 (x : TupD DD ct94.ps) (Φ : TupD DD ct94.rs → Prop) : ct94.W x Φ = topF ⟨Try.prog, tab, [], pl94, [], gh, [], []⟩ 9 ct94.f ct94.ps ct94.rs ct94.own x Φ := by kernel_rfl
def cmpI (a b : Int) : Int := if a < b then -1 else if b < a then 1 else 0
def cmpP (a b : coalesce_place) : Int := if cmpI a.volume b.volume ≠ 0 then cmpI a.volume b.volume else cmpI a.sector b.sector
theorem cmpI_W (a b : Int) {Φ : Int → Prop} (h : Φ (cmpI a b)) : Z20 a b Φ := by
  unfold cmpI at h
  unfold Z20 Z19
  refine ⟨fun e => absurd e (by simp), fun _ => ⟨fun e => absurd e (by simp), fun _ => ⟨fun e => ?_, fun e => ⟨fun e2 => ?_, fun e2 => ?_⟩⟩⟩⟩
  · rw [if_pos e] at h; exact h
  · rw [if_neg e, if_pos e2] at h; exact h
  · rw [if_neg e, if_neg e2] at h; exact h
theorem before_ok (x y : coalesce_place) : Z21 x y fun v => v = cmpP x y := by
  unfold Z21
  refine ⟨(cmpI x.volume y.volume, ()), cmpI_W _ _ rfl, (cmpI x.sector y.sector, ()), cmpI_W _ _ rfl, (cmpP x y, ()), ?_, rfl⟩
  refine ⟨3, ⟨fun _ => ⟨⟨by decide, by simp⟩, fun h => ?_, fun h => ⟨by unfold inI; decide, ⟨fun _ => ⟨⟨by decide, by simp⟩, fun h2 => ?_, fun h2 => ⟨by unfold inI; decide, ⟨fun h3 => absurd h3 (by simp), fun _ => ?_⟩⟩⟩, fun h2 => absurd (show (0 + 1 : Int) < _ by simp) h2⟩⟩⟩, fun h => absurd (show (0 : Int) < _ by simp) h⟩⟩
  · have h : cmpI x.volume y.volume ≠ 0 := h
    show (cmpI x.volume y.volume, ()) = (cmpP x y, ())
    unfold cmpP
    rw [if_pos h]
  · have h : ¬ (cmpI x.volume y.volume ≠ 0) := h
    show (cmpI x.sector y.sector, ()) = (cmpP x y, ())
    unfold cmpP
    rw [if_neg h]
  · have h : ¬ (cmpI x.volume y.volume ≠ 0) := h
    have h2 : ¬ (cmpI x.sector y.sector ≠ 0) := h2
    show ((0 : Int), ()) = (cmpP x y, ())
    unfold cmpP
    rw [if_neg h, Decidable.not_not.1 h2]
theorem cmpI_lt {a b : Int} : cmpI a b < 0 ↔ a < b := by unfold cmpI; split <;> (try split) <;> omega
theorem cmpI_eq {a b : Int} : cmpI a b = 0 ↔ a = b := by unfold cmpI; split <;> (try split) <;> omega
theorem cmpP_lt {a b : coalesce_place} : cmpP a b < 0 ↔ a.volume < b.volume ∨ a.volume = b.volume ∧ a.sector < b.sector := by
  have h1 := cmpI_lt (a := a.volume) (b := b.volume)
  have h2 := cmpI_eq (a := a.volume) (b := b.volume)
  have h3 := cmpI_lt (a := a.sector) (b := b.sector)
  unfold cmpP
  split <;> omega
theorem ltP (a b : coalesce_place) : ltOf cmpP a b = decide (a.volume < b.volume ∨ a.volume = b.volume ∧ a.sector < b.sector) := by
  unfold ltOf
  exact decide_eq_decide.2 cmpP_lt
theorem swoP : Sort.SWO (ltOf cmpP) where
  irrefl x := by rw [ltP]; simp
  trans x y z h1 h2 := by rw [ltP] at *; simp only [decide_eq_true_eq] at *; omega
  ntrans x y z h1 h2 := by rw [ltP] at *; simp only [decide_eq_false_iff_not] at *; omega
theorem place_ext {x y : coalesce_place} (h1 : x.volume = y.volume) (h2 : x.sector = y.sector) : x = y := by
  cases x; cases y
  simp only at h1 h2
  subst h1 h2; rfl
theorem cmpP_total : ∀ x y : coalesce_place, ltOf cmpP x y = false → ltOf cmpP y x = false → x = y := fun x y h1 h2 => by
  rw [ltP] at *
  simp only [decide_eq_false_iff_not] at *
  exact place_ext (by omega) (by omega)
theorem ple_total (a b : coalesce_place) : pleB a b = true ∨ pleB b a = true := by unfold pleB; simp only [decide_eq_true_eq]; omega
theorem ple_trans (a b c : coalesce_place) (h : pleB a b = true) (k : pleB b c = true) : pleB a c = true := by unfold pleB at *; simp only [decide_eq_true_eq] at *; omega
theorem ple_anti (a b : coalesce_place) (h : pleB a b = true) (k : pleB b a = true) : a = b := by unfold pleB at *; simp only [decide_eq_true_eq] at *; exact place_ext (by omega) (by omega)
theorem mergeP (l : List coalesce_place) : (l.mergeSort fun x y => !(ltOf cmpP) y x) = sortG pleB l := by
  have e : (fun x y : coalesce_place => !(ltOf cmpP) y x) = pleB := by
    funext x y
    rw [ltP]
    unfold pleB
    by_cases h : y.volume < x.volume ∨ y.volume = x.volume ∧ y.sector < x.sector
    · rw [decide_eq_true h, decide_eq_false (by omega)]; rfl
    · rw [decide_eq_false h, decide_eq_true (by omega)]; rfl
  rw [e]
  exact sortG_of ple_total ple_trans ple_anti (List.mergeSort_perm l _) (List.pairwise_mergeSort (fun a b c h k => ple_trans a b c h k) (fun a b => by have := ple_total a b; simpa using this) l)
theorem mo : Try.prog.follows .mixedOrders = true := by kernel_rfl
theorem ok48 : ct48.Ok Try.prog tab gh := Ct.lift (E := ⟨Try.prog, tab, [], pl48, [], gh, [], []⟩) ⟨tabOk, trivial, mo, trivial, ghUp, trivial⟩ 9 ct48 fun x Φ => by rw [eq48]; exact id
theorem okT48 : ct48.Ok Try.prog tab ghT := Ct.lift (E := ⟨Try.prog, tab, [], pl48, [], ghT, [], []⟩) ⟨tabOk, trivial, mo, trivial, fun _ _ _ _ => trivial, trivial⟩ 9 ct48 fun x Φ => by
  have h : ct48.W x Φ = topF ⟨Try.prog, tab, [], pl48, [], ghT, [], []⟩ 9 ct48.f ct48.ps ct48.rs ct48.own x Φ := by kernel_rfl
  rw [h]; exact id
theorem ok20 : ct20.Ok Try.prog tab gh := Ct.lift (E := ⟨Try.prog, tab, [ct48], pl20, [], gh, [], []⟩) ⟨tabOk, ⟨ok48, trivial⟩, mo, trivial, ghUp, trivial⟩ 9 ct20 fun x Φ => by rw [eq20]; exact id
theorem okT20 : ct20.Ok Try.prog tab ghT := Ct.lift (E := ⟨Try.prog, tab, [ct48], pl20, [], ghT, [], []⟩) ⟨tabOk, ⟨okT48, trivial⟩, mo, trivial, fun _ _ _ _ => trivial, trivial⟩ 9 ct20 fun x Φ => by
  have h : ct20.W x Φ = topF ⟨Try.prog, tab, [ct48], pl20, [], ghT, [], []⟩ 9 ct20.f ct20.ps ct20.rs ct20.own x Φ := by kernel_rfl
  rw [h]; exact id
theorem ok22 : ct22.Ok Try.prog tab gh := Ct.lift (E := ⟨Try.prog, tab, [], pl22, [], gh, [], []⟩) ⟨tabOk, trivial, mo, trivial, ghUp, trivial⟩ 9 ct22 fun x Φ => by rw [eq22]; exact id
theorem ok7 : ct7.Ok Try.prog tab gh := Ct.lift (E := ⟨Try.prog, tab, [ct20, ct22], pl7, [], gh, [], []⟩) ⟨tabOk, ⟨ok20, ok22, trivial⟩, mo, trivial, ghUp, trivial⟩ 9 ct7 fun x Φ => by rw [eq7]; exact id
theorem ok18 : ct18.Ok Try.prog tab gh := Ct.lift (E := ⟨Try.prog, tab, [], pl18, [], gh, [], []⟩) ⟨tabOk, trivial, mo, trivial, ghUp, trivial⟩ 9 ct18 fun x Φ => by rw [eq18]; exact id
theorem ok19 : ct19.Ok Try.prog tab gh := Ct.lift (E := ⟨Try.prog, tab, [], pl19, [], gh, [], []⟩) ⟨tabOk, trivial, mo, trivial, ghUp, trivial⟩ 9 ct19 fun x Φ => by rw [eq19]; exact id
theorem ok5 : ct5.Ok Try.prog tab gh := Ct.lift (E := ⟨Try.prog, tab, [ct7, ct18, ct19], pl5, [], gh, [], []⟩) ⟨tabOk, ⟨ok7, ok18, ok19, trivial⟩, mo, trivial, ghUp, trivial⟩ 9 ct5 fun x Φ => by rw [eq5]; exact id
theorem ok15 : ct15.Ok Try.prog tab gh := Ct.lift (E := ⟨Try.prog, tab, [], pl15, [], gh, [], []⟩) ⟨tabOk, trivial, mo, trivial, ghUp, trivial⟩ 9 ct15 fun x Φ => by rw [eq15]; exact id
theorem ok68 : ct68.Ok Try.prog tab gh := Ct.lift (E := ⟨Try.prog, tab, [ct18], pl68, [], gh, [], []⟩) ⟨tabOk, ⟨ok18, trivial⟩, mo, trivial, ghUp, trivial⟩ 9 ct68 fun x Φ => by rw [eq68]; exact id
theorem ok50 : ct50.Ok Try.prog tab gh := Ct.lift (E := ⟨Try.prog, tab, [ct18, ct68], pl50, [], gh, [], []⟩) ⟨tabOk, ⟨ok18, ok68, trivial⟩, mo, trivial, ghUp, trivial⟩ 9 ct50 fun x Φ => by rw [eq50]; exact id
theorem ok73 : ct73.Ok Try.prog tab gh := Ct.lift (E := ⟨Try.prog, tab, [], pl73, [], gh, [], []⟩) ⟨tabOk, trivial, mo, trivial, ghUp, trivial⟩ 9 ct73 fun x Φ => by rw [eq73]; exact id
theorem okT73 : ct73.Ok Try.prog tab ghT := Ct.lift (E := ⟨Try.prog, tab, [], pl73, [], ghT, [], []⟩) ⟨tabOk, trivial, mo, trivial, fun _ _ _ _ => trivial, trivial⟩ 9 ct73 fun x Φ => by
  have h : ct73.W x Φ = topF ⟨Try.prog, tab, [], pl73, [], ghT, [], []⟩ 9 ct73.f ct73.ps ct73.rs ct73.own x Φ := by kernel_rfl
  rw [h]; exact id
theorem ok57 : ct57.Ok Try.prog tab gh := Ct.lift (E := ⟨Try.prog, tab, [ct73], pl57, [], gh, [], []⟩) ⟨tabOk, ⟨ok73, trivial⟩, mo, trivial, ghUp, trivial⟩ 9 ct57 fun x Φ => by rw [eq57]; exact id
theorem okT57 : ct57.Ok Try.prog tab ghT := Ct.lift (E := ⟨Try.prog, tab, [ct73], pl57, [], ghT, [], []⟩) ⟨tabOk, ⟨okT73, trivial⟩, mo, trivial, fun _ _ _ _ => trivial, trivial⟩ 9 ct57 fun x Φ => by
  have h : ct57.W x Φ = topF ⟨Try.prog, tab, [ct73], pl57, [], ghT, [], []⟩ 9 ct57.f ct57.ps ct57.rs ct57.own x Φ := by kernel_rfl
  rw [h]; exact id
theorem ok36 : ct36.Ok Try.prog tab gh := Ct.lift (E := ⟨Try.prog, tab, [ct20, ct57], pl36, [], gh, [], []⟩) ⟨tabOk, ⟨ok20, ok57, trivial⟩, mo, trivial, ghUp, trivial⟩ 9 ct36 fun x Φ => by rw [eq36]; exact id
theorem okT36 : ct36.Ok Try.prog tab ghT := Ct.lift (E := ⟨Try.prog, tab, [ct20, ct57], pl36, [], ghT, [], []⟩) ⟨tabOk, ⟨okT20, okT57, trivial⟩, mo, trivial, fun _ _ _ _ => trivial, trivial⟩ 9 ct36 fun x Φ => by
  have h : ct36.W x Φ = topF ⟨Try.prog, tab, [ct20, ct57], pl36, [], ghT, [], []⟩ 9 ct36.f ct36.ps ct36.rs ct36.own x Φ := by kernel_rfl
  rw [h]; exact id
theorem ok60 : ct60.Ok Try.prog tab gh := Ct.lift (E := ⟨Try.prog, tab, [], pl60, [], gh, [], []⟩) ⟨tabOk, trivial, mo, trivial, ghUp, trivial⟩ 9 ct60 fun x Φ => by rw [eq60]; exact id
theorem okT60 : ct60.Ok Try.prog tab ghT := Ct.lift (E := ⟨Try.prog, tab, [], pl60, [], ghT, [], []⟩) ⟨tabOk, trivial, mo, trivial, fun _ _ _ _ => trivial, trivial⟩ 9 ct60 fun x Φ => by
  have h : ct60.W x Φ = topF ⟨Try.prog, tab, [], pl60, [], ghT, [], []⟩ 9 ct60.f ct60.ps ct60.rs ct60.own x Φ := by kernel_rfl
  rw [h]; exact id
theorem ok49 : ct49.Ok Try.prog tab gh := Ct.lift (E := ⟨Try.prog, tab, [ct36, ct60], pl49, [], gh, [], []⟩) ⟨tabOk, ⟨ok36, ok60, trivial⟩, mo, trivial, ghUp, trivial⟩ 9 ct49 fun x Φ => by rw [eq49]; exact id
theorem ok51 : ct51.Ok Try.prog tab gh := Ct.lift (E := ⟨Try.prog, tab, [], pl51, [], gh, [], []⟩) ⟨tabOk, trivial, mo, trivial, ghUp, trivial⟩ 9 ct51 fun x Φ => by rw [eq51]; exact id
theorem okT51 : ct51.Ok Try.prog tab ghT := Ct.lift (E := ⟨Try.prog, tab, [], pl51, [], ghT, [], []⟩) ⟨tabOk, trivial, mo, trivial, fun _ _ _ _ => trivial, trivial⟩ 9 ct51 fun x Φ => by
  have h : ct51.W x Φ = topF ⟨Try.prog, tab, [], pl51, [], ghT, [], []⟩ 9 ct51.f ct51.ps ct51.rs ct51.own x Φ := by kernel_rfl
  rw [h]; exact id
theorem ok29 : ct29.Ok Try.prog tab gh := Ct.lift (E := ⟨Try.prog, tab, [ct51], pl29, [], gh, [], []⟩) ⟨tabOk, ⟨ok51, trivial⟩, mo, trivial, ghUp, trivial⟩ 9 ct29 fun x Φ => by rw [eq29]; exact id
theorem ok28 : ct28.Ok Try.prog tab gh := Ct.lift (E := ⟨Try.prog, tab, [ct19, ct29], pl28, [], gh, [], []⟩) ⟨tabOk, ⟨ok19, ok29, trivial⟩, mo, trivial, ghUp, trivial⟩ 9 ct28 fun x Φ => by rw [eq28]; exact id
theorem ok8 : ct8.Ok Try.prog tab gh := Ct.liftD (E := ⟨Try.prog, tab, [ct7, ct18, ct28, ct29, ct49, ct50], pl8, [], gh, [], []⟩) ⟨tabOk, ⟨ok7, ok18, ok28, ok29, ok49, ok50, trivial⟩, mo, trivial, ghUp, trivial⟩ 9 ct8 fun x Φ => by rw [eq8]; exact id
theorem ok52 : ct52.Ok Try.prog tab gh := Ct.lift (E := ⟨Try.prog, tab, [], pl52, [], gh, [], []⟩) ⟨tabOk, trivial, mo, trivial, ghUp, trivial⟩ 9 ct52 fun x Φ => by rw [eq52]; exact id
theorem itok53 : it53.Ok Try.prog gh := It.lift (E := ⟨Try.prog, tab, [], pl53, [], gh, [], []⟩) ⟨tabOk, trivial, mo, trivial, ghUp, trivial⟩ it53 fun x l => by rw [eqi53]; exact id
theorem ok54 : ct54.Ok Try.prog tab gh := Ct.lift (E := ⟨Try.prog, tab, [], pl54, [], gh, [], []⟩) ⟨tabOk, trivial, mo, trivial, ghUp, trivial⟩ 9 ct54 fun x Φ => by rw [eq54]; exact id
theorem ok69 : ct69.Ok Try.prog tab gh := Ct.lift (E := ⟨Try.prog, tab, [], pl69, [], gh, [], []⟩) ⟨tabOk, trivial, mo, trivial, ghUp, trivial⟩ 9 ct69 fun x Φ => by rw [eq69]; exact id
theorem ok94 : ct94.Ok Try.prog tab gh := Ct.lift (E := ⟨Try.prog, tab, [], pl94, [], gh, [], []⟩) ⟨tabOk, trivial, mo, trivial, ghUp, trivial⟩ 9 ct94 fun x Φ => by rw [eq94]; exact id
theorem ok81 : ct81.Ok Try.prog tab gh := Ct.lift (E := ⟨Try.prog, tab, [ct94], pl81, [], gh, [], []⟩) ⟨tabOk, ⟨ok94, trivial⟩, mo, trivial, ghUp, trivial⟩ 9 ct81 fun x Φ => by rw [eq81]; exact id
theorem ok80 : ct80.Ok Try.prog tab gh := Ct.lift (E := ⟨Try.prog, tab, [], pl80, [], gh, [], []⟩) ⟨tabOk, trivial, mo, trivial, ghUp, trivial⟩ 9 ct80 fun x Φ => by rw [eq80]; exact id
theorem ok71 : ct71.Ok Try.prog tab gh := Ct.lift (E := ⟨Try.prog, tab, [ct80, ct81], pl71, [], gh, [], []⟩) ⟨tabOk, ⟨ok80, ok81, trivial⟩, mo, trivial, ghUp, trivial⟩ 9 ct71 fun x Φ => by rw [eq71]; exact id
def Try.layP_ren : Go.Shelf.Ren := ⟨fun | 6 => 70 | 15 => 79 | 14 => 78 | 28 => 92 | 29 => 93 | 20 => 84 | 21 => 85 | 22 => 86 | 23 => 87 | 24 => 88 | 25 => 89 | 26 => 90 | 27 => 91 | 46 => 95 | 47 => 96 | 48 => 97 | 49 => 98 | 50 => 99 | 57 => 100 | n => n, fun | 22 => 121 | 24 => 119 | 25 => 123 | 3 => 3 | 39 => 128 | 0 => 0 | 53 => 136 | 55 => 139 | 4 => 4 | 46 => 144 | 45 => 143 | 50 => 148 | 5 => 5 | 9 => 9 | 66 => 152 | 70 => 156 | 76 => 158 | 77 => 159 | n => n, fun | n => n⟩
theorem Try.layP : Go.Proofs.SlLaysF0.n6 Try.prog Try.layP_ren := {
  mixed := by kernel_rfl
  f6 := ⟨Try.f70.name, by decide, Try.func70.trans (congrArg some (by kernel_rfl))⟩
  f14 := ⟨Try.f78.name, by decide, Try.func78.trans (congrArg some (by kernel_rfl))⟩
  f15 := Try.func79.trans (congrArg some (by kernel_rfl))
  f20 := ⟨Try.f84.name, by decide, Try.func84.trans (congrArg some (by kernel_rfl))⟩
  f21 := ⟨Try.f85.name, by decide, Try.func85.trans (congrArg some (by kernel_rfl))⟩
  f22 := ⟨Try.f86.name, by decide, Try.func86.trans (congrArg some (by kernel_rfl))⟩
  f23 := ⟨Try.f87.name, by decide, Try.func87.trans (congrArg some (by kernel_rfl))⟩
  f24 := ⟨Try.f88.name, by decide, Try.func88.trans (congrArg some (by kernel_rfl))⟩
  f25 := ⟨Try.f89.name, by decide, Try.func89.trans (congrArg some (by kernel_rfl))⟩
  f26 := ⟨Try.f90.name, by decide, Try.func90.trans (congrArg some (by kernel_rfl))⟩
  f27 := ⟨Try.f91.name, by decide, Try.func91.trans (congrArg some (by kernel_rfl))⟩
  f28 := Try.func92.trans (congrArg some (by kernel_rfl))
  f29 := Try.func93.trans (congrArg some (by kernel_rfl))
  f46 := ⟨Try.f95.name, by decide, Try.func95.trans (congrArg some (by kernel_rfl))⟩
  f47 := Try.func96.trans (congrArg some (by kernel_rfl))
  f48 := Try.func97.trans (congrArg some (by kernel_rfl))
  f49 := ⟨Try.f98.name, by decide, Try.func98.trans (congrArg some (by kernel_rfl))⟩
  f50 := ⟨Try.f99.name, by decide, Try.func99.trans (congrArg some (by kernel_rfl))⟩
  f57 := ⟨Try.f100.name, by decide, Try.func100.trans (congrArg some (by kernel_rfl))⟩
  t0 := Try.underlying0
  a0 := Try.isAgg0
  z0 := Try.sizeOf0
  v0 := Try.zeroValue0
  t3 := Try.underlying3
  a3 := Try.isAgg3
  z3 := Try.sizeOf3
  v3 := Try.zeroValue3
  t4 := Try.underlying4
  a4 := Try.isAgg4
  z4 := Try.sizeOf4
  v4 := Try.zeroValue4
  t5 := Try.underlying5
  a5 := Try.isAgg5
  z5 := Try.sizeOf5
  v5 := Try.zeroValue5
  t9 := Try.underlying9
  a9 := Try.isAgg9
  z9 := Try.sizeOf9
  v9 := Try.zeroValue9
  t22 := Try.underlying121
  a22 := Try.isAgg121
  z22 := Try.sizeOf121
  v22 := Try.zeroValue121
  t25 := Try.underlying123
  a25 := Try.isAgg123
  z25 := Try.sizeOf123
  v25 := Try.zeroValue123
  t39 := Try.underlying128
  a39 := Try.isAgg128
  z39 := Try.sizeOf128
  v39 := Try.zeroValue128
  t45 := Try.underlying143
  a45 := Try.isAgg143
  z45 := Try.sizeOf143
  v45 := Try.zeroValue143
  t46 := Try.underlying144
  a46 := Try.isAgg144
  z46 := Try.sizeOf144
  v46 := Try.zeroValue144
  t50 := Try.underlying148
  a50 := Try.isAgg148
  z50 := Try.sizeOf148
  v50 := Try.zeroValue148
  t53 := Try.underlying136
  a53 := Try.isAgg136
  z53 := Try.sizeOf136
  v53 := Try.zeroValue136
  t55 := Try.underlying139
  a55 := Try.isAgg139
  z55 := Try.sizeOf139
  v55 := Try.zeroValue139
  t66 := Try.underlying152
  a66 := Try.isAgg152
  z66 := Try.sizeOf152
  v66 := Try.zeroValue152
  t70 := Try.underlying156
  a70 := Try.isAgg156
  z70 := Try.sizeOf156
  v70 := Try.zeroValue156
  t76 := Try.underlying158
  a76 := Try.isAgg158
  z76 := Try.sizeOf158
  v76 := Try.zeroValue158
  t77 := Try.underlying159
  a77 := Try.isAgg159
  z77 := Try.sizeOf159
  v77 := Try.zeroValue159 }
theorem pk119 (v : Value) (cs : List Value) : PkR Try.prog 119 v cs = (v = .agg cs.toArray) := by kernel_rfl
def encP (x : coalesce_place) : List Value := [.int .i64 x.volume, .int .i64 x.sector]
theorem place_calls {H : Hp} (hG : gh H) (x y : coalesce_place) (W : World) (hag : ∀ b o, H b = some o → W.heap[b]? = some o) : Calls Try.prog 71 #[.agg (encP x).toArray, .agg (encP y).toArray] W fun e w' => e = .returned (.int .i64 (cmpP x y)) ∧ ∃ q os, w' = Sort.grow (W.drewN q) os := by
  refine (ok71 (x, y, ()) (fun v => v.1 = cmpP x y) (before_ok x y) H [.agg (encP x).toArray, .agg (encP y).toArray] hG ⟨_, encP x, _, rfl, by rw [pk119], rfl, _, encP y, _, rfl, by rw [pk119], rfl, rfl⟩ W hag).mono fun e w' ⟨v, H', L', h1, hM, y', hy, hr⟩ => ?_
  obtain ⟨ρ, _, _, _, _, h2, _⟩ := hr 0 (fun _ => none) (fun _ _ => rfl) _ _ _ (show resE Try.prog tab ct71.rs ct71.own y' 0 = some (.i .i64 y'.1, [], 0) by kernel_rfl)
  have h2 : v = .int .i64 y'.1 := h2
  exact ⟨by rw [h1, h2, hy], hM.below.grow⟩
set_option maxRecDepth 100000 in
theorem tnh70 {xs : List coalesce_place} {Φ : List coalesce_place → Prop} (hlen : xs.length ≤ 1099511627776) (hW : Φ (sortG pleB xs)) {H : Hp} {w : World} {base : Nat} {v : Value} {n : Nat} {s : List Value} (hG : gh H) (hag : ∀ b o, H b = some o → w.heap[b]? = some o) (hap : ∀ b, v.ownBlock = some b → H b = none) (ho : w.ownsRow base 119 2 v n s) (hn : n = xs.length) (hd : DtL (α := coalesce_place) H s xs) : Calls Try.prog 70 (v :: fnVs [71]).toArray w fun e w' => e = .returned (.tuple #[]) ∧ ∃ (ys : List coalesce_place) (s' : List Value), Φ ys ∧ DtL (α := coalesce_place) H s' ys ∧ ys.length = xs.length ∧ w.grownBy w' v.ownBlock ∧ w.drawn ≤ w'.drawn ∧ w'.ownsRow base 119 2 v n s' := by
  have hs := hd.enc (enc := encP) fun _ _ _ h => h
  have hk : ∀ x : coalesce_place, (encP x).length = 2 := fun _ => rfl
  have none : ∀ p cap, v = .slice p 0 cap → n = 0 → Calls Try.prog 70 (v :: fnVs [71]).toArray w fun e w' => e = .returned (.tuple #[]) ∧ ∃ (ys : List coalesce_place) (s' : List Value), Φ ys ∧ DtL (α := coalesce_place) H s' ys ∧ ys.length = xs.length ∧ w.grownBy w' v.ownBlock ∧ w.drawn ≤ w'.drawn ∧ w'.ownsRow base 119 2 v n s' := by
    intro p cap hv h0
    have hx : xs = [] := List.eq_nil_of_length_eq_zero (hn.symm.trans h0)
    have hc := AnyF.slices_SortFunc_none (P := Try.prog) (ρ := Try.layP_ren) { Try.layP with } p cap (.func (.func 71) #[] #[]) w
    change Calls Try.prog 70 _ _ _ at hc
    rw [hv]
    refine hc.mono fun e w' ⟨h2, h3⟩ => ⟨h2, xs, s, ?_, hd, rfl, ?_, ?_, ?_⟩
    · rw [hx] at hW ⊢; exact hW
    · rw [h3]; exact ⟨rfl, rfl, rfl, Nat.le_refl _, fun _ _ _ => rfl⟩
    · rw [h3]; exact Nat.le_refl _
    · rw [h3, ← hv]; exact ho
  obtain ⟨_, ⟨hv, h0⟩ | ⟨b, cap, cur, hv, _⟩⟩ := id ho
  · exact none _ _ hv h0
  · subst hv
    haveI : Inhabited coalesce_place := ⟨⟨0, 0⟩⟩
    have hfl : (Sort.flatK encP 2 xs.toArray).toList = s := by rw [flatK_list hk, hs]
    obtain ⟨hH, hb⟩ := owns_holds (enc := id) (d := Sort.flatK encP 2 xs.toArray) ho (by rw [List.map_id_fun, hfl]; rfl)
    have hgH : H b = Option.none := hap b rfl
    have eg : ∀ args w, (callFunc 71 args).run Try.prog w = .ok (.enter 71 args) w := enters_of Try.func71 (by kernel_rfl) rfl
    have hcmp : CmpLays Try.prog 71 #[] encP 2 cmpP b 0 xs.toArray.size w := fun m os dk _ p q => by
      refine place_calls hG p q _ fun b' o hbo => ?_
      have h1 := hag b' o hbo
      have hne : b' ≠ b := by rintro rfl; rw [hgH] at hbo; cases hbo
      exact (sorted_old id 0 m (Sort.flatK encP 2 dk) os (lt_of_heap h1) hne).trans h1
    have ht : TyAgg Try.prog 119 2 := agOf_ok (by kernel_rfl)
    obtain ⟨⟨ds, t1, t2⟩, ⟨ti, t3, t4⟩⟩ := ht
    have hc := AnyQ.slices_SortFunc_total Try.layP 2 (fun w => (run_isAgg t1 w).trans (by rw [t2])) (fun w => (run_sizeOf t3 w).trans (by rw [t4])) encP hk (fun x u hu => by simp only [encP, List.mem_cons, List.not_mem_nil, or_false] at hu; rcases hu with rfl | rfl <;> rfl) cmpP swoP 71 #[] b 0 cap xs.toArray w eg hcmp hH hb (by rw [List.size_toArray]; omega) cmpP_total
    change Calls Try.prog 70 _ _ _ at hc
    rw [List.size_toArray, ← hn] at hc
    refine hc.mono fun e w' ⟨h2, m, os, h3⟩ => ?_
    rw [mergeP] at h3
    refine ⟨h2, sortG pleB xs, (sortG pleB xs).flatMap encP, hW, DtL.ofEnc (fun _ _ => rfl) _, (sortG_perm pleB xs).length_eq, ?_, ?_, ?_⟩
    · rw [h3]; exact sorted_grown id 0 m (Sort.flatK encP 2 (sortG pleB xs).toArray) os
    · rw [h3]; exact Nat.le_add_right _ _
    · rw [h3]
      have := sorted_owns id m (Sort.flatK encP 2 (sortG pleB xs).toArray) os ho (by rw [Sort.size_flatK, List.size_toArray, (sortG_perm pleB xs).length_eq, hn])
      rw [List.map_id_fun, id, flatK_list hk] at this
      exact this
theorem tnok70 : tn70.Ok Try.prog gh := fun _ _ hW _ _ _ _ _ _ hG hag hap ho hn hd => tnh70 hW.1 hW.2 hG hag hap ho hn hd
theorem ok33 : ct33.Ok Try.prog tab gh := Ct.lift (E := ⟨Try.prog, tab, [ct54, ct69], pl33, [], gh, [tn70], [([11, 0, 1, 1, 1, 1, 1, 1, 1, 12, 0, 1, 1], 0), ([16, 2, 1, 0, 1, 4, 0, 1, 1, 5, 4, 1, 0, 1, 1, 1, 1, 1, 1, 12, 0, 1, 1], 72002), ([17, 2, 1, 0, 1, 4, 0, 1, 1, 5, 4, 1, 0, 1, 1, 1, 1, 1, 1, 12, 0, 1, 1], 0)]⟩) ⟨tabOk, ⟨ok54, ok69, trivial⟩, mo, trivial, ghUp, ⟨tnok70, trivial⟩⟩ 9 ct33 fun x Φ => by rw [eq33]; exact id
theorem ok35 : ct35.Ok Try.prog tab gh := Ct.lift (E := ⟨Try.prog, tab, [ct18, ct29], pl35, [it53], gh, [], []⟩) ⟨tabOk, ⟨ok18, ok29, trivial⟩, mo, ⟨itok53, trivial⟩, ghUp, trivial⟩ 9 ct35 fun x Φ => by rw [eq35]; exact id
theorem ok10 : ct10.Ok Try.prog tab gh := Ct.liftD (E := ⟨Try.prog, tab, [ct7, ct18, ct19, ct33, ct35, ct49, ct50, ct52], pl10, [it53], gh, [], [([18, 0, 1, 4, 0, 1, 1, 5, 4, 1, 0, 1, 1, 12, 0, 1, 1, 1, 1, 1], 0)]⟩) ⟨tabOk, ⟨ok7, ok18, ok19, ok33, ok35, ok49, ok50, ok52, trivial⟩, mo, ⟨itok53, trivial⟩, ghUp, trivial⟩ 9 ct10 fun x Φ => by rw [eq10]; exact id
theorem ok63 : ct63.Ok Try.prog tab gh := Ct.lift (E := ⟨Try.prog, tab, [], pl63, [], gh, [], []⟩) ⟨tabOk, trivial, mo, trivial, ghUp, trivial⟩ 9 ct63 fun x Φ => by rw [eq63]; exact id
theorem ok44 : ct44.Ok Try.prog tab gh := Ct.lift (E := ⟨Try.prog, tab, [ct63], pl44, [], gh, [], []⟩) ⟨tabOk, ⟨ok63, trivial⟩, mo, trivial, ghUp, trivial⟩ 9 ct44 fun x Φ => by rw [eq44]; exact id
theorem ok16 : ct16.Ok Try.prog tab gh := Ct.lift (E := ⟨Try.prog, tab, [ct44], pl16, [], gh, [], []⟩) ⟨tabOk, ⟨ok44, trivial⟩, mo, trivial, ghUp, trivial⟩ 9 ct16 fun x Φ => by rw [eq16]; exact id
theorem ok83 : ct83.Ok Try.prog tab gh := Ct.lift (E := ⟨Try.prog, tab, [], pl83, [], gh, [], []⟩) ⟨tabOk, trivial, mo, trivial, ghUp, trivial⟩ 9 ct83 fun x Φ => by rw [eq83]; exact id
theorem ok76 : ct76.Ok Try.prog tab gh := Ct.lift (E := ⟨Try.prog, tab, [ct83], pl76, [], gh, [], []⟩) ⟨tabOk, ⟨ok83, trivial⟩, mo, trivial, ghUp, trivial⟩ 9 ct76 fun x Φ => by rw [eq76]; exact id
theorem ok64 : ct64.Ok Try.prog tab gh := Ct.lift (E := ⟨Try.prog, tab, [ct76], pl64, [], gh, [], []⟩) ⟨tabOk, ⟨ok76, trivial⟩, mo, trivial, ghUp, trivial⟩ 9 ct64 fun x Φ => by rw [eq64]; exact id
theorem ok45 : ct45.Ok Try.prog tab gh := Ct.lift (E := ⟨Try.prog, tab, [ct64], pl45, [], gh, [], []⟩) ⟨tabOk, ⟨ok64, trivial⟩, mo, trivial, ghUp, trivial⟩ 9 ct45 fun x Φ => by rw [eq45]; exact id
theorem ok58 : ct58.Ok Try.prog tab gh := Ct.lift (E := ⟨Try.prog, tab, [ct7, ct49], pl58, [], gh, [], []⟩) ⟨tabOk, ⟨ok7, ok49, trivial⟩, mo, trivial, ghUp, trivial⟩ 9 ct58 fun x Φ => by rw [eq58]; exact id
theorem ok37 : ct37.Ok Try.prog tab gh := Ct.lift (E := ⟨Try.prog, tab, [ct7, ct18, ct50, ct58], pl37, [], gh, [], []⟩) ⟨tabOk, ⟨ok7, ok18, ok50, ok58, trivial⟩, mo, trivial, ghUp, trivial⟩ 9 ct37 fun x Φ => by rw [eq37]; exact id
theorem ok66 : ct66.Ok Try.prog tab gh := Ct.lift (E := ⟨Try.prog, tab, [], pl66, [], gh, [], [([19, 2, 1, 1, 0, 1, 1, 11, 0, 1, 1, 1], 0)]⟩) ⟨tabOk, trivial, mo, trivial, ghUp, trivial⟩ 9 ct66 fun x Φ => by rw [eq66]; exact id
theorem ok46 : ct46.Ok Try.prog tab gh := Ct.lift (E := ⟨Try.prog, tab, [ct54, ct66, ct69], pl46, [], gh, [tn70], [([11, 0, 1, 1, 1, 1, 1, 1, 1, 15, 0, 1, 1], 0), ([16, 2, 1, 0, 1, 4, 0, 1, 1, 5, 4, 1, 0, 1, 1, 1, 1, 1, 1, 15, 0, 1, 1], 72002), ([17, 2, 1, 0, 1, 4, 0, 1, 1, 5, 4, 1, 0, 1, 1, 1, 1, 1, 1, 15, 0, 1, 1], 0)]⟩) ⟨tabOk, ⟨ok54, ok66, ok69, trivial⟩, mo, trivial, ghUp, ⟨tnok70, trivial⟩⟩ 9 ct46 fun x Φ => by rw [eq46]; exact id
theorem ok17 : ct17.Ok Try.prog tab gh := Ct.lift (E := ⟨Try.prog, tab, [ct19, ct37, ct45, ct46], pl17, [], gh, [], []⟩) ⟨tabOk, ⟨ok19, ok37, ok45, ok46, trivial⟩, mo, trivial, ghUp, trivial⟩ 9 ct17 fun x Φ => by rw [eq17]; exact id
theorem ok4 : ct4.Ok Try.prog tab gh := Ct.lift (E := ⟨Try.prog, tab, [ct5, ct8, ct10, ct15, ct16, ct17], pl4, [], gh, [], []⟩) ⟨tabOk, ⟨ok5, ok8, ok10, ok15, ok16, ok17, trivial⟩, mo, trivial, ghUp, trivial⟩ 9 ct4 fun x Φ => by rw [eq4]; exact id
theorem ok6 : ct6.Ok Try.prog tab gh := Ct.lift (E := ⟨Try.prog, tab, [], pl6, [], gh, [], []⟩) ⟨tabOk, trivial, mo, trivial, ghUp, trivial⟩ 9 ct6 fun x Φ => by rw [eq6]; exact id
theorem ok9 : ct9.Ok Try.prog tab gh := Ct.lift (E := ⟨Try.prog, tab, [ct6], pl9, [], gh, [], []⟩) ⟨tabOk, ⟨ok6, trivial⟩, mo, trivial, ghUp, trivial⟩ 9 ct9 fun x Φ => by rw [eq9]; exact id
theorem pk33 (v : Value) (cs : List Value) : PkR Try.prog 33 v cs = (cs = [v]) := by kernel_rfl
theorem image_Check_lift {H : Hp} (x0 : List (List Sec)) {A1 : Option Addr} {n1 c1 : Nat} {s1 : List Value} (hF1 : Fz (α := List Sec) H A1 n1 c1 x0 s1) {Φ : Int → Prop} (hm : image_Check_W x0 Φ) : RetP Try.prog 36 #[.slice A1 n1 c1] H (fun _ v L => ∃ y, Φ y ∧ v = .int .i64 (y) ∧ L = []) := by
  refine RetP.mono (okT36 (x0, ()) (fun y => Φ y.1) hm H [.slice A1 n1 c1] trivial ⟨_, [.slice A1 n1 c1], _, rfl, by rw [pk33], (show Dt.rd (α := List (List Sec)) H _ _ from ⟨A1, n1, c1, s1, rfl, hF1⟩), rfl⟩) fun H' v L _ ⟨y, hy, hr⟩ => ?_
  obtain ⟨ρ, _, _, _, _, h1, h2⟩ := hr 0 (fun _ => none) (fun _ _ => rfl) _ _ _ (show resE Try.prog tab _ _ y 0 = some (.i .i64 y.1, [], 0) by kernel_rfl)
  exact ⟨y.1, hy, h1, h2⟩
theorem pk41 (v : Value) (cs : List Value) : PkR Try.prog 41 v cs = (cs = [v]) := by kernel_rfl
theorem slices_Clone_api_Sector_api_Sector_lift {H : Hp} (x0 : List Sec) {A1 : Option Addr} {n1 c1 : Nat} {s1 : List Value} (hF1 : Fz (α := Sec) H A1 n1 c1 x0 s1) {Φ : List Sec → Prop} (hm : Z10 x0 Φ) : RetP Try.prog 51 #[.slice A1 n1 c1] H (fun H' v L => ∃ y, Φ y ∧ ∃ A12, ∃ n12, ∃ c12, ∃ s12, v = .slice A12 n12 c12 ∧ DtL (α := Sec) H' s12 y ∧ n12 = y.length ∧ L = [.row (.slice A12 n12 c12) 72 8 n12 s12]) := by
  refine RetP.mono (okT51 (x0, ()) (fun y => Φ y.1) hm H [.slice A1 n1 c1] trivial ⟨_, [.slice A1 n1 c1], _, rfl, by rw [pk41], (show Dt.rd (α := List Sec) H _ _ from ⟨A1, n1, c1, s1, rfl, hF1⟩), rfl⟩) fun H' v L _ ⟨y, hy, hr⟩ => ?_
  obtain ⟨ρ, _, _, _, _, h1, h2⟩ := hr 0 (fun _ => none) (fun _ _ => rfl) _ _ _ (show resE Try.prog tab _ _ y 0 = some (.own 0, [(0, .row 72 y.1)], 1) by kernel_rfl)
  obtain ⟨A, n, c, e1, rfl⟩ := h1
  obtain ⟨S, L', rfl, ⟨A', n', c', s, e2, rfl, e3, e4⟩, e5⟩ := h2
  obtain rfl : L' = [] := e5
  rw [e1] at e2; cases e2
  exact ⟨y.1, hy, A, n, c, s, rfl, e3, e4, rfl⟩
theorem image_mappedE_lift {H : Hp} (x0 : List (List Sec)) {A1 : Option Addr} {n1 c1 : Nat} {s1 : List Value} (hF1 : Fz (α := List Sec) H A1 n1 c1 x0 s1) {Φ : List (List Sec) → Prop} (hm : Z73 x0 Φ) : RetP Try.prog 75 #[.slice A1 n1 c1, .func (.func 51) #[] #[]] H (fun H' v L => ∃ y, Φ y ∧ ∃ A45, ∃ n45, ∃ c45, ∃ s45, ∃ rs46, v = .slice A45 n45 c45 ∧ DeepL (α := List Sec) [72] H' s45 y rs46 ∧ n45 = y.length ∧ L = .row (.slice A45 n45 c45) 41 1 n45 s45 :: rs46) := by
 refine RetP.of_code Try.func75 rfl (nb rfl) fun w0 hM => ?_
 refine CW.sr <| RW.st (Ex.assign (.slice none 0 0) rfl) rfl <| RW.nil <| CW.sr <| RW.st (Ex.move (.slice A1 n1 c1) rfl) rfl <| RW.st (Ex.lenN st32.1 rfl hF1.hn) rfl ?_
 obtain ⟨hg8, hm⟩ := hm
 obtain ⟨hg9, hm⟩ := hm
 refine RW.makeE (α := List Sec) hM st32 tz41 rfl rfl hg8 hg9 rfl rfl ?_; intro b2 n3 c4 s5 w hd6 hn7 hM
 refine RW.st (Ex.assign (.slice (some ⟨b2, 0, none⟩) n3 c4) rfl) rfl <| RW.nil <| CW.seq <| CW.sr <| RW.st (Ex.move (.slice A1 n1 c1) rfl) rfl <| RW.st (Ex.lenN st32.1 rfl hF1.hn) rfl <| RW.st (Ex.move (.int .i64 0) rfl) rfl <| RW.nil <| CW.block ?_
 obtain ⟨m44, hm⟩ := hm
 skip
 refine CW.loop (β := Nat) (fun n σ w => ∃ (v12 : List (List Sec)), ∃ (A13 : Option Addr), ∃ (n14 : Nat), ∃ (c15 : Nat), ∃ (s16 : List Value), ∃ (rs17 : List Ent), ∃ (v20 : Int), ∃ Hk10, H.le Hk10 ∧ (∃ τ, σ = sl [(1, .func (.func 51) #[] #[]), (5, .slice A13 n14 c15), (11, .slice A1 n1 c1), (12, .int .i64 ((x0.length : Int))), (13, .int .i64 v20)] τ) ∧ Mem w0 H w Hk10 (.row (.slice A13 n14 c15) 41 1 n14 s16 :: rs17) ∧ (DeepL (α := List Sec) [72] Hk10 s16 v12 rs17) ∧ (n14 = v12.length) ∧ LoopN (Z72 x0 Φ) n (v12, v20)) (fun n => n) m44 ⟨([] : List (List Sec)), (some ⟨b2, 0, none⟩), n3, c4, s5, [], 0, H, (Hp.le.refl _), sl_canon ⟨rfl, rfl, rfl, rfl, rfl, trivial⟩, hM, (DeepL.ofNil (Ts := [72]) hd6), hn7, hm⟩ ?_
 rintro k21 _ w ⟨v12, A13, n14, c15, s16, rs17, v20, Hk10, hle11, ⟨τ, rfl⟩, hM, hd18, hn19, hm⟩
 obtain _ | k21 := k21
 · exact hm.elim
 replace hm : (Z72 x0 Φ) (v12, v20) (LoopN (Z72 x0 Φ) k21) := hm
 generalize hrec22 : LoopN (Z72 x0 Φ) k21 = rec1 at hm
 refine CW.sr <| RW.st (Ex.lss rfl rfl) rfl <| RW.nil <| CW.seq ?_
 refine CW.cond_dec (p := v20 < (x0.length : Int)) rfl (fun hc23 => ?_) (fun hc23 => ?_)
 ·
  replace hm := And.left hm hc23
  refine CW.skip <| CW.seq <| CW.block <| CW.sr ?_
  obtain ⟨hg24, hm⟩ := hm
  refine RW.st (Ex.index st32 rfl rfl v20.toNat (hF1.ne hg24) hg24.nat (hF1.lt hg24)) rfl ?_
  obtain ⟨_, ⟨A25, n25, c25, s25, rfl, hF25⟩, hx26⟩ := DtL.getI (α := List Sec) (hF1.mono hle11).dat hg24
  refine RW.st (Ex.loadE hM hle11 hF1.rdc to41 rfl (hx26 0 _ rfl)) rfl <| RW.st (Ex.assign (.slice A25 n25 c25) rfl) rfl <| RW.nil <| CW.region <| RW.st (Ex.move (.slice A13 n14 c15) rfl) rfl <| RW.st (Ex.move (.func (.func 51) #[] #[]) rfl) rfl <| RW.st (Ex.move (.slice A25 n25 c25) rfl) rfl ?_
  refine RW.callP hM (slices_Clone_api_Sector_api_Sector_lift (ix x0 v20) hF25 hm) en51 rfl rfl rfl rfl ?_; rintro _ w H28 _ hle29 ⟨v27, hm, A30, n30, c30, s30, rfl, hd31, hn32, rfl⟩ hM
  refine RW.buildSlice hM st32 tz41 [(0, .slice A30 n30 c30)] [.slice A30 n30 c30] (by decide) rfl rfl rfl (by decide) rfl rfl ?_; intro b33 w hM
  obtain ⟨hg39, hm⟩ := hm
  refine RW.appendH (α := List Sec) (xs := v12) (x0 := v27) hM 2 st32 rfl rfl hn19 rfl (fun j u hj => hM.rowCell (k := 0) rfl rfl hj) rfl (oneAll ⟨rfl, trivial⟩) hg39 rfl rfl ?_; intro A35 n36 c37 w hn38 hM
  obtain ⟨s40, rs41, hd42, hM⟩ := Mem.adopt (α := List Sec) (Ts := [72]) (x := v27) [.row (.slice (some ⟨b33, 0, none⟩) 1 1) 41 1 1 [.slice A30 n30 c30], .row (.slice A35 n36 c37) 41 1 n36 (s16 ++ [.slice A30 n30 c30])] (Mem.pickT (L1 := [.row (.slice (some ⟨b33, 0, none⟩) 1 1) 41 1 1 [.slice A30 n30 c30], .row (.slice A30 n30 c30) 72 8 n30 s30, .row (.slice A35 n36 c37) 41 1 n36 (s16 ++ [.slice A30 n30 c30])]) (T := rs17) hM [1, 0, 2] rfl rfl) 1 rfl (hd18.mono hle29) ⟨A30, n30, c30, s30, rfl, rfl, hd31, hn32⟩
  replace hM : Mem w0 H w H28 (.row (.slice A35 n36 c37) 41 1 n36 s40 :: rs41) := Mem.pickT (L1 := [.row (.slice (some ⟨b33, 0, none⟩) 1 1) 41 1 1 [.slice A30 n30 c30], .row (.slice A35 n36 c37) 41 1 n36 s40]) (T := rs41) hM [1] rfl rfl
  refine RW.st (Ex.assign (.slice A35 n36 c37) rfl) rfl <| RW.nil <| CW.region ?_
  obtain ⟨hg43, hm⟩ := hm
  refine RW.st (Ex.add rfl rfl hg43.1 hg43.2) rfl <| RW.st (Ex.move (.int .i64 (v20 + 1)) rfl) rfl <| RW.nil ?_
  exact And.intro rfl ⟨k21, ⟨(v12 ++ [v27]), A35, n36, c37, s40, rs41, v20 + 1, H28, hle11.trans hle29, sl_canon ⟨rfl, rfl, rfl, rfl, rfl, trivial⟩, hM, hd42, hn38, (by rw [hrec22]; exact hm)⟩, Nat.lt_succ_self _⟩
 ·
  replace hm := And.right hm hc23
  refine CW.exit ?_
  refine CW.sr <| RW.st (Ex.move (.slice A13 n14 c15) rfl) rfl <| RW.st (Ex.assign (.slice A13 n14 c15) rfl) rfl <| RW.nil <| CW.ret ?_
  refine end_tmp (.inl rfl) rfl (.slice A13 n14 c15) rfl ?_
  exact ⟨_, _, hM, v12, hm, A13, n14, c15, s16, rs17, rfl, hd18, hn19, rfl⟩
theorem image_copiedE_lift {H : Hp} (x0 : List (List Sec)) {A1 : Option Addr} {n1 c1 : Nat} {s1 : List Value} (hF1 : Fz (α := List Sec) H A1 n1 c1 x0 s1) {Φ : List (List Sec) → Prop} (hm : Z74 x0 Φ) : RetP Try.prog 59 #[.slice A1 n1 c1] H (fun H' v L => ∃ y, Φ y ∧ ∃ A9, ∃ n9, ∃ c9, ∃ s9, ∃ rs10, v = .slice A9 n9 c9 ∧ DeepL (α := List Sec) [72] H' s9 y rs10 ∧ n9 = y.length ∧ L = .row (.slice A9 n9 c9) 41 1 n9 s9 :: rs10) := by
 refine RetP.of_code Try.func59 rfl (nb rfl) fun w0 hM => ?_
 refine CW.sr <| RW.st (Ex.assign (.slice none 0 0) rfl) rfl <| RW.nil <| CW.sr <| RW.st (Ex.move (.slice A1 n1 c1) rfl) rfl ?_
 refine RW.callP hM (image_mappedE_lift x0 hF1 hm) en75 rfl rfl rfl rfl ?_; rintro _ w H3 _ hle4 ⟨v2, hm, A5, n5, c5, s5, rs6, rfl, hd7, hn8, rfl⟩ hM
 replace hM := Mem.toTail (a := [.row (.slice A5 n5 c5) 41 1 n5 s5]) (b := rs6) (c := []) hM
 refine RW.st (Ex.assign (.slice A5 n5 c5) rfl) rfl <| RW.nil <| CW.ret ?_
 refine end_tmp (.inl rfl) rfl (.slice A5 n5 c5) rfl ?_
 exact ⟨_, _, hM, v2, hm, A5, n5, c5, s5, rs6, rfl, hd7, hn8, rfl⟩
theorem pk43 (v : Value) (cs : List Value) : PkR Try.prog 43 v cs = (v = .agg cs.toArray) := by kernel_rfl
theorem image_fits_lift {H : Hp} (x0 : List (List Sec)) (x1 : api_Write) {A1 : Option Addr} {n1 c1 : Nat} {s1 : List Value} (hF1 : Fz (α := List Sec) H A1 n1 c1 x0 s1) {A2 : Option Addr} {n2 c2 : Nat} {s2 : List Value} (hF2 : Fz (α := Sec) H A2 n2 c2 x1.Data s2) {Φ : Int → Prop} (hm : image_fits_W x0 x1 Φ) : RetP Try.prog 60 #[.slice A1 n1 c1, .agg #[.int .i64 (x1.Volume), .int .i64 (x1.Start), .slice A2 n2 c2]] H (fun _ v L => ∃ y, Φ y ∧ v = .int .i64 (y) ∧ L = []) := by
  refine RetP.mono (okT60 (x0, x1, ()) (fun y => Φ y.1) hm H [.slice A1 n1 c1, .agg #[.int .i64 (x1.Volume), .int .i64 (x1.Start), .slice A2 n2 c2]] trivial ⟨_, [.slice A1 n1 c1], _, rfl, by rw [pk33], (show Dt.rd (α := List (List Sec)) H _ _ from ⟨A1, n1, c1, s1, rfl, hF1⟩), ⟨_, [.int .i64 (x1.Volume), .int .i64 (x1.Start), .slice A2 n2 c2], _, rfl, by rw [pk43], (show Dt.rd (α := api_Write) H _ _ from ⟨A2, n2, c2, s2, rfl, hF2⟩), rfl⟩⟩) fun H' v L _ ⟨y, hy, hr⟩ => ?_
  obtain ⟨ρ, _, _, _, _, h1, h2⟩ := hr 0 (fun _ => none) (fun _ _ => rfl) _ _ _ (show resE Try.prog tab _ _ y 0 = some (.i .i64 y.1, [], 0) by kernel_rfl)
  exact ⟨y.1, hy, h1, h2⟩
theorem image_Apply_lift {H : Hp} (x0 : List (List Sec)) (x1 : List api_Write) {A1 : Option Addr} {n1 c1 : Nat} {s1 : List Value} (hF1 : Fz (α := List Sec) H A1 n1 c1 x0 s1) {A2 : Option Addr} {n2 c2 : Nat} {s2 : List Value} (hF2 : Fz (α := api_Write) H A2 n2 c2 x1 s2) {Φ : List (List Sec) × Int × Int → Prop} (hm : image_Apply_W x0 x1 Φ) : RetP Try.prog 38 #[.slice A1 n1 c1, .slice A2 n2 c2] H (fun H' v L => ∃ y, Φ y ∧ ∃ A89, ∃ n89, ∃ c89, ∃ s89, ∃ rs90, v = .tuple #[.slice A89 n89 c89, .int .i64 (y.2.1), .int .i64 (y.2.2)] ∧ DeepL (α := List Sec) [72] H' s89 y.1 rs90 ∧ n89 = y.1.length ∧ L = .row (.slice A89 n89 c89) 41 1 n89 s89 :: rs90) := by
 refine RetP.of_code Try.func38 rfl (nb rfl) fun w0 hM => ?_
 refine CW.sr <| RW.st (Ex.assign (.slice none 0 0) rfl) rfl <| RW.st (Ex.assign (.int .i64 0) rfl) rfl <| RW.st (Ex.assign (.int .i64 0) rfl) rfl <| RW.nil <| CW.seq <| CW.sr <| RW.st (Ex.move (.slice A1 n1 c1) rfl) rfl ?_
 refine RW.callP hM (image_Check_lift x0 hF1 hm) en36 rfl rfl rfl rfl ?_; rintro _ w H4 _ hle5 ⟨v3, hm, rfl, rfl⟩ hM
 refine RW.st (Ex.assign (.int .i64 v3) rfl) rfl <| RW.nil <| CW.sr <| RW.st (Ex.move (.int .i64 v3) rfl) rfl <| RW.st (Ex.neq rfl rfl) rfl <| RW.nil ?_
 refine CW.cond_dec (p := v3 ≠ 0) rfl (fun hc6 => ?_) (fun hc6 => ?_)
 ·
  replace hm := And.left hm hc6
  refine CW.sr <| RW.st (Ex.move (.int .i64 v3) rfl) rfl <| RW.st (Ex.assign (.slice none 0 0) rfl) rfl <| RW.st (Ex.assign (.int .i64 0) rfl) rfl <| RW.st (Ex.assign (.int .i64 v3) rfl) rfl <| RW.nil <| CW.ret ?_
  refine thenQ_ret ?_
  refine end_tmp3 (.inl rfl) rfl (.slice none 0 0) (.int .i64 0) (.int .i64 v3) rfl rfl rfl ?_
  replace hM := hM.nilRow 41 1
  exact ⟨_, _, hM, (([] : List (List Sec)), 0, v3), hm, none, 0, 0, [], [], rfl, (DeepL.nil : DeepL (α := List Sec) [72] H4 [] [] []), rfl, rfl⟩
 ·
  replace hm := And.right hm hc6
  refine CW.skip <| CW.sr <| RW.st (Ex.move (.slice A1 n1 c1) rfl) rfl ?_
  refine RW.callP hM (image_copiedE_lift x0 (hF1.mono hle5) hm) en59 rfl rfl rfl rfl ?_; rintro _ w H8 _ hle9 ⟨v7, hm, A10, n10, c10, s10, rs11, rfl, hd12, hn13, rfl⟩ hM
  replace hM := Mem.toTail (a := [.row (.slice A10 n10 c10) 41 1 n10 s10]) (b := rs11) (c := []) hM
  refine RW.st (Ex.assign (.slice A10 n10 c10) rfl) rfl <| RW.nil <| CW.seq <| CW.sr <| RW.st (Ex.move (.slice A2 n2 c2) rfl) rfl <| RW.st (Ex.lenN st25.1 rfl hF2.hn) rfl <| RW.st (Ex.move (.int .i64 0) rfl) rfl <| RW.nil <| CW.block ?_
  obtain ⟨m88, hm⟩ := hm
  skip
  refine CW.loop (β := Nat) (fun n σ w => ∃ (v16 : List (List Sec)), ∃ (A17 : Option Addr), ∃ (n18 : Nat), ∃ (c19 : Nat), ∃ (s20 : List Value), ∃ (rs21 : List Ent), ∃ (v24 : Int), ∃ Hk14, H8.le Hk14 ∧ (∃ τ, σ = sl [(8, .slice A17 n18 c19), (19, .slice A2 n2 c2), (20, .int .i64 ((x1.length : Int))), (21, .int .i64 v24)] τ) ∧ Mem w0 H w Hk14 (.row (.slice A17 n18 c19) 41 1 n18 s20 :: rs21) ∧ (DeepL (α := List Sec) [72] Hk14 s20 v16 rs21) ∧ (n18 = v16.length) ∧ LoopN (Z75 x1 Φ) n (v16, v24)) (fun n => n) m88 ⟨v7, A10, n10, c10, s10, rs11, 0, H8, (Hp.le.refl _), sl_canon ⟨rfl, rfl, rfl, rfl, trivial⟩, hM, hd12, hn13, hm⟩ ?_
  rintro k25 _ w ⟨v16, A17, n18, c19, s20, rs21, v24, Hk14, hle15, ⟨τ, rfl⟩, hM, hd22, hn23, hm⟩
  obtain _ | k25 := k25
  · exact hm.elim
  replace hm : (Z75 x1 Φ) (v16, v24) (LoopN (Z75 x1 Φ) k25) := hm
  generalize hrec26 : LoopN (Z75 x1 Φ) k25 = rec1 at hm
  refine CW.sr <| RW.st (Ex.lss rfl rfl) rfl <| RW.nil <| CW.seq ?_
  refine CW.cond_dec (p := v24 < (x1.length : Int)) rfl (fun hc27 => ?_) (fun hc27 => ?_)
  ·
   replace hm := And.left hm hc27
   refine CW.skip <| CW.seq <| CW.block <| CW.sr <| RW.st (Ex.move (.int .i64 v24) rfl) rfl ?_
   obtain ⟨hg28, hm⟩ := hm
   refine RW.st (Ex.index st25 rfl rfl v24.toNat (hF2.ne hg28) hg28.nat (hF2.lt hg28)) rfl ?_
   obtain ⟨_, ⟨A29, n29, c29, s29, rfl, hF29⟩, hx30⟩ := DtL.getI (α := api_Write) (hF2.mono ((hle5.trans hle9).trans hle15)).dat hg28
   refine RW.st (Ex.loadEA hM ((hle5.trans hle9).trans hle15) hF2.rdc [.int .i64 ((ix x1 v24).Volume), .int .i64 ((ix x1 v24).Start), .slice A29 n29 c29] ta43 rfl (hF2.ne hg28) rfl (chunk_sub (off := 0) (n := 3) hx30 rfl)) rfl ?_
   refine RW.alloc hM tz43 [.int .i64 0, .int .i64 0, .slice none 0 0] rfl rfl rfl ?_; intro b31 w hM
   refine RW.st (Ex.assign (.int .i64 v24) rfl) rfl ?_
   refine RW.store hM 0 (.agg #[.int .i64 ((ix x1 v24).Volume), .int .i64 ((ix x1 v24).Start), .slice A29 n29 c29]) [.int .i64 ((ix x1 v24).Volume), .int .i64 ((ix x1 v24).Start), .slice A29 n29 c29] [.int .i64 ((ix x1 v24).Volume), .int .i64 ((ix x1 v24).Start), .slice A29 n29 c29] sz43 rfl rfl rfl (oneAll ⟨rfl, rfl, rfl, trivial⟩) rfl (nb rfl) rfl (.box b31 43 [.int .i64 ((ix x1 v24).Volume), .int .i64 ((ix x1 v24).Start), .slice A29 n29 c29] :: .row (.slice A17 n18 c19) 41 1 n18 s20 :: rs21) rfl rfl rfl ?_; intro w hM
   refine RW.nil <| CW.seq <| CW.sr <| RW.st (Ex.move (.slice A17 n18 c19) rfl) rfl <| RW.st (Ex.loadA hM 0 [.int .i64 ((ix x1 v24).Volume), .int .i64 ((ix x1 v24).Start), .slice A29 n29 c29] ta43 rfl rfl rfl rfl) rfl ?_
   have hM1 := hM
   obtain ⟨H32, hM, hle33, hd34⟩ := DeepL.flat (es := [.box b31 43 [.int .i64 ((ix x1 v24).Volume), .int .i64 ((ix x1 v24).Start), .slice A29 n29 c29], .row (.slice A17 n18 c19) 41 1 n18 s20]) hM hd22
   obtain ⟨H35, hM, hle36, hF37⟩ := hM.giveF (α := List Sec) 1 rfl hd34 hn23
   refine RW.callB hM1 hM (image_fits_lift v16 (ix x1 v24) hF37 (hF29.mono (hle33.trans hle36)) hm) en60 rfl rfl rfl rfl ?_; clear hM hM1; intro v38 w hm hM
   refine RW.st (Ex.assign (.int .i64 v38) rfl) rfl <| RW.nil <| CW.sr <| RW.st (Ex.move (.int .i64 v38) rfl) rfl <| RW.st (Ex.neq rfl rfl) rfl <| RW.nil ?_
   refine CW.cond_dec (p := v38 ≠ 0) rfl (fun hc41 => ?_) (fun hc41 => ?_)
   ·
    replace hm := And.left hm hc41
    refine CW.sr <| RW.st (Ex.move (.int .i64 v24) rfl) rfl <| RW.st (Ex.move (.int .i64 v38) rfl) rfl <| RW.st (Ex.assign (.slice none 0 0) rfl) rfl <| RW.st (Ex.assign (.int .i64 v24) rfl) rfl <| RW.st (Ex.assign (.int .i64 v38) rfl) rfl <| RW.nil <| CW.ret ?_
    refine thenQ_ret (blockQ_ret (thenQ_ret (thenQ_ret (blockQ_ret (thenQ_ret ?_)))))
    refine end_tmp3 (.inl rfl) rfl (.slice none 0 0) (.int .i64 v24) (.int .i64 v38) rfl rfl rfl ?_
    replace hM := hM.nilRow 41 1
    exact ⟨_, _, ((Mem.dropT (L1 := [.row (.slice none 0 0) 41 1 0 [], .box b31 43 [.int .i64 ((ix x1 v24).Volume), .int .i64 ((ix x1 v24).Start), .slice A29 n29 c29], .row (.slice A17 n18 c19) 41 1 n18 s20]) (T := rs21) hM).pick [0] rfl rfl), (([] : List (List Sec)), v24, v38), hm, none, 0, 0, [], [], rfl, (DeepL.nil : DeepL (α := List Sec) [72] Hk14 [] [] []), rfl, rfl⟩
   ·
    replace hm := And.right hm hc41
    refine CW.skip ?_
    obtain ⟨hg42, hm⟩ := hm
    obtain ⟨c44, _, c45, _, rs46, rfl, ⟨A43, n43, c43, s43, rfl, rfl, hF43, hn48⟩, hh47, hM⟩ := Mem.focus [.box b31 43 [.int .i64 ((ix x1 v24).Volume), .int .i64 ((ix x1 v24).Start), .slice A29 n29 c29], .row (.slice A17 n18 c19) 41 1 n18 s20] hM hd22 hg42
    have hx49 := Hole.get (ch := [.slice A43 n43 c43]) hh47
    obtain ⟨hg55, hm⟩ := hm
    refine CW.drawL 10 [] [(fun Hq us E => us = [.slice A17 n18 c19] ∧ E = [] ∧ True), (fun Hq us E => us = [.pointer (some ⟨b31, 0, none⟩)] ∧ E = [] ∧ True), (fun Hq us E => us = [.int .i64 ((ix x1 v24).Volume)] ∧ E = [] ∧ True), (fun Hq us E => us = [elp A17 ((((ix x1 v24).Volume).toNat) * 1 + 0)] ∧ E = [] ∧ True), (fun Hq us E => us = [.slice A43 n43 c43] ∧ E = [] ∧ True), (fun Hq us E => us = [.pointer (some ⟨b31, 1, none⟩)] ∧ E = [] ∧ True), (fun Hq us E => us = [.int .i64 ((ix x1 v24).Start)] ∧ E = [] ∧ True), (fun Hq us E => ∃ (A56 : Option Addr), ∃ (n57 : Nat), ∃ (c58 : Nat), us = [.slice A56 n57 c58] ∧ E = [] ∧ View A43 n43 c43 8 ((ix x1 v24).Start) A56 n57 c58 ∧ True), (fun Hq us E => us = [.pointer (some ⟨b31, 2, none⟩)] ∧ E = [] ∧ True), (fun Hq us E => us = [.slice A29 n29 c29] ∧ E = [] ∧ True)]
     (fun k => [[0], [1], [2], [3], [4], [5], [6], [7], [8], [9]].getD k []) (fun _ => none) (by kernel_rfl) hM (by kernel_rfl) (by kernel_rfl) (by kernel_rfl) rfl (by simp only [List.forall_mem_cons]; exact ⟨fun _ _ _ _ hle ⟨e1, e2, _⟩ => ⟨e1, e2, trivial⟩, fun _ _ _ _ hle ⟨e1, e2, _⟩ => ⟨e1, e2, trivial⟩, fun _ _ _ _ hle ⟨e1, e2, _⟩ => ⟨e1, e2, trivial⟩, fun _ _ _ _ hle ⟨e1, e2, _⟩ => ⟨e1, e2, trivial⟩, fun _ _ _ _ hle ⟨e1, e2, _⟩ => ⟨e1, e2, trivial⟩, fun _ _ _ _ hle ⟨e1, e2, _⟩ => ⟨e1, e2, trivial⟩, fun _ _ _ _ hle ⟨e1, e2, _⟩ => ⟨e1, e2, trivial⟩, fun _ _ _ _ hle ⟨A56, n57, c58, e1, e2, hV59, _⟩ => ⟨A56, n57, c58, e1, e2, hV59, trivial⟩, fun _ _ _ _ hle ⟨e1, e2, _⟩ => ⟨e1, e2, trivial⟩, fun _ _ _ _ hle ⟨e1, e2, _⟩ => ⟨e1, e2, trivial⟩, by simp⟩) ⟨?_, ?_, ?_, ?_, ?_, ?_, ?_, ?_, ?_, ?_, trivial⟩ ?_
    ·
     intro H' σ' w R E hle hMR hE0 hE hp hf
     obtain rfl := hE0 rfl
     obtain ⟨τ, rfl⟩ := sl_canon (σ := σ') (l := [(8, .slice A17 n18 c19)]) ⟨(hf 8 (by kernel_rfl)).trans rfl, trivial⟩
     have hM := Mem.subR (R := R) hMR
     exact RW.step (Ex.move (.slice A17 n18 c19) rfl) rfl rfl rfl (RW.nil ⟨rfl, rfl, _, rfl, H', [], Hp.le.refl _, hMR, rfl, rfl, trivial⟩)
    ·
     intro H' σ' w R E hle hMR hE0 hE hp hf
     obtain rfl := hE0 rfl
     obtain ⟨τ, rfl⟩ := sl_canon (σ := σ') (l := [(10, .pointer (some ⟨b31, 0, none⟩))]) ⟨(hf 10 (by kernel_rfl)).trans rfl, trivial⟩
     have hM := Mem.subR (R := R) hMR
     exact RW.step (Ex.fieldAddr fa43_0 rfl) rfl rfl rfl (RW.nil ⟨rfl, rfl, _, rfl, H', [], Hp.le.refl _, hMR, rfl, rfl, trivial⟩)
    ·
     intro H' σ' w R E hle hMR hE0 hE hp hf
     obtain rfl := hE0 rfl
     obtain ⟨_, hg⟩ := hp 1 (by decide) (by kernel_rfl)
     obtain ⟨e60, _, _⟩ := hg.get rfl
     have e61 : σ' 34 = .pointer (some ⟨b31, 0, none⟩) := (List.cons.inj e60).1
     obtain ⟨τ, rfl⟩ := sl_canon (σ := σ') (l := [(34, .pointer (some ⟨b31, 0, none⟩))]) ⟨e61, trivial⟩
     have hM := Mem.subR (R := R) hMR
     exact RW.step (Ex.load1 hM 1 to3 rfl rfl rfl) rfl rfl rfl (RW.nil ⟨rfl, rfl, _, rfl, H', [], Hp.le.refl _, hMR, rfl, rfl, trivial⟩)
    ·
     intro H' σ' w R E hle hMR hE0 hE hp hf
     obtain rfl := hE0 rfl
     obtain ⟨_, hg⟩ := hp 0 (by decide) (by kernel_rfl)
     obtain ⟨e62, _, _⟩ := hg.get rfl
     have e63 : σ' 33 = .slice A17 n18 c19 := (List.cons.inj e62).1
     obtain ⟨_, hg⟩ := hp 2 (by decide) (by kernel_rfl)
     obtain ⟨e64, _, _⟩ := hg.get rfl
     have e65 : σ' 35 = .int .i64 ((ix x1 v24).Volume) := (List.cons.inj e64).1
     obtain ⟨τ, rfl⟩ := sl_canon (σ := σ') (l := [(33, .slice A17 n18 c19), (35, .int .i64 ((ix x1 v24).Volume))]) ⟨e63, e65, trivial⟩
     have hM := Mem.subR (R := R) hMR
     exact RW.step (Ex.index st33 rfl rfl (((ix x1 v24).Volume).toNat) (hM.rowNeD (α := List Sec) (p := 2) rfl hn23 hg42) hg42.nat (Nat.lt_of_lt_of_eq hg42.lt (hn23).symm)) rfl rfl rfl (RW.nil ⟨rfl, rfl, _, rfl, H', [], Hp.le.refl _, hMR, rfl, rfl, trivial⟩)
    ·
     intro H' σ' w R E hle hMR hE0 hE hp hf
     obtain rfl := hE0 rfl
     obtain ⟨_, hg⟩ := hp 3 (by decide) (by kernel_rfl)
     obtain ⟨e66, _, _⟩ := hg.get rfl
     have e67 : σ' 36 = elp A17 ((((ix x1 v24).Volume).toNat) * 1 + 0) := (List.cons.inj e66).1
     obtain ⟨τ, rfl⟩ := sl_canon (σ := σ') (l := [(36, elp A17 ((((ix x1 v24).Volume).toNat) * 1 + 0))]) ⟨e67, trivial⟩
     have hM := Mem.subR (R := R) hMR
     exact RW.step (Ex.loadR hM 2 rfl to41 (hM.rowNeD (α := List Sec) (p := 2) rfl hn23 hg42) rfl (hx49 0 _ rfl)) rfl rfl rfl (RW.nil ⟨rfl, rfl, _, rfl, H', [], Hp.le.refl _, hMR, rfl, rfl, trivial⟩)
    ·
     intro H' σ' w R E hle hMR hE0 hE hp hf
     obtain rfl := hE0 rfl
     obtain ⟨τ, rfl⟩ := sl_canon (σ := σ') (l := [(10, .pointer (some ⟨b31, 0, none⟩))]) ⟨(hf 10 (by kernel_rfl)).trans rfl, trivial⟩
     have hM := Mem.subR (R := R) hMR
     exact RW.step (Ex.fieldAddr fa43_1 rfl) rfl rfl rfl (RW.nil ⟨rfl, rfl, _, rfl, H', [], Hp.le.refl _, hMR, rfl, rfl, trivial⟩)
    ·
     intro H' σ' w R E hle hMR hE0 hE hp hf
     obtain rfl := hE0 rfl
     obtain ⟨_, hg⟩ := hp 5 (by decide) (by kernel_rfl)
     obtain ⟨e68, _, _⟩ := hg.get rfl
     have e69 : σ' 38 = .pointer (some ⟨b31, 1, none⟩) := (List.cons.inj e68).1
     obtain ⟨τ, rfl⟩ := sl_canon (σ := σ') (l := [(38, .pointer (some ⟨b31, 1, none⟩))]) ⟨e69, trivial⟩
     have hM := Mem.subR (R := R) hMR
     exact RW.step (Ex.load1 hM 1 to3 rfl rfl rfl) rfl rfl rfl (RW.nil ⟨rfl, rfl, _, rfl, H', [], Hp.le.refl _, hMR, rfl, rfl, trivial⟩)
    ·
     intro H' σ' w R E hle hMR hE0 hE hp hf
     obtain rfl := hE0 rfl
     obtain ⟨_, hg⟩ := hp 4 (by decide) (by kernel_rfl)
     obtain ⟨e70, _, _⟩ := hg.get rfl
     have e71 : σ' 37 = .slice A43 n43 c43 := (List.cons.inj e70).1
     obtain ⟨_, hg⟩ := hp 6 (by decide) (by kernel_rfl)
     obtain ⟨e72, _, _⟩ := hg.get rfl
     have e73 : σ' 39 = .int .i64 ((ix x1 v24).Start) := (List.cons.inj e72).1
     obtain ⟨τ, rfl⟩ := sl_canon (σ := σ') (l := [(37, .slice A43 n43 c43), (39, .int .i64 ((ix x1 v24).Start))]) ⟨e71, e73, trivial⟩
     have hM := Mem.subR (R := R) hMR
     refine RW.sliceLo st41 rfl rfl hn48 hg55 rfl rfl ?_; intro A56 n57 c58 hV59
     exact RW.nil ⟨rfl, rfl, _, rfl, H', [], Hp.le.refl _, hMR, A56, n57, c58, rfl, rfl, hV59, trivial⟩
    ·
     intro H' σ' w R E hle hMR hE0 hE hp hf
     obtain rfl := hE0 rfl
     obtain ⟨τ, rfl⟩ := sl_canon (σ := σ') (l := [(10, .pointer (some ⟨b31, 0, none⟩))]) ⟨(hf 10 (by kernel_rfl)).trans rfl, trivial⟩
     have hM := Mem.subR (R := R) hMR
     exact RW.step (Ex.fieldAddr fa43_2 rfl) rfl rfl rfl (RW.nil ⟨rfl, rfl, _, rfl, H', [], Hp.le.refl _, hMR, rfl, rfl, trivial⟩)
    ·
     intro H' σ' w R E hle hMR hE0 hE hp hf
     obtain rfl := hE0 rfl
     obtain ⟨_, hg⟩ := hp 8 (by decide) (by kernel_rfl)
     obtain ⟨e74, _, _⟩ := hg.get rfl
     have e75 : σ' 41 = .pointer (some ⟨b31, 2, none⟩) := (List.cons.inj e74).1
     obtain ⟨τ, rfl⟩ := sl_canon (σ := σ') (l := [(41, .pointer (some ⟨b31, 2, none⟩))]) ⟨e75, trivial⟩
     have hM := Mem.subR (R := R) hMR
     exact RW.step (Ex.load1 hM 1 to41 rfl rfl rfl) rfl rfl rfl (RW.nil ⟨rfl, rfl, _, rfl, H', [], Hp.le.refl _, hMR, rfl, rfl, trivial⟩)
    ·
     intro HR8 σ' w X miss hms hleR hM hX hX0 hf
     simp [subs] at hms
     rcases hms with rfl
     ·
      obtain ⟨H76, hH8⟩ : ∃ x, x = HR8 := ⟨_, rfl⟩
      subst hH8
      have hle77 := hleR
      obtain ⟨_, g0, y0⟩ := hX 0 (by decide) (by kernel_rfl)
      obtain ⟨_, rfl, _⟩ := g0.get rfl
      replace y0 : X 0 = [] := y0
      obtain ⟨_, g0, y1⟩ := hX 1 (by decide) (by kernel_rfl)
      obtain ⟨_, rfl, _⟩ := g0.get rfl
      replace y1 : X 1 = [] := y1
      obtain ⟨_, g0, y2⟩ := hX 2 (by decide) (by kernel_rfl)
      obtain ⟨_, rfl, _⟩ := g0.get rfl
      replace y2 : X 2 = [] := y2
      obtain ⟨_, g0, y3⟩ := hX 3 (by decide) (by kernel_rfl)
      obtain ⟨_, rfl, _⟩ := g0.get rfl
      replace y3 : X 3 = [] := y3
      obtain ⟨_, g0, y4⟩ := hX 4 (by decide) (by kernel_rfl)
      obtain ⟨_, rfl, _⟩ := g0.get rfl
      replace y4 : X 4 = [] := y4
      obtain ⟨_, g0, y5⟩ := hX 5 (by decide) (by kernel_rfl)
      obtain ⟨_, rfl, _⟩ := g0.get rfl
      replace y5 : X 5 = [] := y5
      obtain ⟨_, g0, y6⟩ := hX 6 (by decide) (by kernel_rfl)
      obtain ⟨_, rfl, _⟩ := g0.get rfl
      replace y6 : X 6 = [] := y6
      obtain ⟨_, g0, y7⟩ := hX 7 (by decide) (by kernel_rfl)
      obtain ⟨A56, n57, c58, e78, rfl, hV59, _⟩ := g0.get rfl
      have e79 : σ' 40 = .slice A56 n57 c58 := (List.cons.inj e78).1
      replace y7 : X 7 = [] := y7
      obtain ⟨_, g0, y8⟩ := hX 8 (by decide) (by kernel_rfl)
      obtain ⟨_, rfl, _⟩ := g0.get rfl
      replace y8 : X 8 = [] := y8
      obtain ⟨_, g0, y9⟩ := hX 9 (by decide) (by kernel_rfl)
      obtain ⟨e80, rfl, _⟩ := g0.get rfl
      have e81 : σ' 42 = .slice A29 n29 c29 := (List.cons.inj e80).1
      replace y9 : X 9 = [] := y9
      have hfl : flatX X 10 = [] := by
       show X 0 ++ (X 1 ++ (X 2 ++ (X 3 ++ (X 4 ++ (X 5 ++ (X 6 ++ (X 7 ++ (X 8 ++ (X 9 ++ []))))))))) = _
       rw [y0, y1, y2, y3, y4, y5, y6, y7, y8, y9]; rfl
      rw [hfl] at hM
      obtain ⟨τ, rfl⟩ := sl_canon (σ := σ') (l := [(8, .slice A17 n18 c19), (19, .slice A2 n2 c2), (20, .int .i64 ((x1.length : Int))), (21, .int .i64 v24), (40, .slice A56 n57 c58), (42, .slice A29 n29 c29)]) ⟨(hf 8 (by kernel_rfl)).trans rfl, (hf 19 (by kernel_rfl)).trans rfl, (hf 20 (by kernel_rfl)).trans rfl, (hf 21 (by kernel_rfl)).trans rfl, e79, e81, trivial⟩
      change RA _ _ _ _ _ _ _ (sl [(8, .slice A17 n18 c19), (19, .slice A2 n2 c2), (20, .int .i64 ((x1.length : Int))), (21, .int .i64 v24), (40, .slice A56 n57 c58), (42, .slice A29 n29 c29)] τ) _ 11 _
      refine RA.step [10] (by kernel_rfl) rfl ⟨⟨_, rfl, ?_⟩, trivial⟩
      refine RW.copyV (α := Sec) (xs := (ix v16 ((ix x1 v24).Volume))) (ys := (ix x1 v24).Data) hM 0 st41 rfl hV59 rfl (hF43.mono hle77) hn48 hg55 rfl hle77 hF29 rfl rfl ?_; intro s82 w hd83 hM
      refine RW.nil ?_
      refine And.intro rfl ?_
      refine RA.done (by kernel_rfl) ?_
      refine CW.region ?_
      obtain ⟨hg84, hm⟩ := hm
      refine RW.st (Ex.add rfl rfl hg84.1 hg84.2) rfl <| RW.st (Ex.move (.int .i64 (v24 + 1)) rfl) rfl <| RW.nil ?_
      obtain ⟨s85, rs86, hd87, hM⟩ := Mem.unfocus (α := List Sec) (Ts := [72]) (x := (paste (ix v16 ((ix x1 v24).Volume)) ((ix x1 v24).Start) ((ix x1 v24).Data))) [.box b31 43 [.int .i64 ((ix x1 v24).Volume), .int .i64 ((ix x1 v24).Start), .slice A29 n29 c29], .row (.slice A17 n18 c19) 41 1 n18 (c44 ++ ([.slice A43 n43 c43] ++ c45))] hM 1 rfl (hh47.mono hle77) ⟨A43, n43, c43, s82, rfl, rfl, hd83, (hn48).trans (paste_len hg55).symm⟩
      exact And.intro rfl ⟨k25, ⟨(put v16 ((ix x1 v24).Volume) (paste (ix v16 ((ix x1 v24).Volume)) ((ix x1 v24).Start) ((ix x1 v24).Data))), A17, n18, c19, s85, rs86, v24 + 1, H76, hle15.trans hle77, sl_canon ⟨rfl, rfl, rfl, rfl, trivial⟩, (Mem.pickT (L1 := [.box b31 43 [.int .i64 ((ix x1 v24).Volume), .int .i64 ((ix x1 v24).Start), .slice A29 n29 c29], .row (.slice A17 n18 c19) 41 1 n18 s85]) (T := rs86) hM [1] rfl rfl), hd87, (hn23).trans (put_len _ _ _).symm, (by rw [hrec26]; exact hm)⟩, Nat.lt_succ_self _⟩
  ·
   replace hm := And.right hm hc27
   refine CW.exit ?_
   refine CW.sr <| RW.st (Ex.move (.slice A17 n18 c19) rfl) rfl <| RW.st (Ex.assign (.slice A17 n18 c19) rfl) rfl <| RW.st (Ex.assign (.int .i64 0) rfl) rfl <| RW.st (Ex.assign (.int .i64 0) rfl) rfl <| RW.nil <| CW.ret ?_
   refine end_tmp3 (.inl rfl) rfl (.slice A17 n18 c19) (.int .i64 0) (.int .i64 0) rfl rfl rfl ?_
   exact ⟨_, _, hM, (v16, 0, 0), hm, A17, n18, c19, s20, rs21, rfl, hd22, hn23, rfl⟩
theorem pk25 (v : Value) (cs : List Value) : PkR Try.prog 25 v cs = (cs = [v]) := by kernel_rfl
set_option maxRecDepth 100000 in
theorem ok38 : ct38.Ok Try.prog tab gh := by
  intro x Φ hW H vs _ hA
  obtain ⟨v0, k0, q0, rfl, p0, r0, v1, k1, q1, rfl, p1, r1, hq⟩ := hA
  obtain rfl : q1 = [] := hq
  rw [pk33] at p0
  subst p0
  obtain ⟨A0, n0, c0, s0, e0, hF0⟩ := (show Dt.rd (α := List (List Sec)) H _ _ from r0)
  obtain rfl := (List.cons.inj e0).1
  rw [pk25] at p1
  subst p1
  obtain ⟨A1, n1, c1, s1, e1, hF1⟩ := (show Dt.rd (α := List api_Write) H _ _ from r1)
  obtain rfl := (List.cons.inj e1).1
  have hW : image_Apply_W x.1 x.2.1 (fun y => Φ (y.1, y.2.1, y.2.2, ())) := hW
  intro w hw
  refine (image_Apply_lift x.1 x.2.1 hF0 hF1 hW w hw).mono fun e w' ⟨v, H', L', h1, hM, y, hy, A, n, c, s, rs, hv, hd, hn, hL⟩ => ?_
  subst hL
  obtain ⟨H2, g1, g2, g3⟩ := DeepL.flat (es := [_]) hM hd
  refine ⟨v, H2, _, h1, g1, _, hy, fun nx ρ0 hn0 s' b m hre => ?_⟩
  rw [show resE Try.prog tab ct38.rs ct38.own (y.1, y.2.1, y.2.2, ()) nx = some (.tup [.own nx, .i .i64 y.2.1, .i .i64 y.2.2], [(nx, .row 41 y.1)], nx + 1) by kernel_rfl] at hre
  cases hre
  obtain ⟨f1, f2⟩ := fresh_put hn0 (.r A n c)
  exact ⟨ρ0.put nx (.r A n c), f1, Nat.le_succ _, f2, fun id hid => RM.put_ne _ _ (Nat.ne_of_lt hid), ⟨_, hv, _, _, rfl, ⟨A, n, c, RM.put_same _ _ _, rfl⟩, _, _, rfl, rfl, _, _, rfl, rfl, rfl⟩, _, _, rfl, ⟨A, n, c, s, RM.put_same _ _ _, rfl, g3, hn⟩, rfl⟩
theorem ok11 : ct11.Ok Try.prog tab gh := Ct.lift (E := ⟨Try.prog, tab, [ct36, ct37, ct38], pl11, [], gh, [], []⟩) ⟨tabOk, ⟨ok36, ok37, ok38, trivial⟩, mo, trivial, ghUp, trivial⟩ 9 ct11 fun x Φ => by rw [eq11]; exact id
theorem ok39 : ct39.Ok Try.prog tab gh := Ct.lift (E := ⟨Try.prog, tab, [], pl39, [], gh, [], []⟩) ⟨tabOk, trivial, mo, trivial, ghUp, trivial⟩ 9 ct39 fun x Φ => by rw [eq39]; exact id
theorem okT39 : ct39.Ok Try.prog tab ghT := Ct.lift (E := ⟨Try.prog, tab, [], pl39, [], ghT, [], []⟩) ⟨tabOk, trivial, mo, trivial, fun _ _ _ _ => trivial, trivial⟩ 9 ct39 fun x Φ => by
  have h : ct39.W x Φ = topF ⟨Try.prog, tab, [], pl39, [], ghT, [], []⟩ 9 ct39.f ct39.ps ct39.rs ct39.own x Φ := by kernel_rfl
  rw [h]; exact id
theorem ok12 : ct12.Ok Try.prog tab gh := Ct.lift (E := ⟨Try.prog, tab, [ct39], pl12, [], gh, [], []⟩) ⟨tabOk, ⟨ok39, trivial⟩, mo, trivial, ghUp, trivial⟩ 9 ct12 fun x Φ => by rw [eq12]; exact id
theorem ok43 : ct43.Ok Try.prog tab gh := Ct.lift (E := ⟨Try.prog, tab, [], pl43, [], gh, [], []⟩) ⟨tabOk, trivial, mo, trivial, ghUp, trivial⟩ 9 ct43 fun x Φ => by rw [eq43]; exact id
theorem ok14 : ct14.Ok Try.prog tab gh := Ct.lift (E := ⟨Try.prog, tab, [ct43], pl14, [], gh, [], []⟩) ⟨tabOk, ⟨ok43, trivial⟩, mo, trivial, ghUp, trivial⟩ 9 ct14 fun x Φ => by rw [eq14]; exact id
theorem okT61 : ct61.Ok Try.prog tab ghT := Ct.lift (E := ⟨Try.prog, tab, [], pl61, [], ghT, [], []⟩) ⟨tabOk, trivial, mo, trivial, fun _ _ _ _ => trivial, trivial⟩ 9 ct61 fun x Φ => by
  have h : ct61.W x Φ = topF ⟨Try.prog, tab, [], pl61, [], ghT, [], []⟩ 9 ct61.f ct61.ps ct61.rs ct61.own x Φ := by kernel_rfl
  rw [h]; exact id
theorem okT40 : ct40.Ok Try.prog tab ghT := Ct.lift (E := ⟨Try.prog, tab, [ct39, ct61], pl40, [], ghT, [], []⟩) ⟨tabOk, ⟨okT39, okT61, trivial⟩, mo, trivial, fun _ _ _ _ => trivial, trivial⟩ 9 ct40 fun x Φ => by
  have h : ct40.W x Φ = topF ⟨Try.prog, tab, [ct39, ct61], pl40, [], ghT, [], []⟩ 9 ct40.f ct40.ps ct40.rs ct40.own x Φ := by kernel_rfl
  rw [h]; exact id
theorem okT62 : ct62.Ok Try.prog tab ghT := Ct.lift (E := ⟨Try.prog, tab, [], pl62, [], ghT, [], []⟩) ⟨tabOk, trivial, mo, trivial, fun _ _ _ _ => trivial, trivial⟩ 9 ct62 fun x Φ => by
  have h : ct62.W x Φ = topF ⟨Try.prog, tab, [], pl62, [], ghT, [], []⟩ 9 ct62.f ct62.ps ct62.rs ct62.own x Φ := by kernel_rfl
  rw [h]; exact id
theorem okT42 : ct42.Ok Try.prog tab ghT := Ct.lift (E := ⟨Try.prog, tab, [ct40, ct61, ct62], pl42, [], ghT, [], []⟩) ⟨tabOk, ⟨okT40, okT61, okT62, trivial⟩, mo, trivial, fun _ _ _ _ => trivial, trivial⟩ 9 ct42 fun x Φ => by
  have h : ct42.W x Φ = topF ⟨Try.prog, tab, [ct40, ct61, ct62], pl42, [], ghT, [], []⟩ 9 ct42.f ct42.ps ct42.rs ct42.own x Φ := by kernel_rfl
  rw [h]; exact id
theorem ref07_Check_lift {H : Hp} (x0 : List (List Sec)) {A1 : Option Addr} {n1 c1 : Nat} {s1 : List Value} (hF1 : Fz (α := List Sec) H A1 n1 c1 x0 s1) {Φ : Int → Prop} (hm : ref07_Check_W x0 Φ) : RetP Try.prog 40 #[.slice A1 n1 c1] H (fun _ v L => ∃ y, Φ y ∧ v = .int .i64 (y) ∧ L = []) := by
  refine RetP.mono (okT40 (x0, ()) (fun y => Φ y.1) hm H [.slice A1 n1 c1] trivial ⟨_, [.slice A1 n1 c1], _, rfl, by rw [pk33], (show Dt.rd (α := List (List Sec)) H _ _ from ⟨A1, n1, c1, s1, rfl, hF1⟩), rfl⟩) fun H' v L _ ⟨y, hy, hr⟩ => ?_
  obtain ⟨ρ, _, _, _, _, h1, h2⟩ := hr 0 (fun _ => none) (fun _ _ => rfl) _ _ _ (show resE Try.prog tab _ _ y 0 = some (.i .i64 y.1, [], 0) by kernel_rfl)
  exact ⟨y.1, hy, h1, h2⟩
theorem ref07_CopyE_lift {H : Hp} (x0 : List (List Sec)) {A1 : Option Addr} {n1 c1 : Nat} {s1 : List Value} (hF1 : Fz (α := List Sec) H A1 n1 c1 x0 s1) {Φ : List (List Sec) → Prop} (hm : ref07_CopyE_W x0 Φ) : RetP Try.prog 41 #[.slice A1 n1 c1] H (fun H' v L => ∃ y, Φ y ∧ ∃ A38, ∃ n38, ∃ c38, ∃ s38, ∃ rs39, v = .slice A38 n38 c38 ∧ DeepL (α := List Sec) [72] H' s38 y rs39 ∧ n38 = y.length ∧ L = .row (.slice A38 n38 c38) 41 1 n38 s38 :: rs39) := by
 refine RetP.of_code Try.func41 rfl (nb rfl) fun w0 hM => ?_
 refine CW.sr <| RW.st (Ex.assign (.slice none 0 0) rfl) rfl <| RW.nil <| CW.sr <| RW.st (Ex.assign (.slice none 0 0) rfl) rfl <| RW.nil <| CW.seq <| CW.sr <| RW.st (Ex.assign (.int .i64 0) rfl) rfl <| RW.nil <| CW.block ?_
 obtain ⟨m37, hm⟩ := hm
 skip
 replace hM := hM.nilRow 41 1
 refine CW.loop (β := Nat) (fun n σ w => ∃ (v4 : List (List Sec)), ∃ (A5 : Option Addr), ∃ (n6 : Nat), ∃ (c7 : Nat), ∃ (s8 : List Value), ∃ (rs9 : List Ent), ∃ (v12 : Int), ∃ Hk2, H.le Hk2 ∧ (∃ τ, σ = sl [(0, .slice A1 n1 c1), (3, .slice A5 n6 c7), (4, .int .i64 v12)] τ) ∧ Mem w0 H w Hk2 (.row (.slice A5 n6 c7) 41 1 n6 s8 :: rs9) ∧ (DeepL (α := List Sec) [72] Hk2 s8 v4 rs9) ∧ (n6 = v4.length) ∧ LoopN (Z83 x0 Φ) n (v4, v12)) (fun n => n) m37 ⟨([] : List (List Sec)), none, 0, 0, [], [], 0, H, (Hp.le.refl _), sl_canon ⟨rfl, rfl, rfl, trivial⟩, hM, (DeepL.nil : DeepL (α := List Sec) [72] H [] [] []), rfl, hm⟩ ?_
 rintro k13 _ w ⟨v4, A5, n6, c7, s8, rs9, v12, Hk2, hle3, ⟨τ, rfl⟩, hM, hd10, hn11, hm⟩
 obtain _ | k13 := k13
 · exact hm.elim
 replace hm : (Z83 x0 Φ) (v4, v12) (LoopN (Z83 x0 Φ) k13) := hm
 generalize hrec14 : LoopN (Z83 x0 Φ) k13 = rec1 at hm
 refine CW.seq <| CW.sr <| RW.st (Ex.move (.int .i64 v12) rfl) rfl <| RW.st (Ex.move (.slice A1 n1 c1) rfl) rfl <| RW.st (Ex.lenN st33.1 rfl hF1.hn) rfl <| RW.st (Ex.lss rfl rfl) rfl <| RW.nil ?_
 refine CW.cond_dec (p := v12 < (x0.length : Int)) rfl (fun hc15 => ?_) (fun hc15 => ?_)
 ·
  replace hm := And.left hm hc15
  refine CW.skip <| CW.seq <| CW.block <| CW.sr <| RW.st (Ex.assign (.slice none 0 0) rfl) rfl <| RW.nil <| CW.region <| RW.st (Ex.move (.slice A5 n6 c7) rfl) rfl <| RW.st (Ex.move (.slice none 0 0) rfl) rfl <| RW.st (Ex.move (.slice A1 n1 c1) rfl) rfl <| RW.st (Ex.move (.int .i64 v12) rfl) rfl ?_
  obtain ⟨hg16, hm⟩ := hm
  refine RW.st (Ex.index st33 rfl rfl v12.toNat (hF1.ne hg16) hg16.nat (hF1.lt hg16)) rfl ?_
  obtain ⟨_, ⟨A17, n17, c17, s17, rfl, hF17⟩, hx18⟩ := DtL.getI (α := List Sec) (hF1.mono hle3).dat hg16
  refine RW.st (Ex.loadE hM hle3 hF1.rdc to41 rfl (hx18 0 _ rfl)) rfl ?_
  replace hM := hM.nilRow 72 8
  obtain ⟨hg25, hm⟩ := hm
  refine RW.appendF (α := Sec) (xs := ([] : List Sec)) (ys := (ix x0 v12)) hM 0 st41 rfl rfl (DtL.nil : DtL _ [] ([] : List Sec)) rfl rfl (Hp.le.refl _) hF17 hg25 rfl rfl ?_; intro A19 n20 c21 s22 w hd23 hn24 hM
  refine RW.buildSlice hM st33 tz41 [(0, .slice A19 n20 c21)] [.slice A19 n20 c21] (by decide) rfl rfl rfl (by decide) rfl rfl ?_; intro b26 w hM
  obtain ⟨hg32, hm⟩ := hm
  refine RW.appendH (α := List Sec) (xs := v4) (x0 := (([] : List Sec) ++ (ix x0 v12))) hM 2 st33 rfl rfl hn11 rfl (fun j u hj => hM.rowCell (k := 0) rfl rfl hj) rfl (oneAll ⟨rfl, trivial⟩) hg32 rfl rfl ?_; intro A28 n29 c30 w hn31 hM
  obtain ⟨s33, rs34, hd35, hM⟩ := Mem.adopt (α := List Sec) (Ts := [72]) (x := (([] : List Sec) ++ (ix x0 v12))) [.row (.slice (some ⟨b26, 0, none⟩) 1 1) 41 1 1 [.slice A19 n20 c21], .row (.slice A28 n29 c30) 41 1 n29 (s8 ++ [.slice A19 n20 c21])] (Mem.pickT (L1 := [.row (.slice (some ⟨b26, 0, none⟩) 1 1) 41 1 1 [.slice A19 n20 c21], .row (.slice A19 n20 c21) 72 8 n20 s22, .row (.slice A28 n29 c30) 41 1 n29 (s8 ++ [.slice A19 n20 c21])]) (T := rs9) hM [1, 0, 2] rfl rfl) 1 rfl hd10 ⟨A19, n20, c21, s22, rfl, rfl, hd23, hn24⟩
  replace hM : Mem w0 H w Hk2 (.row (.slice A28 n29 c30) 41 1 n29 s33 :: rs34) := Mem.pickT (L1 := [.row (.slice (some ⟨b26, 0, none⟩) 1 1) 41 1 1 [.slice A19 n20 c21], .row (.slice A28 n29 c30) 41 1 n29 s33]) (T := rs34) hM [1] rfl rfl
  refine RW.st (Ex.assign (.slice A28 n29 c30) rfl) rfl <| RW.nil <| CW.region <| RW.st (Ex.move (.int .i64 v12) rfl) rfl ?_
  obtain ⟨hg36, hm⟩ := hm
  refine RW.st (Ex.add rfl rfl hg36.1 hg36.2) rfl <| RW.st (Ex.assign (.int .i64 (v12 + 1)) rfl) rfl <| RW.nil ?_
  exact And.intro rfl ⟨k13, ⟨(v4 ++ [(([] : List Sec) ++ (ix x0 v12))]), A28, n29, c30, s33, rs34, v12 + 1, Hk2, hle3.trans (Hp.le.refl _), sl_canon ⟨rfl, rfl, rfl, trivial⟩, hM, hd35, hn31, (by rw [hrec14]; exact hm)⟩, Nat.lt_succ_self _⟩
 ·
  replace hm := And.right hm hc15
  refine CW.exit ?_
  refine CW.sr <| RW.st (Ex.move (.slice A5 n6 c7) rfl) rfl <| RW.st (Ex.assign (.slice A5 n6 c7) rfl) rfl <| RW.nil <| CW.ret ?_
  refine end_tmp (.inl rfl) rfl (.slice A5 n6 c7) rfl ?_
  exact ⟨_, _, hM, v4, hm, A5, n6, c7, s8, rs9, rfl, hd10, hn11, rfl⟩
theorem ref07_Fits_lift {H : Hp} (x0 : List (List Sec)) (x1 : api_Write) {A1 : Option Addr} {n1 c1 : Nat} {s1 : List Value} (hF1 : Fz (α := List Sec) H A1 n1 c1 x0 s1) {A2 : Option Addr} {n2 c2 : Nat} {s2 : List Value} (hF2 : Fz (α := Sec) H A2 n2 c2 x1.Data s2) {Φ : Int → Prop} (hm : ref07_Fits_W x0 x1 Φ) : RetP Try.prog 42 #[.slice A1 n1 c1, .agg #[.int .i64 (x1.Volume), .int .i64 (x1.Start), .slice A2 n2 c2]] H (fun _ v L => ∃ y, Φ y ∧ v = .int .i64 (y) ∧ L = []) := by
  refine RetP.mono (okT42 (x0, x1, ()) (fun y => Φ y.1) hm H [.slice A1 n1 c1, .agg #[.int .i64 (x1.Volume), .int .i64 (x1.Start), .slice A2 n2 c2]] trivial ⟨_, [.slice A1 n1 c1], _, rfl, by rw [pk33], (show Dt.rd (α := List (List Sec)) H _ _ from ⟨A1, n1, c1, s1, rfl, hF1⟩), ⟨_, [.int .i64 (x1.Volume), .int .i64 (x1.Start), .slice A2 n2 c2], _, rfl, by rw [pk43], (show Dt.rd (α := api_Write) H _ _ from ⟨A2, n2, c2, s2, rfl, hF2⟩), rfl⟩⟩) fun H' v L _ ⟨y, hy, hr⟩ => ?_
  obtain ⟨ρ, _, _, _, _, h1, h2⟩ := hr 0 (fun _ => none) (fun _ _ => rfl) _ _ _ (show resE Try.prog tab _ _ y 0 = some (.i .i64 y.1, [], 0) by kernel_rfl)
  exact ⟨y.1, hy, h1, h2⟩
theorem ref07_Apply_lift {H : Hp} (x0 : List (List Sec)) (x1 : List api_Write) {A1 : Option Addr} {n1 c1 : Nat} {s1 : List Value} (hF1 : Fz (α := List Sec) H A1 n1 c1 x0 s1) {A2 : Option Addr} {n2 c2 : Nat} {s2 : List Value} (hF2 : Fz (α := api_Write) H A2 n2 c2 x1 s2) {Φ : List (List Sec) × Int × Int → Prop} (hm : ref07_Apply_W x0 x1 Φ) : RetP Try.prog 13 #[.slice A1 n1 c1, .slice A2 n2 c2] H (fun H' v L => ∃ y, Φ y ∧ ∃ A70, ∃ n70, ∃ c70, ∃ s70, ∃ rs71, v = .tuple #[.slice A70 n70 c70, .int .i64 (y.2.1), .int .i64 (y.2.2)] ∧ DeepL (α := List Sec) [72] H' s70 y.1 rs71 ∧ n70 = y.1.length ∧ L = .row (.slice A70 n70 c70) 41 1 n70 s70 :: rs71) := by
 refine RetP.of_code Try.func13 rfl (nb rfl) fun w0 hM => ?_
 refine CW.sr <| RW.st (Ex.assign (.slice none 0 0) rfl) rfl <| RW.st (Ex.assign (.int .i64 0) rfl) rfl <| RW.st (Ex.assign (.int .i64 0) rfl) rfl <| RW.nil <| CW.seq <| CW.sr <| RW.st (Ex.move (.slice A1 n1 c1) rfl) rfl ?_
 refine RW.callP hM (ref07_Check_lift x0 hF1 hm) en40 rfl rfl rfl rfl ?_; rintro _ w H4 _ hle5 ⟨v3, hm, rfl, rfl⟩ hM
 refine RW.st (Ex.assign (.int .i64 v3) rfl) rfl <| RW.nil <| CW.sr <| RW.st (Ex.move (.int .i64 v3) rfl) rfl <| RW.st (Ex.neq rfl rfl) rfl <| RW.nil ?_
 refine CW.cond_dec (p := v3 ≠ 0) rfl (fun hc6 => ?_) (fun hc6 => ?_)
 ·
  replace hm := And.left hm hc6
  refine CW.sr <| RW.st (Ex.move (.int .i64 v3) rfl) rfl <| RW.st (Ex.assign (.slice none 0 0) rfl) rfl <| RW.st (Ex.assign (.int .i64 0) rfl) rfl <| RW.st (Ex.assign (.int .i64 v3) rfl) rfl <| RW.nil <| CW.ret ?_
  refine thenQ_ret ?_
  refine end_tmp3 (.inl rfl) rfl (.slice none 0 0) (.int .i64 0) (.int .i64 v3) rfl rfl rfl ?_
  replace hM := hM.nilRow 41 1
  exact ⟨_, _, hM, (([] : List (List Sec)), 0, v3), hm, none, 0, 0, [], [], rfl, (DeepL.nil : DeepL (α := List Sec) [72] H4 [] [] []), rfl, rfl⟩
 ·
  replace hm := And.right hm hc6
  refine CW.skip <| CW.sr <| RW.st (Ex.move (.slice A1 n1 c1) rfl) rfl ?_
  refine RW.callP hM (ref07_CopyE_lift x0 (hF1.mono hle5) hm) en41 rfl rfl rfl rfl ?_; rintro _ w H8 _ hle9 ⟨v7, hm, A10, n10, c10, s10, rs11, rfl, hd12, hn13, rfl⟩ hM
  replace hM := Mem.toTail (a := [.row (.slice A10 n10 c10) 41 1 n10 s10]) (b := rs11) (c := []) hM
  refine RW.st (Ex.assign (.slice A10 n10 c10) rfl) rfl <| RW.nil <| CW.seq <| CW.sr <| RW.st (Ex.assign (.int .i64 0) rfl) rfl <| RW.nil <| CW.block ?_
  obtain ⟨m69, hm⟩ := hm
  skip
  refine CW.loop (β := Nat) (fun n σ w => ∃ (v16 : List (List Sec)), ∃ (A17 : Option Addr), ∃ (n18 : Nat), ∃ (c19 : Nat), ∃ (s20 : List Value), ∃ (rs21 : List Ent), ∃ (v24 : Int), ∃ Hk14, H8.le Hk14 ∧ (∃ τ, σ = sl [(0, .slice A1 n1 c1), (1, .slice A2 n2 c2), (8, .slice A17 n18 c19), (9, .int .i64 v24)] τ) ∧ Mem w0 H w Hk14 (.row (.slice A17 n18 c19) 41 1 n18 s20 :: rs21) ∧ (DeepL (α := List Sec) [72] Hk14 s20 v16 rs21) ∧ (n18 = v16.length) ∧ LoopN (Z85 x0 x1 Φ) n (v16, v24)) (fun n => n) m69 ⟨v7, A10, n10, c10, s10, rs11, 0, H8, (Hp.le.refl _), sl_canon ⟨rfl, rfl, rfl, rfl, trivial⟩, hM, hd12, hn13, hm⟩ ?_
  rintro k25 _ w ⟨v16, A17, n18, c19, s20, rs21, v24, Hk14, hle15, ⟨τ, rfl⟩, hM, hd22, hn23, hm⟩
  obtain _ | k25 := k25
  · exact hm.elim
  replace hm : (Z85 x0 x1 Φ) (v16, v24) (LoopN (Z85 x0 x1 Φ) k25) := hm
  generalize hrec26 : LoopN (Z85 x0 x1 Φ) k25 = rec1 at hm
  refine CW.seq <| CW.sr <| RW.st (Ex.move (.int .i64 v24) rfl) rfl <| RW.st (Ex.move (.slice A2 n2 c2) rfl) rfl <| RW.st (Ex.lenN st25.1 rfl hF2.hn) rfl <| RW.st (Ex.lss rfl rfl) rfl <| RW.nil ?_
  refine CW.cond_dec (p := v24 < (x1.length : Int)) rfl (fun hc27 => ?_) (fun hc27 => ?_)
  ·
   replace hm := And.left hm hc27
   refine CW.skip <| CW.seq <| CW.block <| CW.seq <| CW.sr <| RW.st (Ex.move (.slice A1 n1 c1) rfl) rfl <| RW.st (Ex.move (.slice A2 n2 c2) rfl) rfl <| RW.st (Ex.move (.int .i64 v24) rfl) rfl ?_
   obtain ⟨hg28, hm⟩ := hm
   refine RW.st (Ex.index st25 rfl rfl v24.toNat (hF2.ne hg28) hg28.nat (hF2.lt hg28)) rfl ?_
   obtain ⟨_, ⟨A29, n29, c29, s29, rfl, hF29⟩, hx30⟩ := DtL.getI (α := api_Write) (hF2.mono ((hle5.trans hle9).trans hle15)).dat hg28
   refine RW.st (Ex.loadEA hM ((hle5.trans hle9).trans hle15) hF2.rdc [.int .i64 ((ix x1 v24).Volume), .int .i64 ((ix x1 v24).Start), .slice A29 n29 c29] ta43 rfl (hF2.ne hg28) rfl (chunk_sub (off := 0) (n := 3) hx30 rfl)) rfl ?_
   refine RW.callP hM (ref07_Fits_lift x0 (ix x1 v24) (hF1.mono ((hle5.trans hle9).trans hle15)) hF29 hm) en42 rfl rfl rfl rfl ?_; rintro _ w H32 _ hle33 ⟨v31, hm, rfl, rfl⟩ hM
   refine RW.st (Ex.assign (.int .i64 v31) rfl) rfl <| RW.nil <| CW.sr <| RW.st (Ex.move (.int .i64 v31) rfl) rfl <| RW.st (Ex.neq rfl rfl) rfl <| RW.nil ?_
   refine CW.cond_dec (p := v31 ≠ 0) rfl (fun hc34 => ?_) (fun hc34 => ?_)
   ·
    replace hm := And.left hm hc34
    refine CW.sr <| RW.st (Ex.move (.int .i64 v24) rfl) rfl <| RW.st (Ex.move (.int .i64 v31) rfl) rfl <| RW.st (Ex.assign (.slice none 0 0) rfl) rfl <| RW.st (Ex.assign (.int .i64 v24) rfl) rfl <| RW.st (Ex.assign (.int .i64 v31) rfl) rfl <| RW.nil <| CW.ret ?_
    refine thenQ_ret (blockQ_ret (thenQ_ret (thenQ_ret (blockQ_ret (thenQ_ret ?_)))))
    refine end_tmp3 (.inl rfl) rfl (.slice none 0 0) (.int .i64 v24) (.int .i64 v31) rfl rfl rfl ?_
    replace hM := hM.nilRow 41 1
    exact ⟨_, _, ((Mem.dropT (L1 := [.row (.slice none 0 0) 41 1 0 [], .row (.slice A17 n18 c19) 41 1 n18 s20]) (T := rs21) hM).pick [0] rfl rfl), (([] : List (List Sec)), v24, v31), hm, none, 0, 0, [], [], rfl, (DeepL.nil : DeepL (α := List Sec) [72] H32 [] [] []), rfl, rfl⟩
   ·
    replace hm := And.right hm hc34
    refine CW.skip <| CW.sr <| RW.st (Ex.assign (.int .i64 0) rfl) rfl <| RW.nil <| CW.block ?_
    obtain ⟨m68, hm⟩ := hm
    skip
    refine CW.loop (β := Nat) (fun n σ w => ∃ (v37 : List (List Sec)), ∃ (A38 : Option Addr), ∃ (n39 : Nat), ∃ (c40 : Nat), ∃ (s41 : List Value), ∃ (rs42 : List Ent), ∃ (v45 : Int), ∃ Hk35, H32.le Hk35 ∧ (∃ τ, σ = sl [(0, .slice A1 n1 c1), (1, .slice A2 n2 c2), (8, .slice A38 n39 c40), (9, .int .i64 v24), (11, .int .i64 v45)] τ) ∧ Mem w0 H w Hk35 (.row (.slice A38 n39 c40) 41 1 n39 s41 :: rs42) ∧ (DeepL (α := List Sec) [72] Hk35 s41 v37 rs42) ∧ (n39 = v37.length) ∧ LoopN (Z84 x1 v24 rec1 Φ) n (v37, v45)) (fun n => n) m68 ⟨v16, A17, n18, c19, s20, rs21, 0, H32, (Hp.le.refl _), sl_canon ⟨rfl, rfl, rfl, rfl, rfl, trivial⟩, hM, (hd22.mono hle33), hn23, hm⟩ ?_
    rintro k46 _ w ⟨v37, A38, n39, c40, s41, rs42, v45, Hk35, hle36, ⟨τ, rfl⟩, hM, hd43, hn44, hm⟩
    obtain _ | k46 := k46
    · exact hm.elim
    replace hm : (Z84 x1 v24 rec1 Φ) (v37, v45) (LoopN (Z84 x1 v24 rec1 Φ) k46) := hm
    generalize hrec47 : LoopN (Z84 x1 v24 rec1 Φ) k46 = rec2 at hm
    refine CW.seq <| CW.sr <| RW.st (Ex.move (.int .i64 v45) rfl) rfl <| RW.st (Ex.move (.slice A2 n2 c2) rfl) rfl <| RW.st (Ex.move (.int .i64 v24) rfl) rfl <| RW.st (Ex.index st25 rfl rfl v24.toNat (hF2.ne hg28) hg28.nat (hF2.lt hg28)) rfl <| RW.st (Ex.fieldE fa43_2 (hF2.ne hg28) rfl) rfl <| RW.st (Ex.loadE hM ((((hle5.trans hle9).trans hle15).trans hle33).trans hle36) hF2.rdc to41 rfl (hx30 2 _ rfl)) rfl <| RW.st (Ex.lenN st41.1 rfl hF29.hn) rfl <| RW.st (Ex.lss rfl rfl) rfl <| RW.nil ?_
    refine CW.cond_dec (p := v45 < (((ix x1 v24).Data).length : Int)) rfl (fun hc48 => ?_) (fun hc48 => ?_)
    ·
     replace hm := And.left hm hc48
     refine CW.skip <| CW.seq <| CW.block ?_
     obtain ⟨hg49, hm⟩ := hm
     obtain ⟨c51, _, c52, _, rs53, rfl, ⟨A50, n50, c50, s50, rfl, rfl, hF50, hn55⟩, hh54, hM⟩ := Mem.focus [.row (.slice A38 n39 c40) 41 1 n39 s41] hM hd43 hg49
     have hx56 := Hole.get (ch := [.slice A50 n50 c50]) hh54
     obtain ⟨hg57, hm⟩ := hm
     obtain ⟨hg58, hm⟩ := hm
     obtain ⟨_, rfl, hx59⟩ := DtL.getI (α := Sec) (hF29.mono (hle33.trans hle36)).dat hg58
     refine CW.drawE 23 [.slice A38 n39 c40, .slice A2 n2 c2, .int .i64 v24, elp A2 (v24.toNat * 3 + 0), elp A2 (v24.toNat * 3 + 0), .int .i64 ((ix x1 v24).Volume), elp A38 ((((ix x1 v24).Volume).toNat) * 1 + 0), .slice A50 n50 c50, .slice A2 n2 c2, .int .i64 v24, elp A2 (v24.toNat * 3 + 0), elp A2 (v24.toNat * 3 + 1), .int .i64 ((ix x1 v24).Start), .int .i64 v45, .int .i64 (((ix x1 v24).Start) + v45), .slice A2 n2 c2, .int .i64 v24, elp A2 (v24.toNat * 3 + 0), elp A2 (v24.toNat * 3 + 2), .slice A29 n29 c29, .int .i64 v45, elp A29 (v45.toNat * 8 + 0), .agg #[u8 (ix ((ix x1 v24).Data) v45).b0, u8 (ix ((ix x1 v24).Data) v45).b1, u8 (ix ((ix x1 v24).Data) v45).b2, u8 (ix ((ix x1 v24).Data) v45).b3, u8 (ix ((ix x1 v24).Data) v45).b4, u8 (ix ((ix x1 v24).Data) v45).b5, u8 (ix ((ix x1 v24).Data) v45).b6, u8 (ix ((ix x1 v24).Data) v45).b7]]
      [[(8, none)], [(1, none)], [(9, none)], [(46, some 1), (47, some 2)], [(48, some 3)], [(49, some 4)], [(45, some 0), (50, some 5)], [(51, some 6)], [(1, none)], [(9, none)], [(53, some 8), (54, some 9)], [(55, some 10)], [(56, some 11)], [(11, none)], [(57, some 12), (58, some 13)], [(1, none)], [(9, none)], [(60, some 15), (61, some 16)], [(62, some 17)], [(63, some 18)], [(11, none)], [(64, some 19), (65, some 20)], [(66, some 21)]] [(0, none), (1, none), (8, none), (9, none), (11, none), (52, some 7), (59, some 14), (67, some 22)] (by kernel_rfl) hM (by kernel_rfl) ⟨?_, ?_, ?_, ?_, ?_, ?_, ?_, ?_, ?_, ?_, ?_, ?_, ?_, ?_, ?_, ?_, ?_, ?_, ?_, ?_, ?_, ?_, ?_, trivial⟩ ?_
     · exact One.ex (fun H' τ w hled hM => Ex.move (.slice A38 n39 c40) rfl) rfl (fun _ => rfl) rfl
     · exact One.ex (fun H' τ w hled hM => Ex.move (.slice A2 n2 c2) rfl) rfl (fun _ => rfl) rfl
     · exact One.ex (fun H' τ w hled hM => Ex.move (.int .i64 v24) rfl) rfl (fun _ => rfl) rfl
     · exact One.ex (fun H' τ w hled hM => Ex.index st25 rfl rfl v24.toNat (hF2.ne hg28) hg28.nat (hF2.lt hg28)) rfl (fun _ => rfl) rfl
     · exact One.ex (fun H' τ w hled hM => Ex.fieldE fa43_0 (hF2.ne hg28) rfl) rfl (fun _ => rfl) rfl
     · exact One.ex (fun H' τ w hled hM => Ex.loadE hM (((((hle5.trans hle9).trans hle15).trans hle33).trans hle36).trans hled) hF2.rdc to3 rfl (hx30 0 _ rfl)) rfl (fun _ => rfl) rfl
     · exact One.ex (fun H' τ w hled hM => Ex.index st33 rfl rfl (((ix x1 v24).Volume).toNat) (hM.rowNeD (α := List Sec) (p := 1) rfl hn44 hg49) hg49.nat (Nat.lt_of_lt_of_eq hg49.lt (hn44).symm)) rfl (fun _ => rfl) rfl
     · exact One.ex (fun H' τ w hled hM => Ex.loadR hM 1 rfl to41 (hM.rowNeD (α := List Sec) (p := 1) rfl hn44 hg49) rfl (hx56 0 _ rfl)) rfl (fun _ => rfl) rfl
     · exact One.ex (fun H' τ w hled hM => Ex.move (.slice A2 n2 c2) rfl) rfl (fun _ => rfl) rfl
     · exact One.ex (fun H' τ w hled hM => Ex.move (.int .i64 v24) rfl) rfl (fun _ => rfl) rfl
     · exact One.ex (fun H' τ w hled hM => Ex.index st25 rfl rfl v24.toNat (hF2.ne hg28) hg28.nat (hF2.lt hg28)) rfl (fun _ => rfl) rfl
     · exact One.ex (fun H' τ w hled hM => Ex.fieldE fa43_1 (hF2.ne hg28) rfl) rfl (fun _ => rfl) rfl
     · exact One.ex (fun H' τ w hled hM => Ex.loadE hM (((((hle5.trans hle9).trans hle15).trans hle33).trans hle36).trans hled) hF2.rdc to3 rfl (hx30 1 _ rfl)) rfl (fun _ => rfl) rfl
     · exact One.ex (fun H' τ w hled hM => Ex.move (.int .i64 v45) rfl) rfl (fun _ => rfl) rfl
     · exact One.ex (fun H' τ w hled hM => Ex.add rfl rfl hg57.1 hg57.2) rfl (fun _ => rfl) rfl
     · exact One.ex (fun H' τ w hled hM => Ex.move (.slice A2 n2 c2) rfl) rfl (fun _ => rfl) rfl
     · exact One.ex (fun H' τ w hled hM => Ex.move (.int .i64 v24) rfl) rfl (fun _ => rfl) rfl
     · exact One.ex (fun H' τ w hled hM => Ex.index st25 rfl rfl v24.toNat (hF2.ne hg28) hg28.nat (hF2.lt hg28)) rfl (fun _ => rfl) rfl
     · exact One.ex (fun H' τ w hled hM => Ex.fieldE fa43_2 (hF2.ne hg28) rfl) rfl (fun _ => rfl) rfl
     · exact One.ex (fun H' τ w hled hM => Ex.loadE hM (((((hle5.trans hle9).trans hle15).trans hle33).trans hle36).trans hled) hF2.rdc to41 rfl (hx30 2 _ rfl)) rfl (fun _ => rfl) rfl
     · exact One.ex (fun H' τ w hled hM => Ex.move (.int .i64 v45) rfl) rfl (fun _ => rfl) rfl
     · exact One.ex (fun H' τ w hled hM => Ex.index st41 rfl rfl v45.toNat (hF29.ne hg58) hg58.nat (hF29.lt hg58)) rfl (fun _ => rfl) rfl
     · exact One.ex (fun H' τ w hled hM => Ex.loadEA hM ((hle33.trans hle36).trans hled) hF29.rdc [u8 (ix ((ix x1 v24).Data) v45).b0, u8 (ix ((ix x1 v24).Data) v45).b1, u8 (ix ((ix x1 v24).Data) v45).b2, u8 (ix ((ix x1 v24).Data) v45).b3, u8 (ix ((ix x1 v24).Data) v45).b4, u8 (ix ((ix x1 v24).Data) v45).b5, u8 (ix ((ix x1 v24).Data) v45).b6, u8 (ix ((ix x1 v24).Data) v45).b7] ta72 rfl (hF29.ne hg58) rfl (chunk_sub (off := 0) (n := 8) hx59 rfl)) rfl (fun _ => rfl) rfl
     intro τ w hM
     change RW _ _ _ _ _ _ _ _ (sl [(0, .slice A1 n1 c1), (1, .slice A2 n2 c2), (8, .slice A38 n39 c40), (9, .int .i64 v24), (11, .int .i64 v45), (52, .slice A50 n50 c50), (59, .int .i64 (((ix x1 v24).Start) + v45)), (67, .agg #[u8 (ix ((ix x1 v24).Data) v45).b0, u8 (ix ((ix x1 v24).Data) v45).b1, u8 (ix ((ix x1 v24).Data) v45).b2, u8 (ix ((ix x1 v24).Data) v45).b3, u8 (ix ((ix x1 v24).Data) v45).b4, u8 (ix ((ix x1 v24).Data) v45).b5, u8 (ix ((ix x1 v24).Data) v45).b6, u8 (ix ((ix x1 v24).Data) v45).b7])] τ) _
     obtain ⟨hg60, hm⟩ := hm
     refine RW.st (Ex.index st41 rfl rfl ((((ix x1 v24).Start) + v45).toNat) (hM.rowNeD (α := Sec) (p := 0) rfl hn55 hg60) hg60.nat (Nat.lt_of_lt_of_eq hg60.lt (hn55).symm)) rfl ?_
     refine RW.storeD (α := Sec) (off := 0) (x' := (ix ((ix x1 v24).Data) v45)) hM 0 hF50 (.agg #[u8 (ix ((ix x1 v24).Data) v45).b0, u8 (ix ((ix x1 v24).Data) v45).b1, u8 (ix ((ix x1 v24).Data) v45).b2, u8 (ix ((ix x1 v24).Data) v45).b3, u8 (ix ((ix x1 v24).Data) v45).b4, u8 (ix ((ix x1 v24).Data) v45).b5, u8 (ix ((ix x1 v24).Data) v45).b6, u8 (ix ((ix x1 v24).Data) v45).b7]) [u8 (ix ((ix x1 v24).Data) v45).b0, u8 (ix ((ix x1 v24).Data) v45).b1, u8 (ix ((ix x1 v24).Data) v45).b2, u8 (ix ((ix x1 v24).Data) v45).b3, u8 (ix ((ix x1 v24).Data) v45).b4, u8 (ix ((ix x1 v24).Data) v45).b5, u8 (ix ((ix x1 v24).Data) v45).b6, u8 (ix ((ix x1 v24).Data) v45).b7] sz72 rfl hn55 hg60 (nb rfl) rfl rfl (oneAll ⟨rfl, rfl, rfl, rfl, rfl, rfl, rfl, rfl, trivial⟩) rfl (fun ch h => rdWhole h (show Dt.rd (α := Sec) _ [u8 (ix ((ix x1 v24).Data) v45).b0, u8 (ix ((ix x1 v24).Data) v45).b1, u8 (ix ((ix x1 v24).Data) v45).b2, u8 (ix ((ix x1 v24).Data) v45).b3, u8 (ix ((ix x1 v24).Data) v45).b4, u8 (ix ((ix x1 v24).Data) v45).b5, u8 (ix ((ix x1 v24).Data) v45).b6, u8 (ix ((ix x1 v24).Data) v45).b7] (ix ((ix x1 v24).Data) v45) from rfl)) rfl rfl ?_
     intro s61 w hd62 hM
     refine RW.nil <| CW.region <| RW.st (Ex.move (.int .i64 v45) rfl) rfl ?_
     obtain ⟨hg63, hm⟩ := hm
     refine RW.st (Ex.add rfl rfl hg63.1 hg63.2) rfl <| RW.st (Ex.assign (.int .i64 (v45 + 1)) rfl) rfl <| RW.nil ?_
     obtain ⟨s64, rs65, hd66, hM⟩ := Mem.unfocus (α := List Sec) (Ts := [72]) (x := (put (ix v37 ((ix x1 v24).Volume)) (((ix x1 v24).Start) + v45) (ix ((ix x1 v24).Data) v45))) [.row (.slice A38 n39 c40) 41 1 n39 (c51 ++ ([.slice A50 n50 c50] ++ c52))] hM 0 rfl hh54 ⟨A50, n50, c50, s61, rfl, rfl, hd62, (hn55).trans (put_len _ _ _).symm⟩
     exact And.intro rfl ⟨k46, ⟨(put v37 ((ix x1 v24).Volume) (put (ix v37 ((ix x1 v24).Volume)) (((ix x1 v24).Start) + v45) (ix ((ix x1 v24).Data) v45))), A38, n39, c40, s64, rs65, v45 + 1, Hk35, hle36.trans (Hp.le.refl _), sl_canon ⟨rfl, rfl, rfl, rfl, rfl, trivial⟩, hM, hd66, (hn44).trans (put_len _ _ _).symm, (by rw [hrec47]; exact hm)⟩, Nat.lt_succ_self _⟩
    ·
     replace hm := And.right hm hc48
     refine CW.exit ?_
     refine CW.region <| RW.st (Ex.move (.int .i64 v24) rfl) rfl ?_
     obtain ⟨hg67, hm⟩ := hm
     refine RW.st (Ex.add rfl rfl hg67.1 hg67.2) rfl <| RW.st (Ex.assign (.int .i64 (v24 + 1)) rfl) rfl <| RW.nil ?_
     exact And.intro rfl ⟨k25, ⟨v37, A38, n39, c40, s41, rs42, v24 + 1, Hk35, hle15.trans (hle33.trans hle36), sl_canon ⟨rfl, rfl, rfl, rfl, trivial⟩, hM, hd43, hn44, (by rw [hrec26]; exact hm)⟩, Nat.lt_succ_self _⟩
  ·
   replace hm := And.right hm hc27
   refine CW.exit ?_
   refine CW.sr <| RW.st (Ex.move (.slice A17 n18 c19) rfl) rfl <| RW.st (Ex.assign (.slice A17 n18 c19) rfl) rfl <| RW.st (Ex.assign (.int .i64 0) rfl) rfl <| RW.st (Ex.assign (.int .i64 0) rfl) rfl <| RW.nil <| CW.ret ?_
   refine end_tmp3 (.inl rfl) rfl (.slice A17 n18 c19) (.int .i64 0) (.int .i64 0) rfl rfl rfl ?_
   exact ⟨_, _, hM, (v16, 0, 0), hm, A17, n18, c19, s20, rs21, rfl, hd22, hn23, rfl⟩
set_option maxRecDepth 100000 in
theorem ok13 : ct13.Ok Try.prog tab gh := by
  intro x Φ hW H vs _ hA
  obtain ⟨v0, k0, q0, rfl, p0, r0, v1, k1, q1, rfl, p1, r1, hq⟩ := hA
  obtain rfl : q1 = [] := hq
  rw [pk33] at p0
  subst p0
  obtain ⟨A0, n0, c0, s0, e0, hF0⟩ := (show Dt.rd (α := List (List Sec)) H _ _ from r0)
  obtain rfl := (List.cons.inj e0).1
  rw [pk25] at p1
  subst p1
  obtain ⟨A1, n1, c1, s1, e1, hF1⟩ := (show Dt.rd (α := List api_Write) H _ _ from r1)
  obtain rfl := (List.cons.inj e1).1
  have hW : ref07_Apply_W x.1 x.2.1 (fun y => Φ (y.1, y.2.1, y.2.2, ())) := hW
  intro w hw
  refine (ref07_Apply_lift x.1 x.2.1 hF0 hF1 hW w hw).mono fun e w' ⟨v, H', L', h1, hM, y, hy, A, n, c, s, rs, hv, hd, hn, hL⟩ => ?_
  subst hL
  obtain ⟨H2, g1, g2, g3⟩ := DeepL.flat (es := [_]) hM hd
  refine ⟨v, H2, _, h1, g1, _, hy, fun nx ρ0 hn0 s' b m hre => ?_⟩
  rw [show resE Try.prog tab ct13.rs ct13.own (y.1, y.2.1, y.2.2, ()) nx = some (.tup [.own nx, .i .i64 y.2.1, .i .i64 y.2.2], [(nx, .row 41 y.1)], nx + 1) by kernel_rfl] at hre
  cases hre
  obtain ⟨f1, f2⟩ := fresh_put hn0 (.r A n c)
  exact ⟨ρ0.put nx (.r A n c), f1, Nat.le_succ _, f2, fun id hid => RM.put_ne _ _ (Nat.ne_of_lt hid), ⟨_, hv, _, _, rfl, ⟨A, n, c, RM.put_same _ _ _, rfl⟩, _, _, rfl, rfl, _, _, rfl, rfl, rfl⟩, _, _, rfl, ⟨A, n, c, s, RM.put_same _ _ _, rfl, g3, hn⟩, rfl⟩
theorem ok3 : ct3.Ok Try.prog tab gh := Ct.lift (E := ⟨Try.prog, tab, [ct4, ct5, ct6, ct7, ct8, ct9, ct10, ct11, ct12, ct13, ct14], pl3, [], gh, [], [([1, 1000177], 3), ([1, 1000183], 3), ([9, 11, 0, 1, 1, 1, 1, 2, 1, 0, 1, 4, 0, 1, 5, 4, 1, 0, 1, 1, 1, 1, 1, 1, 1, 1], 3), ([9, 14, 1, 4, 0, 1, 5, 4, 1, 0, 1, 1, 1, 1, 1, 1, 1, 1, 1, 1, 4, 0, 1, 5, 4, 1, 0, 1, 1, 1, 1, 1, 1, 1, 1], 3)]⟩) ⟨tabOk, ⟨ok4, ok5, ok6, ok7, ok8, ok9, ok10, ok11, ok12, ok13, ok14, trivial⟩, mo, trivial, ghUp, trivial⟩ 9 ct3 fun x Φ => by rw [eq3]; exact id
end Go.Proofs.Ytcobdlnefjdhgaa
