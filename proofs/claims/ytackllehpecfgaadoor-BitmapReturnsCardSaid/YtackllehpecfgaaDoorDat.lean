/- Data with depth: what a value holds in a heap that nobody writes; how an argument that can be read holds such data. No program in sight. -/
import Derived.Test.YtackllehpecfgaaDoorMore
import Derived.ProofKit
import Derived.Carry
namespace Go.Proofs.YtackllehpecfgaaDoor
open Go.RowKit Go.ChangeShapes Go.WideShapes

class Dat (α : Type) where
  sz : Nat
  Rd : Hp → List Value → α → Prop
  len : ∀ {H cs a}, Rd H cs a → cs.length = sz
  mono : ∀ {H H' cs a}, Rd H cs a → H.le H' → Rd H' cs a

instance datInt : Dat Int := ⟨1, fun _ cs x => cs = [.int .i64 x] ∧ -9223372036854775808 ≤ x ∧ x ≤ 9223372036854775807, fun h => by rw [h.1]; rfl, fun h _ => h⟩
instance datU64 : Dat (BitVec 64) := ⟨1, fun _ cs x => cs = [u64 x], fun h => by rw [h]; rfl, fun h _ => h⟩
instance datBool : Dat Bool := ⟨1, fun _ cs x => cs = [.bool x], fun h => by rw [h]; rfl, fun h _ => h⟩
instance datU16 : Dat (Fin 65536) := ⟨1, fun _ cs x => cs = [.int .u16 (x.val : Int)], fun h => by rw [h]; rfl, fun h _ => h⟩
instance datByte : Dat (Fin 256) := ⟨1, fun _ cs x => cs = [.int .u8 (x.val : Int)], fun h => by rw [h]; rfl, fun h _ => h⟩
instance datUnit : Dat Unit := ⟨0, fun _ cs _ => cs = [], fun h => by rw [h]; rfl, fun h _ => h⟩
instance datProd {α β : Type} [Dat α] [Dat β] : Dat (α × β) := ⟨Dat.sz α + Dat.sz β, fun H cs x => ∃ c1 c2, cs = c1 ++ c2 ∧ Dat.Rd H c1 x.1 ∧ Dat.Rd H c2 x.2,
  fun ⟨c1, c2, h, h1, h2⟩ => by rw [h, List.length_append, Dat.len h1, Dat.len h2], fun ⟨c1, c2, h, h1, h2⟩ hle => ⟨c1, c2, h, Dat.mono h1 hle, Dat.mono h2 hle⟩⟩

def RdL {α : Type} [Dat α] (H : Hp) : List Value → List α → Prop
  | cs, [] => cs = []
  | cs, x :: xs => ∃ c1 c2, cs = c1 ++ c2 ∧ Dat.Rd H c1 x ∧ RdL H c2 xs
theorem RdL.mono {α : Type} [Dat α] {H H' : Hp} (hle : H.le H') : ∀ {xs : List α} {cs : List Value}, RdL H cs xs → RdL H' cs xs
  | [], _, h => h
  | _ :: _, _, ⟨c1, c2, h, h1, h2⟩ => ⟨c1, c2, h, Dat.mono h1 hle, RdL.mono hle h2⟩
theorem RdL.len {α : Type} [Dat α] {H : Hp} : ∀ {xs : List α} {cs : List Value}, RdL H cs xs → cs.length = xs.length * Dat.sz α
  | [], _, h => by rw [show _ = ([] : List Value) from h]; simp
  | _ :: xs, _, ⟨c1, c2, h, h1, h2⟩ => by rw [h, List.length_append, Dat.len h1, RdL.len h2, List.length_cons, Nat.succ_mul, Nat.add_comm]

instance datList {α : Type} [Dat α] : Dat (List α) := ⟨1, fun H cs xs => ∃ A c cells, cs = [.slice A xs.length c] ∧ RdC H A xs.length c (Dat.sz α) cells ∧ RdL H cells xs, fun ⟨_, _, _, h, _⟩ => by rw [h]; rfl,
  fun ⟨A, c, cells, h, h1, h2⟩ hle => ⟨A, c, cells, h, h1.mono hle, h2.mono hle⟩⟩

/-! ### Flat data: the cells are known -/
theorem RdL.words {H : Hp} : ∀ {ws : List (BitVec 64)} {cs : List Value}, RdL H cs ws → cs = ws.map u64
  | [], _, h => h
  | _ :: _, _, ⟨_, _, h, h1, h2⟩ => by rw [h, show _ = [u64 _] from h1, RdL.words h2]; rfl

/-! ### Arguments that can be read -/
def HW (W : World) : Hp := fun b => W.heap[b]?

structure Reads (P : Program) (t : TypeId) (α : Type) [Dat α] : Prop where
  cells : P.cellsOf t = Dat.sz α
  read : ∀ {H : Type} {enc : TypeId × Value → H} {w : World} {sp : Nat → Bool} {held : Bool} {fuel : Nat} {cs : List Value} {x : DataW H × List MemPlace}, DataW.trod enc P w 0 sp held fuel t cs = some x → ∃ a : α, Dat.Rd (HW w) cs a

theorem wf_int {k : IntKind} {n : Int} (h : (Lit.int k n).wf = true) : k.min ≤ n ∧ n ≤ k.max := by
  simpa [Lit.wf] using h

section
variable {P : Program} {t e : TypeId}

theorem Reads.int (ht : P.underlying t = some (.int .i64)) (hc : P.cellsOf t = 1) : Reads P t Int := ⟨hc, fun h => by
  obtain ⟨n, rfl, _, hw⟩ := DataW.trod_int ht h
  have := wf_int hw
  simp only [IntKind.min, IntKind.max, IntKind.bits, IntKind.signed] at this
  exact ⟨n, rfl, by simpa using this⟩⟩
theorem Reads.w64 (ht : P.underlying t = some (.int .u64)) (hc : P.cellsOf t = 1) : Reads P t (BitVec 64) := ⟨hc, fun h => by
  obtain ⟨n, rfl, _, hw⟩ := DataW.trod_int ht h
  have h2 := wf_int hw
  simp only [IntKind.min, IntKind.max, IntKind.bits, IntKind.signed] at h2
  have h3 : 0 ≤ n ∧ n < 18446744073709551616 := ⟨by simpa using h2.1, by have := h2.2; simp at this; omega⟩
  refine ⟨BitVec.ofNat 64 n.toNat, ?_⟩
  show [Value.int .u64 n] = [u64 _]
  have : ((BitVec.ofNat 64 n.toNat).toNat : Int) = n := by
    rw [BitVec.toNat_ofNat, Nat.mod_eq_of_lt (by omega)]; omega
  rw [u64, this]⟩
theorem Reads.u16 (ht : P.underlying t = some (.int .u16)) (hc : P.cellsOf t = 1) : Reads P t (Fin 65536) := ⟨hc, fun h => by
  obtain ⟨n, rfl, _, hw⟩ := DataW.trod_int ht h
  have h2 := wf_int hw
  simp only [IntKind.min, IntKind.max, IntKind.bits, IntKind.signed] at h2
  have h3 : 0 ≤ n ∧ n < 65536 := ⟨by simpa using h2.1, by have := h2.2; simp at this; omega⟩
  refine ⟨⟨n.toNat, by omega⟩, ?_⟩
  show [Value.int .u16 n] = [Value.int .u16 ((n.toNat : Nat) : Int)]
  rw [Int.toNat_of_nonneg h3.1]⟩
theorem Reads.u8 (ht : P.underlying t = some (.int .u8)) (hc : P.cellsOf t = 1) : Reads P t (Fin 256) := ⟨hc, fun h => by
  obtain ⟨n, rfl, _, hw⟩ := DataW.trod_int ht h
  have h2 := wf_int hw
  simp only [IntKind.min, IntKind.max, IntKind.bits, IntKind.signed] at h2
  have h3 : 0 ≤ n ∧ n < 256 := ⟨by simpa using h2.1, by have := h2.2; simp at this; omega⟩
  refine ⟨⟨n.toNat, by omega⟩, ?_⟩
  show [Value.int .u8 n] = [Value.int .u8 ((n.toNat : Nat) : Int)]
  rw [Int.toNat_of_nonneg h3.1]⟩
theorem Reads.bool (ht : P.underlying t = some .bool) (hc : P.cellsOf t = 1) : Reads P t Bool := ⟨hc, fun h => by
  obtain ⟨b, rfl, _⟩ := DataW.trod_bool ht h
  exact ⟨b, rfl⟩⟩

theorem cells_get {w : World} {a : Addr} {n : Nat} {l : List Value} (h : w.cells? 0 a n = some l) : l.length = n ∧ ∀ i, i < n → w.cell? (a.add i) = l[i]? := by
  unfold World.cells? at h
  rw [if_pos (Nat.zero_le _)] at h
  have h1 := mapM_some_length h
  refine ⟨by simpa using h1, fun i hi => ?_⟩
  exact mapM_some_get h i i (by simp [hi])

theorem chunks {α : Type} [Dat α] {H : Hp} {sz : Nat} (hs : Dat.sz α = sz) : ∀ (n : Nat) (f : Nat → List Value), (∀ i, i < n → ∃ a : α, Dat.Rd H (f i) a) → ∃ xs : List α, xs.length = n ∧ RdL H ((List.range n).flatMap f) xs
  | 0, _, _ => ⟨[], rfl, rfl⟩
  | n + 1, f, h => by
    obtain ⟨a, ha⟩ := h 0 (by omega)
    obtain ⟨xs, h1, h2⟩ := chunks hs n (fun i => f (i + 1)) fun i hi => h (i + 1) (by omega)
    refine ⟨a :: xs, by simp [h1], f 0, (List.range n).flatMap (fun i => f (i + 1)), ?_, ha, h2⟩
    rw [List.range_succ_eq_map, List.flatMap_cons, List.flatMap_map]

theorem flatMap_cells {f g : Nat → List Value} : ∀ (l : List Nat), (∀ x ∈ l, f x = g x) → l.flatMap f = l.flatMap g
  | [], _ => rfl
  | x :: l, h => by rw [List.flatMap_cons, List.flatMap_cons, h x (by simp), flatMap_cells l fun y hy => h y (by simp [hy])]

theorem flat_chunk {sz : Nat} (f : Nat → List Value) (hf : ∀ i, (f i).length = sz) (hs : 0 < sz) : ∀ (n j : Nat), j < n * sz → ((List.range n).flatMap f)[j]? = (f (j / sz))[j % sz]?
  | 0, j, h => by simp at h
  | n + 1, j, h => by
    rw [List.range_succ, List.flatMap_append]
    have hl : ((List.range n).flatMap f).length = n * sz := by
      rw [List.length_flatMap]; simp only [hf, List.map_const', List.length_range, List.sum_replicate_nat]
    by_cases hj : j < n * sz
    · rw [List.getElem?_append_left (by omega)]
      exact flat_chunk f hf hs n j hj
    · rw [List.getElem?_append_right (by omega), hl]
      simp only [List.flatMap_cons, List.flatMap_nil, List.append_nil]
      rw [Nat.succ_mul] at h
      have e1 : j / sz = n := by
        apply Nat.div_eq_of_lt_le
        · omega
        · rw [Nat.succ_mul]; omega
      have e2 : j % sz = j - n * sz := by
        have := Nat.div_add_mod j sz
        rw [e1, Nat.mul_comm] at this; omega
      rw [e1, e2]

theorem Reads.slice {α : Type} [Dat α] (ht : P.underlying t = some (.slice e)) (hc : P.cellsOf t = 1) (he : Reads P e α) (hs : 0 < Dat.sz α) : Reads P t (List α) := ⟨hc, fun {H enc w sp held fuel cs x} h => by
  rcases DataW.trod_slice ht h with ⟨rfl, _⟩ | ⟨a, len, cap, elems, rest, n, _, rfl, _, _, h1, h2, h3, h4, _⟩
  · exact ⟨[], none, 0, [], rfl, RdC.nil _ _, rfl⟩
  · have hcell := he.cells
    have hx : ∀ i, i < len → ∃ l, w.cells? 0 (a.add (i * Dat.sz α)) (Dat.sz α) = some l ∧ ∃ v : α, Dat.Rd (HW w) l v := by
      intro i hi
      have h5 := h4 i hi
      rw [hcell, List.getElem?_eq_getElem (by omega)] at h5
      obtain ⟨l, h6, h7⟩ := Option.bind_eq_some_iff.1 h5
      exact ⟨l, h6, he.read h7⟩
    obtain ⟨f, hf⟩ : ∃ f : Nat → List Value, ∀ i, i < len → w.cells? 0 (a.add (i * Dat.sz α)) (Dat.sz α) = some (f i) ∧ ∃ v : α, Dat.Rd (HW w) (f i) v := by
      classical
      refine ⟨fun i => if hi : i < len then Classical.choose (hx i hi) else [], fun i hi => ?_⟩
      simp only [dif_pos hi]
      exact Classical.choose_spec (hx i hi)
    obtain ⟨xs, hxl, hxs⟩ := chunks (α := α) rfl len f fun i hi => (hf i hi).2
    obtain ⟨g, hg, hgf⟩ : ∃ g : Nat → List Value, (∀ i, (g i).length = Dat.sz α) ∧ ∀ i, i < len → g i = f i := by
      refine ⟨fun i => if i < len then f i else List.replicate (Dat.sz α) undef, fun i => ?_, fun i hi => if_pos hi⟩
      by_cases hi : i < len
      · simp only [if_pos hi]; exact (cells_get (hf i hi).1).1
      · simp only [if_neg hi]; simp
    have hfg : (List.range len).flatMap f = (List.range len).flatMap g := by
      apply flatMap_cells
      intro i hi
      exact (hgf i (List.mem_range.1 hi)).symm
    rw [hfg] at hxs
    refine ⟨xs, some a, cap, (List.range len).flatMap g, by rw [hxl], ⟨by rw [RdL.len hxs], by omega, h2, (fun h => by cases h), ?_⟩, hxs⟩
    intro a' ha' hn
    obtain rfl : a = a' := Option.some.inj ha'
    rw [hxl] at hn
    have cell : ∀ j u, ((List.range len).flatMap g)[j]? = some u → w.cell? ((a.add (j / Dat.sz α * Dat.sz α)).add (j % Dat.sz α)) = some u := by
      intro j u hj
      have hlt : j < len * Dat.sz α := by
        have := (List.getElem?_eq_some_iff.1 hj).1
        rw [RdL.len hxs, hxl] at this; exact this
      have hd : j / Dat.sz α < len := Nat.div_lt_of_lt_mul (by rw [Nat.mul_comm]; exact hlt)
      rw [flat_chunk g hg hs len j hlt, hgf _ hd] at hj
      rw [(cells_get (hf _ hd).1).2 _ (Nat.mod_lt _ hs)]
      exact hj
    have h0 : ∃ u, ((List.range len).flatMap g)[0]? = some u := by
      have : 0 < ((List.range len).flatMap g).length := by rw [RdL.len hxs, hxl]; exact Nat.mul_pos (by omega) hs
      exact ⟨_, List.getElem?_eq_getElem this⟩
    obtain ⟨u0, hu0⟩ := h0
    have c0 := cell 0 u0 hu0
    rw [Nat.zero_div, Nat.zero_mul, Nat.zero_mod] at c0
    have ea : a.add 0 = a := by simp [Addr.add]
    rw [ea, ea] at c0
    have hsp : a.spot = none := by
      unfold World.cell? at c0
      split at c0
      · cases hq : a.spot with
        | none => rfl
        | some s => rw [hq] at c0; simp at c0
      · cases c0
    refine ⟨hsp, ?_⟩
    unfold World.cell? at c0
    split at c0
    · rename_i cur T fr hb
      refine ⟨cur, T, fr, hb, fun j u hj => ?_⟩
      have c1 := cell j u hj
      rw [add_spot hsp, add_none, World.cell?] at c1
      simp only [hb] at c1
      have e1 : a.off + j / Dat.sz α * Dat.sz α + j % Dat.sz α = a.off + j := by
        have := Nat.div_add_mod j (Dat.sz α)
        rw [Nat.mul_comm] at this; omega
      rw [e1] at c1
      simpa using c1
    · cases c0⟩

/-- The fields of a struct, from a place on. -/
inductive Fields (P : Program) : List Field → Nat → (α : Type) → Dat α → Prop
  | nil (off : Nat) : Fields P [] off Unit datUnit
  | cons {f : Field} {fs : List Field} {off : Nat} {α β : Type} [iα : Dat α] {iβ : Dat β} (ho : f.offset = off) (h : Reads P f.type α) (hs : Fields P fs (off + Dat.sz α) β iβ) : Fields P (f :: fs) off (α × β) (@datProd α β iα iβ)

theorem Fields.read {H : Type} {enc : TypeId × Value → H} {w : World} {sp : Nat → Bool} {held : Bool} {n : Nat} {cs : List Value} : ∀ {fs : List Field} {off : Nat} {α : Type} {i : Dat α}, Fields P fs off α i → cs.length = off + Dat.sz α →
    (∀ f ∈ fs, ∃ x, DataW.trod enc P w 0 sp held n f.type ((cs.drop f.offset).take (P.cellsOf f.type)) = some x) → ∃ a : α, Dat.Rd (HW w) (cs.drop off) a
  | _, _, _, _, .nil off, hl, _ => ⟨(), List.drop_eq_nil_of_le (by rw [hl]; exact Nat.le_refl _)⟩
  | _, _, _, _, .cons (f := f) (fs := fs) (off := off) (α := α) (β := β) (iα := iα) (iβ := iβ) ho h hs, hl, hf => by
    obtain ⟨x, hx⟩ := hf f (by simp)
    rw [ho, h.cells] at hx
    obtain ⟨a, ha⟩ := h.read hx
    have hl2 : cs.length = off + Dat.sz α + Dat.sz β := by rw [hl]; exact (Nat.add_assoc _ _ _).symm
    obtain ⟨b, hb⟩ := Fields.read hs hl2 (fun f' hf' => hf f' (by simp [hf']))
    refine ⟨(a, b), (cs.drop off).take (Dat.sz α), cs.drop (off + Dat.sz α), ?_, ha, hb⟩
    rw [← List.drop_drop, List.take_append_drop]

theorem Reads.struct {fs : Array Field} {α : Type} [i : Dat α] (ht : P.underlying t = some (.struct fs)) (hc : P.cellsOf t = Dat.sz α) (hf : Fields P fs.toList 0 α i) : Reads P t α := ⟨hc, fun {H enc w sp held fuel cs x} h => by
  obtain ⟨xs, n, _, _, hl, hlen, hx⟩ := DataW.trod_struct ht h
  have := hf.read (cs := cs) (enc := enc) (w := w) (sp := sp) (held := held) (n := n) (by rw [hl, hc, Nat.zero_add]) fun f hfm => by
    obtain ⟨j, hj⟩ := List.getElem?_of_mem hfm
    have hj2 : fs[j]? = some f := by simpa using hj
    have hlt : j < xs.length := by rw [hlen]; exact (Array.getElem?_eq_some_iff.1 hj2).1
    exact ⟨xs[j], by rw [hx j f hj2, List.getElem?_eq_getElem hlt]⟩
  simpa using this⟩
end

/-! ### A statement's arguments -/
def isAgg' (P : Program) (t : TypeId) : Bool := match P.underlying t with
  | some (.struct _) | some (.array _ _) => true
  | _ => false
def isOne' (P : Program) (t : TypeId) : Bool := match P.underlying t with
  | some (.slice _) | some (.int _) | some .bool => true
  | _ => false
theorem trodAll_below {H : Type} {enc : TypeId × Value → H} {P : Program} (hl : laidOutB P = true) {W W' : World} {sp : Nat → Bool} : ∀ {ts : List TypeId} {vs : List Value} {ds : List (DataW H)} {p : List MemPlace},
    (∀ t ∈ ts, P.readableRec t = true ∧ t < P.types.size) → DataW.TrodAll enc P W 0 (fun _ => true) true ts vs ds p → (∀ x ∈ p, W.sameAt W' x) → (∀ x ∈ p, sp x.block = true) → DataW.TrodAll enc P W' 0 sp true ts vs ds p
  | [], vs, ds, p, _, h, _, _ => by
    cases vs <;> cases ds <;> first | exact h | exact False.elim h
  | t :: ts, vs, ds, p, ht, h, h1, h2 => by
    cases vs with
    | nil => cases ds <;> exact False.elim h
    | cons v vs =>
      cases ds with
      | nil => exact False.elim h
      | cons d ds =>
        obtain ⟨a, b, h3, h4, rfl⟩ := h
        exact ⟨a, b, WideElems.Trod_stays hl (ht t (by simp)).1 (ht t (by simp)).2 h3 (fun x hx => h1 x (by simp [hx])) (fun x hx => h2 x (by simp [hx])), trodAll_below hl (fun t' ht' => ht t' (by simp [ht'])) h4 (fun x hx => h1 x (by simp [hx])) (fun x hx => h2 x (by simp [hx])), rfl⟩

/-- What a statement owes, where it has answered true and turned nothing that was there. -/
theorem post_law {H : Type} {enc : TypeId × Value → H} {P : Program} (hl : laidOutB P = true) {f : Func} {s : ChangeSpec} {fresh handsOn : Bool} {tb : TypeId} (htb : P.underlying tb = some .bool) (hres : f.resultTypes = #[tb]) (hpar : (f.params.toList.all fun t => P.readableRec t && Nat.blt t P.types.size) = true)
    {W W' : World} {args : Array Value} {ds gs : List (DataW H)} {before : List MemPlace} (hW : DataW.Whole enc P f.params.toList s.vars false W args.toList ds gs before) (hv : s.vars = [])
    (hs : s.fn H (ds ++ gs) = { results := [.lit (.bool true)], args := ds, vars := [] }) (hb : Below W.heap.size W W') : s.post enc P f false fresh handsOn false W args (.bool true) W' := by
  have hW0 := hW
  obtain ⟨p, q, h1, h2, rfl, _, _⟩ := hW
  rw [hv] at h2
  obtain ⟨rfl, rfl⟩ := trodVars_none h2
  have hlt : ∀ x ∈ p, x.block < W.heap.size := fun x hx => by simpa using hW0.lt x (by simp [hx])
  refine ⟨ds, [], p ++ [], [], p, [], hW0, ?_, ?_, ?_, hb.frame _, fun h => by cases h⟩
  · rw [hs, hres]
    exact trodAll_mk1 (shut_bool htb true)
  · rw [hs]
    refine trodAll_below hl (fun t ht => ?_) h1 (fun x hx => hb.same (hlt x hx)) fun x hx => by simpa using hlt x hx
    have := List.all_eq_true.1 hpar t ht
    rw [Bool.and_eq_true] at this
    exact ⟨this.1, by simpa [Nat.blt_eq] using this.2⟩
  · rw [hs, hv]
    exact rfl
end Go.Proofs.YtackllehpecfgaaDoor
