/- Part 5 of the proof of the statement TrackerExactCardSaid: lemmas. No condition of its own. -/
import Derived.SevenTiedAt
import Derived.Test.YtgojhiknicmopaaGreatDoorRows
import Derived.Test.YtgojhiknicmopaaGreatDoorTie
import Derived.Test.YtgojhiknicmopaaGreatDoorCards
import Derived.Test.YtgojhiknicmopaaGreatDoorProg
import Derived.CallsIn
import Derived.Shelf.SlIterI.Sorted
import Derived.Shelf.SortM.Plain
import Derived.Shelf.SortM.SortNone
import Derived.Ground.GgzProg
import Derived.Ground.SlgmProg
import Derived.Shelf.SlSortCmp.NoneTotal
import Derived.Test.YtgojhiknicmopaaGreatDoorM4
namespace Go.Proofs.YtgojhiknicmopaaGreatDoor
open Go.RowKit
structure q10 where
  Size : Int
  Words : List (BitVec 64)
  deriving DecidableEq
instance dt_api_Bitmap : Dt q10 where
  default := ⟨0, []⟩
  sz := 2
  rd H cs x := ∃ A0 n0 c0 s0, cs = [.int .i64 (x.Size), .slice A0 n0 c0] ∧ Fz H A0 n0 c0 x.Words s0
  len := fun ⟨A0, n0, c0, s0, h, h0⟩ => by rw [h]; rfl
  mono := fun ⟨A0, n0, c0, s0, h, h0⟩ hle => ⟨A0, n0, c0, s0, h, h0.mono hle⟩
  one := fun ⟨A0, n0, c0, s0, h, h0⟩ => by rw [h]; exact q101 ⟨rfl, rfl, trivial⟩
structure q13 where
  Site : Int
  Common : Int
  Dirty : List q10
  deriving DecidableEq
instance dt_api_Peer : Dt q13 where
  default := ⟨0, 0, []⟩
  sz := 3
  rd H cs x := ∃ A0 n0 c0 s0, cs = [.int .i64 (x.Site), .int .i64 (x.Common), .slice A0 n0 c0] ∧ Fz H A0 n0 c0 x.Dirty s0
  len := fun ⟨A0, n0, c0, s0, h, h0⟩ => by rw [h]; rfl
  mono := fun ⟨A0, n0, c0, s0, h, h0⟩ hle => ⟨A0, n0, c0, s0, h, h0.mono hle⟩
  one := fun ⟨A0, n0, c0, s0, h, h0⟩ => by rw [h]; exact q101 ⟨rfl, rfl, rfl, trivial⟩
structure q11 where
  Sizes : List Int
  Peers : List q13
  deriving DecidableEq
instance dt_api_Tracker : Dt q11 where
  default := ⟨[], []⟩
  sz := 2
  rd H cs x := ∃ A0 n0 c0 s0, ∃ A1 n1 c1 s1, cs = [.slice A0 n0 c0, .slice A1 n1 c1] ∧ Fz H A0 n0 c0 x.Sizes s0 ∧ Fz H A1 n1 c1 x.Peers s1
  len := fun ⟨A0, n0, c0, s0, A1, n1, c1, s1, h, h0, h1⟩ => by rw [h]; rfl
  mono := fun ⟨A0, n0, c0, s0, A1, n1, c1, s1, h, h0, h1⟩ hle => ⟨A0, n0, c0, s0, A1, n1, c1, s1, h, h0.mono hle, h1.mono hle⟩
  one := fun ⟨A0, n0, c0, s0, A1, n1, c1, s1, h, h0, h1⟩ => by rw [h]; exact q101 ⟨rfl, rfl, trivial⟩
structure q8 where
  Volume : Int
  Start : Int
  Data : List Sec
  deriving DecidableEq
instance dt_api_Write : Dt q8 where
  default := ⟨0, 0, []⟩
  sz := 3
  rd H cs x := ∃ A0 n0 c0 s0, cs = [.int .i64 (x.Volume), .int .i64 (x.Start), .slice A0 n0 c0] ∧ Fz H A0 n0 c0 x.Data s0
  len := fun ⟨A0, n0, c0, s0, h, h0⟩ => by rw [h]; rfl
  mono := fun ⟨A0, n0, c0, s0, h, h0⟩ hle => ⟨A0, n0, c0, s0, h, h0.mono hle⟩
  one := fun ⟨A0, n0, c0, s0, h, h0⟩ => by rw [h]; exact q101 ⟨rfl, rfl, rfl, trivial⟩
structure q16 where
  Start : Int
  Count : Int
  deriving DecidableEq
instance dt_api_Extent : Dt q16 where
  default := ⟨0, 0⟩
  sz := 2
  rd H cs x := cs = [.int .i64 (x.Start), .int .i64 (x.Count)]
  len h := by rw [h]; rfl
  mono h _ := h
  one h := by rw [h]; exact q101 ⟨rfl, rfl, trivial⟩
structure q14 where
  Base : Int
  Number : Int
  Time : Int
  Positions : List Int
  Writes : List q8
  deriving DecidableEq
instance dt_api_Cycle : Dt q14 where
  default := ⟨0, 0, 0, [], []⟩
  sz := 5
  rd H cs x := ∃ A0 n0 c0 s0, ∃ A1 n1 c1 s1, cs = [.int .i64 (x.Base), .int .i64 (x.Number), .int .i64 (x.Time), .slice A0 n0 c0, .slice A1 n1 c1] ∧ Fz H A0 n0 c0 x.Positions s0 ∧ Fz H A1 n1 c1 x.Writes s1
  len := fun ⟨A0, n0, c0, s0, A1, n1, c1, s1, h, h0, h1⟩ => by rw [h]; rfl
  mono := fun ⟨A0, n0, c0, s0, A1, n1, c1, s1, h, h0, h1⟩ hle => ⟨A0, n0, c0, s0, A1, n1, c1, s1, h, h0.mono hle, h1.mono hle⟩
  one := fun ⟨A0, n0, c0, s0, A1, n1, c1, s1, h, h0, h1⟩ => by rw [h]; exact q101 ⟨rfl, rfl, rfl, rfl, rfl, trivial⟩
structure q34 where
  Site : Int
  Number : Int
  Later : List q14
  deriving DecidableEq
instance dt_standbylaw43_Agreement : Dt q34 where
  default := ⟨0, 0, []⟩
  sz := 3
  rd H cs x := ∃ A0 n0 c0 s0, cs = [.int .i64 (x.Site), .int .i64 (x.Number), .slice A0 n0 c0] ∧ Fz H A0 n0 c0 x.Later s0
  len := fun ⟨A0, n0, c0, s0, h, h0⟩ => by rw [h]; rfl
  mono := fun ⟨A0, n0, c0, s0, h, h0⟩ hle => ⟨A0, n0, c0, s0, h, h0.mono hle⟩
  one := fun ⟨A0, n0, c0, s0, h, h0⟩ => by rw [h]; exact q101 ⟨rfl, rfl, rfl, trivial⟩
structure q83 where
  left : List (BitVec 8)
  deriving DecidableEq
instance dt_wire_cursor : Dt q83 where
  default := ⟨[]⟩
  sz := 1
  rd H cs x := ∃ A0 n0 c0 s0, cs = [.slice A0 n0 c0] ∧ Fz H A0 n0 c0 x.left s0
  len := fun ⟨A0, n0, c0, s0, h, h0⟩ => by rw [h]; rfl
  mono := fun ⟨A0, n0, c0, s0, h, h0⟩ hle => ⟨A0, n0, c0, s0, h, h0.mono hle⟩
  one := fun ⟨A0, n0, c0, s0, h, h0⟩ => by rw [h]; exact q101 ⟨rfl, trivial⟩
structure q15 where
  Kind : BitVec 8
  Volume : BitVec 8
  Start : BitVec 8
  Count : BitVec 8
  First : BitVec 8
  deriving DecidableEq
instance dt_standbylaw43_Step : Dt q15 where
  default := ⟨0#8, 0#8, 0#8, 0#8, 0#8⟩
  sz := 5
  rd H cs x := cs = [u8 (x.Kind), u8 (x.Volume), u8 (x.Start), u8 (x.Count), u8 (x.First)]
  len h := by rw [h]; rfl
  mono h _ := h
  one h := by rw [h]; exact q101 ⟨rfl, rfl, rfl, rfl, rfl, trivial⟩
structure q92 where
  e0 : Int
  e1 : Int
  deriving DecidableEq
instance dt_Arr2_int : Dt q92 where
  default := ⟨0, 0⟩
  sz := 2
  rd H cs x := cs = [.int .i64 (x.e0), .int .i64 (x.e1)]
  len h := by rw [h]; rfl
  mono h _ := h
  one h := by rw [h]; exact q101 ⟨rfl, rfl, trivial⟩
structure q17 where
  t : q11
  im : List (List Sec)
  images : List (List (List Sec))
  cycles : List q14
  open_ : List q8
  has : q92
  deriving DecidableEq
instance dt_standbylaw43_run : Dt q17 where
  default := ⟨default, [], [], [], [], default⟩
  sz := 8
  rd H cs x := ∃ A0 n0 c0 s0, ∃ A1 n1 c1 s1, ∃ A2 n2 c2 s2, ∃ A3 n3 c3 s3, ∃ A4 n4 c4 s4, ∃ A5 n5 c5 s5, cs = [.slice A0 n0 c0, .slice A1 n1 c1, .slice A2 n2 c2, .slice A3 n3 c3, .slice A4 n4 c4, .slice A5 n5 c5, .int .i64 (x.has.e0), .int .i64 (x.has.e1)] ∧ Fz H A0 n0 c0 x.t.Sizes s0 ∧ Fz H A1 n1 c1 x.t.Peers s1 ∧ Fz H A2 n2 c2 x.im s2 ∧ Fz H A3 n3 c3 x.images s3 ∧ Fz H A4 n4 c4 x.cycles s4 ∧ Fz H A5 n5 c5 x.open_ s5
  len := fun ⟨A0, n0, c0, s0, A1, n1, c1, s1, A2, n2, c2, s2, A3, n3, c3, s3, A4, n4, c4, s4, A5, n5, c5, s5, h, h0, h1, h2, h3, h4, h5⟩ => by rw [h]; rfl
  mono := fun ⟨A0, n0, c0, s0, A1, n1, c1, s1, A2, n2, c2, s2, A3, n3, c3, s3, A4, n4, c4, s4, A5, n5, c5, s5, h, h0, h1, h2, h3, h4, h5⟩ hle => ⟨A0, n0, c0, s0, A1, n1, c1, s1, A2, n2, c2, s2, A3, n3, c3, s3, A4, n4, c4, s4, A5, n5, c5, s5, h, h0.mono hle, h1.mono hle, h2.mono hle, h3.mono hle, h4.mono hle, h5.mono hle⟩
  one := fun ⟨A0, n0, c0, s0, A1, n1, c1, s1, A2, n2, c2, s2, A3, n3, c3, s3, A4, n4, c4, s4, A5, n5, c5, s5, h, h0, h1, h2, h3, h4, h5⟩ => by rw [h]; exact q101 ⟨rfl, rfl, rfl, rfl, rfl, rfl, rfl, rfl, trivial⟩
structure q12 where
  Number : Int
  Sizes : List Int
  Positions : List Int
  Nodes : List Int
  Writes : List q8
  deriving DecidableEq
instance dt_api_Capture : Dt q12 where
  default := ⟨0, [], [], [], []⟩
  sz := 5
  rd H cs x := ∃ A0 n0 c0 s0, ∃ A1 n1 c1 s1, ∃ A2 n2 c2 s2, ∃ A3 n3 c3 s3, cs = [.int .i64 (x.Number), .slice A0 n0 c0, .slice A1 n1 c1, .slice A2 n2 c2, .slice A3 n3 c3] ∧ Fz H A0 n0 c0 x.Sizes s0 ∧ Fz H A1 n1 c1 x.Positions s1 ∧ Fz H A2 n2 c2 x.Nodes s2 ∧ Fz H A3 n3 c3 x.Writes s3
  len := fun ⟨A0, n0, c0, s0, A1, n1, c1, s1, A2, n2, c2, s2, A3, n3, c3, s3, h, h0, h1, h2, h3⟩ => by rw [h]; rfl
  mono := fun ⟨A0, n0, c0, s0, A1, n1, c1, s1, A2, n2, c2, s2, A3, n3, c3, s3, h, h0, h1, h2, h3⟩ hle => ⟨A0, n0, c0, s0, A1, n1, c1, s1, A2, n2, c2, s2, A3, n3, c3, s3, h, h0.mono hle, h1.mono hle, h2.mono hle, h3.mono hle⟩
  one := fun ⟨A0, n0, c0, s0, A1, n1, c1, s1, A2, n2, c2, s2, A3, n3, c3, s3, h, h0, h1, h2, h3⟩ => by rw [h]; exact q101 ⟨rfl, rfl, rfl, rfl, rfl, trivial⟩
structure q26 where
  c : q12
  part : List Bool
  deriving DecidableEq
instance dt_cycle_division : Dt q26 where
  default := ⟨default, []⟩
  sz := 6
  rd H cs x := ∃ A0 n0 c0 s0, ∃ A1 n1 c1 s1, ∃ A2 n2 c2 s2, ∃ A3 n3 c3 s3, ∃ A4 n4 c4 s4, cs = [.int .i64 (x.c.Number), .slice A0 n0 c0, .slice A1 n1 c1, .slice A2 n2 c2, .slice A3 n3 c3, .slice A4 n4 c4] ∧ Fz H A0 n0 c0 x.c.Sizes s0 ∧ Fz H A1 n1 c1 x.c.Positions s1 ∧ Fz H A2 n2 c2 x.c.Nodes s2 ∧ Fz H A3 n3 c3 x.c.Writes s3 ∧ Fz H A4 n4 c4 x.part s4
  len := fun ⟨A0, n0, c0, s0, A1, n1, c1, s1, A2, n2, c2, s2, A3, n3, c3, s3, A4, n4, c4, s4, h, h0, h1, h2, h3, h4⟩ => by rw [h]; rfl
  mono := fun ⟨A0, n0, c0, s0, A1, n1, c1, s1, A2, n2, c2, s2, A3, n3, c3, s3, A4, n4, c4, s4, h, h0, h1, h2, h3, h4⟩ hle => ⟨A0, n0, c0, s0, A1, n1, c1, s1, A2, n2, c2, s2, A3, n3, c3, s3, A4, n4, c4, s4, h, h0.mono hle, h1.mono hle, h2.mono hle, h3.mono hle, h4.mono hle⟩
  one := fun ⟨A0, n0, c0, s0, A1, n1, c1, s1, A2, n2, c2, s2, A3, n3, c3, s3, A4, n4, c4, s4, h, h0, h1, h2, h3, h4⟩ => by rw [h]; exact q101 ⟨rfl, rfl, rfl, rfl, rfl, rfl, trivial⟩
structure q9 where
  volume : Int
  sector : Int
  deriving DecidableEq
instance dt_coalesce_place : Dt q9 where
  default := ⟨0, 0⟩
  sz := 2
  rd H cs x := cs = [.int .i64 (x.volume), .int .i64 (x.sector)]
  len h := by rw [h]; rfl
  mono h _ := h
  one h := by rw [h]; exact q101 ⟨rfl, rfl, trivial⟩
  ks := some ([.i .i64, .i .i64], fun x => [.i .i64 x.volume, .i .i64 x.sector])
  ksOk := fun _ _ h => by
    cases h; refine ⟨fun _ _ _ => Iff.rfl, fun _ => rfl, fun a b h => ?_⟩; obtain ⟨a_0, a_1⟩ := a; obtain ⟨b_0, b_1⟩ := b; simp only [List.cons.injEq, Sc.i.injEq, true_and, and_true] at h; obtain ⟨e0, e1⟩ := h; subst e0; subst e1; rfl
instance dtUnit : Dt Unit where
  default := ()
  sz := 0
  rd _ cs _ := cs = []
  len h := by rw [h]; rfl
  mono h _ := h
  one h := by rw [h]; intro u hu; cases hu
structure TyR where
  α : Type
  inst : Dt α
def tyOf (t : Nat) : TyR := bif Nat.beq t 4 then ⟨Bool, inferInstance⟩ else bif Nat.beq t 3 then ⟨Int, inferInstance⟩ else bif Nat.beq t 155 then ⟨BitVec 64, inferInstance⟩ else bif Nat.beq t 86 then ⟨q10, inferInstance⟩ else bif Nat.beq t 89 then ⟨q13, inferInstance⟩ else bif Nat.beq t 25 then ⟨q11, inferInstance⟩ else bif Nat.beq t 22 then ⟨List Int, inferInstance⟩ else bif Nat.beq t 52 then ⟨List q10, inferInstance⟩ else bif Nat.beq t 28 then ⟨Int, inferInstance⟩ else bif Nat.beq t 82 then ⟨Sec, inferInstance⟩ else bif Nat.beq t 37 then ⟨List Sec, inferInstance⟩ else bif Nat.beq t 73 then ⟨List (List Sec), inferInstance⟩ else bif Nat.beq t 72 then ⟨List (List Sec), inferInstance⟩ else bif Nat.beq t 23 then ⟨List q13, inferInstance⟩ else bif Nat.beq t 39 then ⟨q8, inferInstance⟩ else bif Nat.beq t 168 then ⟨List Bool, inferInstance⟩ else bif Nat.beq t 84 then ⟨List (BitVec 64), inferInstance⟩ else bif Nat.beq t 92 then ⟨q16, inferInstance⟩ else bif Nat.beq t 49 then ⟨q14, inferInstance⟩ else bif Nat.beq t 43 then ⟨List q14, inferInstance⟩ else bif Nat.beq t 47 then ⟨List q8, inferInstance⟩ else bif Nat.beq t 93 then ⟨List q16, inferInstance⟩ else bif Nat.beq t 156 then ⟨List (List q16), inferInstance⟩ else bif Nat.beq t 5 then ⟨BitVec 8, inferInstance⟩ else bif Nat.beq t 64 then ⟨List (BitVec 8), inferInstance⟩ else bif Nat.beq t 45 then ⟨q34, inferInstance⟩ else bif Nat.beq t 235 then ⟨q83, inferInstance⟩ else bif Nat.beq t 185 then ⟨Ptr q83, inferInstance⟩ else bif Nat.beq t 69 then ⟨BitVec 16, inferInstance⟩ else bif Nat.beq t 147 then ⟨q15, inferInstance⟩ else bif Nat.beq t 71 then ⟨List q15, inferInstance⟩ else bif Nat.beq t 77 then ⟨q17, inferInstance⟩ else bif Nat.beq t 143 then ⟨q12, inferInstance⟩ else bif Nat.beq t 215 then ⟨q26, inferInstance⟩ else bif Nat.beq t 269 then ⟨q9, inferInstance⟩ else ⟨Unit, dtUnit⟩
abbrev DD (t : Nat) : Type := (tyOf t).α
instance dtDD (t : Nat) : Dt (DD t) := (tyOf t).inst
def xI : SV DD → Option Int
 | .i .i64 n => some n
 | _ => none
def xW : SV DD → Option (BitVec 64)
 | .w x => some x
 | _ => none
def xY : SV DD → Option (BitVec 8)
 | .y x => some x
 | _ => none
def xT : SV DD → Option ByteArray
 | .st x => some x
 | _ => none
def xS (e : Nat) : SV DD → Option (List (DD e))
 | .fsl e' xs => castL e' e xs
 | .nil => some []
 | _ => none
def xH (_ : SV DD) : Option (BitVec 16) := none
theorem xH_cq {a : SV DD} {n : BitVec 16} (h : xH a = some n) : CQ a (.i .u16 (n.toNat : Int)) := by cases h
theorem xI_cq {a : SV DD} {n : Int} (h : xI a = some n) : CQ a (.i .i64 n) := by
  unfold xI at h
  split at h
  · cases h; exact .inr ⟨rfl, rfl, fun _ _ _ h => h⟩
  · cases h
theorem xW_cq {a : SV DD} {n : BitVec 64} (h : xW a = some n) : CQ a (.w n) := by
  unfold xW at h
  split at h
  · cases h; exact .inr ⟨rfl, rfl, fun _ _ _ h => h⟩
  · cases h
theorem xY_cq {a : SV DD} {n : BitVec 8} (h : xY a = some n) : CQ a (.y n) := by
  unfold xY at h
  split at h
  · cases h; exact .inr ⟨rfl, rfl, fun _ _ _ h => h⟩
  · cases h
theorem xB_cq {a : SV DD} {n : Bool} (h : q387 a = some n) : CQ a (.b n) := by
  cases a <;> first | (cases h; exact .inr ⟨rfl, rfl, fun _ _ _ h => h⟩) | cases h
theorem xS_cq {e : Nat} {a : SV DD} {n : List (DD e)} (h : xS e a = some n) : CQ a (.fsl e n) := by
  unfold xS at h
  split at h
  · obtain ⟨he, h1⟩ := q106 h
    subst he; subst h1; exact .inl ⟨_, _, rfl, .inl rfl⟩
  · cases h; exact .inl ⟨_, _, rfl, .inr ⟨rfl, rfl⟩⟩
  · cases h
theorem bindS {α β : Type} {o : Option α} {f : α → Option β} {x : β} (h : o.bind f = some x) : ∃ v, o = some v ∧ f v = some x := Option.bind_eq_some_iff.1 h
def ofc4 : List (SV DD) → Option (DD 4)
 | [a0] => (q387 a0).bind fun v0 => some v0
 | _ => none
def ce4 : CE DD := ⟨4, fun x => [.b (x)], ofc4, none⟩
theorem ceOk4 : ce4.Ok where
  rdi := @fun H ρ cs x => ⟨fun h => by
    obtain h := (show Dt.rd (α := Bool) H cs x from h)
    subst h; exact ⟨_, _, rfl, rfl, rfl⟩, fun h => by
    obtain ⟨v0, r0, e0, p0, e⟩ := h; have e : r0 = [] := e; subst e; subst e0; have p0 : v0 = _ := p0; subst p0
    exact (show Dt.rd (α := Bool) H _ x from rfl)⟩
  cq := @fun l x h => by
    change ofc4 l = some x at h; unfold ofc4 at h
    split at h
    · obtain ⟨v0, h0, h⟩ := bindS h
      cases h; exact ⟨_, _, rfl, xB_cq h0, rfl⟩
    · cases h
  eqc := fun d a b c1 c2 hd h1 h2 => by cases hd
def ofc3 : List (SV DD) → Option (DD 3)
 | [a0] => (xI a0).bind fun v0 => some v0
 | _ => none
def ce3 : CE DD := ⟨3, fun x => [.i .i64 (x)], ofc3, some (inferInstanceAs (DecidableEq Int))⟩
theorem sc3 (a b : Int) : (([.i .i64 (a)] : List Sc) = [.i .i64 (b)]) ↔ a = b := ⟨(Dt.ksOk (α := Int) _ _ rfl).2.2 a b, fun h => by rw [h]⟩
theorem ceOk3 : ce3.Ok where
  rdi := @fun H ρ cs x => ⟨fun h => by
    obtain h := (show Dt.rd (α := Int) H cs x from h)
    subst h; exact ⟨_, _, rfl, rfl, rfl⟩, fun h => by
    obtain ⟨v0, r0, e0, p0, e⟩ := h; have e : r0 = [] := e; subst e; subst e0; have p0 : v0 = _ := p0; subst p0
    exact (show Dt.rd (α := Int) H _ x from rfl)⟩
  cq := @fun l x h => by
    change ofc3 l = some x at h; unfold ofc3 at h
    split at h
    · obtain ⟨v0, h0, h⟩ := bindS h
      cases h; exact ⟨_, _, rfl, xI_cq h0, rfl⟩
    · cases h
  eqc := fun d a b c1 c2 hd h1 h2 => by
    cases h1; cases h2; exact sc3 a b
def q715 : List (SV DD) → Option (DD 155)
 | [a0] => (xW a0).bind fun v0 => some v0
 | _ => none
def ce155 : CE DD := ⟨155, fun x => [.w (x)], q715, none⟩
theorem ceOk155 : ce155.Ok where
  rdi := @fun H ρ cs x => ⟨fun h => by
    obtain h := (show Dt.rd (α := BitVec 64) H cs x from h)
    subst h; exact ⟨_, _, rfl, rfl, rfl⟩, fun h => by
    obtain ⟨v0, r0, e0, p0, e⟩ := h; have e : r0 = [] := e; subst e; subst e0; have p0 : v0 = _ := p0; subst p0
    exact (show Dt.rd (α := BitVec 64) H _ x from rfl)⟩
  cq := @fun l x h => by
    change q715 l = some x at h; unfold q715 at h
    split at h
    · obtain ⟨v0, h0, h⟩ := bindS h
      cases h; exact ⟨_, _, rfl, xW_cq h0, rfl⟩
    · cases h
  eqc := fun d a b c1 c2 hd h1 h2 => by cases hd
def ofc86 : List (SV DD) → Option (DD 86)
 | [a0, a1] => (xI a0).bind fun v0 => (xS 155 a1).bind fun v1 => some ⟨v0, v1⟩
 | _ => none
def ce86 : CE DD := ⟨86, fun x => [.i .i64 (x.Size), .fsl 155 (x.Words)], ofc86, none⟩
theorem ceOk86 : ce86.Ok where
  rdi := @fun H ρ cs x => ⟨fun h => by
    obtain ⟨A0, n0, c0, s0, h, h0⟩ := (show Dt.rd (α := q10) H cs x from h)
    subst h; exact ⟨_, _, rfl, rfl, _, _, rfl, ⟨A0, n0, c0, s0, rfl, h0⟩, rfl⟩, fun h => by
    obtain ⟨v0, r0, e0, p0, v1, r1, e1, ⟨A0, n0, c0, s0, p1, h0⟩, e⟩ := h; have e : r1 = [] := e; subst e; subst e1; subst e0; have p0 : v0 = _ := p0; subst p0; subst p1
    exact (show Dt.rd (α := q10) H _ x from ⟨A0, n0, c0, s0, rfl, h0⟩)⟩
  cq := @fun l x h => by
    change ofc86 l = some x at h; unfold ofc86 at h
    split at h
    · obtain ⟨v0, h0, h⟩ := bindS h
      obtain ⟨v1, h1, h⟩ := bindS h; cases h; exact ⟨_, _, rfl, xI_cq h0, _, _, rfl, xS_cq h1, rfl⟩
    · cases h
  eqc := fun d a b c1 c2 hd h1 h2 => by cases hd
def ofc89 : List (SV DD) → Option (DD 89)
 | [a0, a1, a2] => (xI a0).bind fun v0 => (xI a1).bind fun v1 => (xS 86 a2).bind fun v2 => some ⟨v0, v1, v2⟩
 | _ => none
def ce89 : CE DD := ⟨89, fun x => [.i .i64 (x.Site), .i .i64 (x.Common), .fsl 86 (x.Dirty)], ofc89, none⟩
theorem ceOk89 : ce89.Ok where
  rdi := @fun H ρ cs x => ⟨fun h => by
    obtain ⟨A0, n0, c0, s0, h, h0⟩ := (show Dt.rd (α := q13) H cs x from h)
    subst h; exact ⟨_, _, rfl, rfl, _, _, rfl, rfl, _, _, rfl, ⟨A0, n0, c0, s0, rfl, h0⟩, rfl⟩, fun h => by
    obtain ⟨v0, r0, e0, p0, v1, r1, e1, p1, v2, r2, e2, ⟨A0, n0, c0, s0, p2, h0⟩, e⟩ := h; have e : r2 = [] := e; subst e; subst e2; subst e1; subst e0; have p0 : v0 = _ := p0; subst p0; have p1 : v1 = _ := p1; subst p1; subst p2
    exact (show Dt.rd (α := q13) H _ x from ⟨A0, n0, c0, s0, rfl, h0⟩)⟩
  cq := @fun l x h => by
    change ofc89 l = some x at h; unfold ofc89 at h
    split at h
    · obtain ⟨v0, h0, h⟩ := bindS h
      obtain ⟨v1, h1, h⟩ := bindS h; obtain ⟨v2, h2, h⟩ := bindS h; cases h; exact ⟨_, _, rfl, xI_cq h0, _, _, rfl, xI_cq h1, _, _, rfl, xS_cq h2, rfl⟩
    · cases h
  eqc := fun d a b c1 c2 hd h1 h2 => by cases hd
def ofc25 : List (SV DD) → Option (DD 25)
 | [a0, a1] => (xS 3 a0).bind fun v0 => (xS 89 a1).bind fun v1 => some ⟨v0, v1⟩
 | _ => none
def ce25 : CE DD := ⟨25, fun x => [.fsl 3 (x.Sizes), .fsl 89 (x.Peers)], ofc25, none⟩
theorem ceOk25 : ce25.Ok where
  rdi := @fun H ρ cs x => ⟨fun h => by
    obtain ⟨A0, n0, c0, s0, A1, n1, c1, s1, h, h0, h1⟩ := (show Dt.rd (α := q11) H cs x from h)
    subst h; exact ⟨_, _, rfl, ⟨A0, n0, c0, s0, rfl, h0⟩, _, _, rfl, ⟨A1, n1, c1, s1, rfl, h1⟩, rfl⟩, fun h => by
    obtain ⟨v0, r0, e0, ⟨A0, n0, c0, s0, p0, h0⟩, v1, r1, e1, ⟨A1, n1, c1, s1, p1, h1⟩, e⟩ := h; have e : r1 = [] := e; subst e; subst e1; subst e0; subst p0; subst p1
    exact (show Dt.rd (α := q11) H _ x from ⟨A0, n0, c0, s0, A1, n1, c1, s1, rfl, h0, h1⟩)⟩
  cq := @fun l x h => by
    change ofc25 l = some x at h; unfold ofc25 at h
    split at h
    · obtain ⟨v0, h0, h⟩ := bindS h
      obtain ⟨v1, h1, h⟩ := bindS h; cases h; exact ⟨_, _, rfl, xS_cq h0, _, _, rfl, xS_cq h1, rfl⟩
    · cases h
  eqc := fun d a b c1 c2 hd h1 h2 => by cases hd
def ofc22 : List (SV DD) → Option (DD 22)
 | [a0] => (xS 3 a0).bind fun v0 => some v0
 | _ => none
def ce22 : CE DD := ⟨22, fun x => [.fsl 3 (x)], ofc22, none⟩
theorem ceOk22 : ce22.Ok where
  rdi := @fun H ρ cs x => ⟨fun h => by
    obtain ⟨A0, n0, c0, s0, h, h0⟩ := (show Dt.rd (α := List Int) H cs x from h)
    subst h; exact ⟨_, _, rfl, ⟨A0, n0, c0, s0, rfl, h0⟩, rfl⟩, fun h => by
    obtain ⟨v0, r0, e0, ⟨A0, n0, c0, s0, p0, h0⟩, e⟩ := h; have e : r0 = [] := e; subst e; subst e0; subst p0
    exact (show Dt.rd (α := List Int) H _ x from ⟨A0, n0, c0, s0, rfl, h0⟩)⟩
  cq := @fun l x h => by
    change ofc22 l = some x at h; unfold ofc22 at h
    split at h
    · obtain ⟨v0, h0, h⟩ := bindS h
      cases h; exact ⟨_, _, rfl, xS_cq h0, rfl⟩
    · cases h
  eqc := fun d a b c1 c2 hd h1 h2 => by cases hd
def ofc52 : List (SV DD) → Option (DD 52)
 | [a0] => (xS 86 a0).bind fun v0 => some v0
 | _ => none
def ce52 : CE DD := ⟨52, fun x => [.fsl 86 (x)], ofc52, none⟩
theorem ceOk52 : ce52.Ok where
  rdi := @fun H ρ cs x => ⟨fun h => by
    obtain ⟨A0, n0, c0, s0, h, h0⟩ := (show Dt.rd (α := List q10) H cs x from h)
    subst h; exact ⟨_, _, rfl, ⟨A0, n0, c0, s0, rfl, h0⟩, rfl⟩, fun h => by
    obtain ⟨v0, r0, e0, ⟨A0, n0, c0, s0, p0, h0⟩, e⟩ := h; have e : r0 = [] := e; subst e; subst e0; subst p0
    exact (show Dt.rd (α := List q10) H _ x from ⟨A0, n0, c0, s0, rfl, h0⟩)⟩
  cq := @fun l x h => by
    change ofc52 l = some x at h; unfold ofc52 at h
    split at h
    · obtain ⟨v0, h0, h⟩ := bindS h
      cases h; exact ⟨_, _, rfl, xS_cq h0, rfl⟩
    · cases h
  eqc := fun d a b c1 c2 hd h1 h2 => by cases hd
def ofc28 : List (SV DD) → Option (DD 28)
 | [a0] => (xI a0).bind fun v0 => some v0
 | _ => none
def ce28 : CE DD := ⟨28, fun x => [.i .i64 (x)], ofc28, none⟩
theorem ceOk28 : ce28.Ok where
  rdi := @fun H ρ cs x => ⟨fun h => by
    obtain h := (show Dt.rd (α := Int) H cs x from h)
    subst h; exact ⟨_, _, rfl, rfl, rfl⟩, fun h => by
    obtain ⟨v0, r0, e0, p0, e⟩ := h; have e : r0 = [] := e; subst e; subst e0; have p0 : v0 = _ := p0; subst p0
    exact (show Dt.rd (α := Int) H _ x from rfl)⟩
  cq := @fun l x h => by
    change ofc28 l = some x at h; unfold ofc28 at h
    split at h
    · obtain ⟨v0, h0, h⟩ := bindS h
      cases h; exact ⟨_, _, rfl, xI_cq h0, rfl⟩
    · cases h
  eqc := fun d a b c1 c2 hd h1 h2 => by cases hd
def ofc82 : List (SV DD) → Option (DD 82)
 | [a0, a1, a2, a3, a4, a5, a6, a7] => (xY a0).bind fun v0 => (xY a1).bind fun v1 => (xY a2).bind fun v2 => (xY a3).bind fun v3 => (xY a4).bind fun v4 => (xY a5).bind fun v5 => (xY a6).bind fun v6 => (xY a7).bind fun v7 => some ⟨v0, v1, v2, v3, v4, v5, v6, v7⟩
 | _ => none
def ce82 : CE DD := ⟨82, fun x => [.y (x.b0), .y (x.b1), .y (x.b2), .y (x.b3), .y (x.b4), .y (x.b5), .y (x.b6), .y (x.b7)], ofc82, some (inferInstanceAs (DecidableEq Sec))⟩
theorem sc82 (a b : Sec) : (([.i .u8 ((a.b0).toNat : Int), .i .u8 ((a.b1).toNat : Int), .i .u8 ((a.b2).toNat : Int), .i .u8 ((a.b3).toNat : Int), .i .u8 ((a.b4).toNat : Int), .i .u8 ((a.b5).toNat : Int), .i .u8 ((a.b6).toNat : Int), .i .u8 ((a.b7).toNat : Int)] : List Sc) = [.i .u8 ((b.b0).toNat : Int), .i .u8 ((b.b1).toNat : Int), .i .u8 ((b.b2).toNat : Int), .i .u8 ((b.b3).toNat : Int), .i .u8 ((b.b4).toNat : Int), .i .u8 ((b.b5).toNat : Int), .i .u8 ((b.b6).toNat : Int), .i .u8 ((b.b7).toNat : Int)]) ↔ a = b := by
  cases a; cases b; simp [← BitVec.toNat_inj]; omega
theorem ceOk82 : ce82.Ok where
  rdi := @fun H ρ cs x => ⟨fun h => by
    obtain h := (show Dt.rd (α := Sec) H cs x from h)
    subst h; exact ⟨_, _, rfl, rfl, _, _, rfl, rfl, _, _, rfl, rfl, _, _, rfl, rfl, _, _, rfl, rfl, _, _, rfl, rfl, _, _, rfl, rfl, _, _, rfl, rfl, rfl⟩, fun h => by
    obtain ⟨v0, r0, e0, p0, v1, r1, e1, p1, v2, r2, e2, p2, v3, r3, e3, p3, v4, r4, e4, p4, v5, r5, e5, p5, v6, r6, e6, p6, v7, r7, e7, p7, e⟩ := h; have e : r7 = [] := e; subst e; subst e7; subst e6; subst e5; subst e4; subst e3; subst e2; subst e1; subst e0; have p0 : v0 = _ := p0; subst p0; have p1 : v1 = _ := p1; subst p1; have p2 : v2 = _ := p2; subst p2; have p3 : v3 = _ := p3; subst p3; have p4 : v4 = _ := p4; subst p4; have p5 : v5 = _ := p5; subst p5; have p6 : v6 = _ := p6; subst p6; have p7 : v7 = _ := p7; subst p7
    exact (show Dt.rd (α := Sec) H _ x from rfl)⟩
  cq := @fun l x h => by
    change ofc82 l = some x at h; unfold ofc82 at h
    split at h
    · obtain ⟨v0, h0, h⟩ := bindS h
      obtain ⟨v1, h1, h⟩ := bindS h; obtain ⟨v2, h2, h⟩ := bindS h; obtain ⟨v3, h3, h⟩ := bindS h; obtain ⟨v4, h4, h⟩ := bindS h; obtain ⟨v5, h5, h⟩ := bindS h; obtain ⟨v6, h6, h⟩ := bindS h; obtain ⟨v7, h7, h⟩ := bindS h; cases h; exact ⟨_, _, rfl, xY_cq h0, _, _, rfl, xY_cq h1, _, _, rfl, xY_cq h2, _, _, rfl, xY_cq h3, _, _, rfl, xY_cq h4, _, _, rfl, xY_cq h5, _, _, rfl, xY_cq h6, _, _, rfl, xY_cq h7, rfl⟩
    · cases h
  eqc := fun d a b c1 c2 hd h1 h2 => by
    cases h1; cases h2; exact sc82 a b
def ofc37 : List (SV DD) → Option (DD 37)
 | [a0] => (xS 82 a0).bind fun v0 => some v0
 | _ => none
def ce37 : CE DD := ⟨37, fun x => [.fsl 82 (x)], ofc37, none⟩
theorem ceOk37 : ce37.Ok where
  rdi := @fun H ρ cs x => ⟨fun h => by
    obtain ⟨A0, n0, c0, s0, h, h0⟩ := (show Dt.rd (α := List Sec) H cs x from h)
    subst h; exact ⟨_, _, rfl, ⟨A0, n0, c0, s0, rfl, h0⟩, rfl⟩, fun h => by
    obtain ⟨v0, r0, e0, ⟨A0, n0, c0, s0, p0, h0⟩, e⟩ := h; have e : r0 = [] := e; subst e; subst e0; subst p0
    exact (show Dt.rd (α := List Sec) H _ x from ⟨A0, n0, c0, s0, rfl, h0⟩)⟩
  cq := @fun l x h => by
    change ofc37 l = some x at h; unfold ofc37 at h
    split at h
    · obtain ⟨v0, h0, h⟩ := bindS h
      cases h; exact ⟨_, _, rfl, xS_cq h0, rfl⟩
    · cases h
  eqc := fun d a b c1 c2 hd h1 h2 => by cases hd
def ofc73 : List (SV DD) → Option (DD 73)
 | [a0] => (xS 37 a0).bind fun v0 => some v0
 | _ => none
def ce73 : CE DD := ⟨73, fun x => [.fsl 37 (x)], ofc73, none⟩
theorem ceOk73 : ce73.Ok where
  rdi := @fun H ρ cs x => ⟨fun h => by
    obtain ⟨A0, n0, c0, s0, h, h0⟩ := (show Dt.rd (α := List (List Sec)) H cs x from h)
    subst h; exact ⟨_, _, rfl, ⟨A0, n0, c0, s0, rfl, h0⟩, rfl⟩, fun h => by
    obtain ⟨v0, r0, e0, ⟨A0, n0, c0, s0, p0, h0⟩, e⟩ := h; have e : r0 = [] := e; subst e; subst e0; subst p0
    exact (show Dt.rd (α := List (List Sec)) H _ x from ⟨A0, n0, c0, s0, rfl, h0⟩)⟩
  cq := @fun l x h => by
    change ofc73 l = some x at h; unfold ofc73 at h
    split at h
    · obtain ⟨v0, h0, h⟩ := bindS h
      cases h; exact ⟨_, _, rfl, xS_cq h0, rfl⟩
    · cases h
  eqc := fun d a b c1 c2 hd h1 h2 => by cases hd
def ofc72 : List (SV DD) → Option (DD 72)
 | [a0] => (xS 37 a0).bind fun v0 => some v0
 | _ => none
def ce72 : CE DD := ⟨72, fun x => [.fsl 37 (x)], ofc72, none⟩
theorem ceOk72 : ce72.Ok where
  rdi := @fun H ρ cs x => ⟨fun h => by
    obtain ⟨A0, n0, c0, s0, h, h0⟩ := (show Dt.rd (α := List (List Sec)) H cs x from h)
    subst h; exact ⟨_, _, rfl, ⟨A0, n0, c0, s0, rfl, h0⟩, rfl⟩, fun h => by
    obtain ⟨v0, r0, e0, ⟨A0, n0, c0, s0, p0, h0⟩, e⟩ := h; have e : r0 = [] := e; subst e; subst e0; subst p0
    exact (show Dt.rd (α := List (List Sec)) H _ x from ⟨A0, n0, c0, s0, rfl, h0⟩)⟩
  cq := @fun l x h => by
    change ofc72 l = some x at h; unfold ofc72 at h
    split at h
    · obtain ⟨v0, h0, h⟩ := bindS h
      cases h; exact ⟨_, _, rfl, xS_cq h0, rfl⟩
    · cases h
  eqc := fun d a b c1 c2 hd h1 h2 => by cases hd
def ofc23 : List (SV DD) → Option (DD 23)
 | [a0] => (xS 89 a0).bind fun v0 => some v0
 | _ => none
def ce23 : CE DD := ⟨23, fun x => [.fsl 89 (x)], ofc23, none⟩
theorem ceOk23 : ce23.Ok where
  rdi := @fun H ρ cs x => ⟨fun h => by
    obtain ⟨A0, n0, c0, s0, h, h0⟩ := (show Dt.rd (α := List q13) H cs x from h)
    subst h; exact ⟨_, _, rfl, ⟨A0, n0, c0, s0, rfl, h0⟩, rfl⟩, fun h => by
    obtain ⟨v0, r0, e0, ⟨A0, n0, c0, s0, p0, h0⟩, e⟩ := h; have e : r0 = [] := e; subst e; subst e0; subst p0
    exact (show Dt.rd (α := List q13) H _ x from ⟨A0, n0, c0, s0, rfl, h0⟩)⟩
  cq := @fun l x h => by
    change ofc23 l = some x at h; unfold ofc23 at h
    split at h
    · obtain ⟨v0, h0, h⟩ := bindS h
      cases h; exact ⟨_, _, rfl, xS_cq h0, rfl⟩
    · cases h
  eqc := fun d a b c1 c2 hd h1 h2 => by cases hd
def ofc39 : List (SV DD) → Option (DD 39)
 | [a0, a1, a2] => (xI a0).bind fun v0 => (xI a1).bind fun v1 => (xS 82 a2).bind fun v2 => some ⟨v0, v1, v2⟩
 | _ => none
def ce39 : CE DD := ⟨39, fun x => [.i .i64 (x.Volume), .i .i64 (x.Start), .fsl 82 (x.Data)], ofc39, none⟩
theorem ceOk39 : ce39.Ok where
  rdi := @fun H ρ cs x => ⟨fun h => by
    obtain ⟨A0, n0, c0, s0, h, h0⟩ := (show Dt.rd (α := q8) H cs x from h)
    subst h; exact ⟨_, _, rfl, rfl, _, _, rfl, rfl, _, _, rfl, ⟨A0, n0, c0, s0, rfl, h0⟩, rfl⟩, fun h => by
    obtain ⟨v0, r0, e0, p0, v1, r1, e1, p1, v2, r2, e2, ⟨A0, n0, c0, s0, p2, h0⟩, e⟩ := h; have e : r2 = [] := e; subst e; subst e2; subst e1; subst e0; have p0 : v0 = _ := p0; subst p0; have p1 : v1 = _ := p1; subst p1; subst p2
    exact (show Dt.rd (α := q8) H _ x from ⟨A0, n0, c0, s0, rfl, h0⟩)⟩
  cq := @fun l x h => by
    change ofc39 l = some x at h; unfold ofc39 at h
    split at h
    · obtain ⟨v0, h0, h⟩ := bindS h
      obtain ⟨v1, h1, h⟩ := bindS h; obtain ⟨v2, h2, h⟩ := bindS h; cases h; exact ⟨_, _, rfl, xI_cq h0, _, _, rfl, xI_cq h1, _, _, rfl, xS_cq h2, rfl⟩
    · cases h
  eqc := fun d a b c1 c2 hd h1 h2 => by cases hd
def q716 : List (SV DD) → Option (DD 168)
 | [a0] => (xS 4 a0).bind fun v0 => some v0
 | _ => none
def ce168 : CE DD := ⟨168, fun x => [.fsl 4 (x)], q716, none⟩
theorem ceOk168 : ce168.Ok where
  rdi := @fun H ρ cs x => ⟨fun h => by
    obtain ⟨A0, n0, c0, s0, h, h0⟩ := (show Dt.rd (α := List Bool) H cs x from h)
    subst h; exact ⟨_, _, rfl, ⟨A0, n0, c0, s0, rfl, h0⟩, rfl⟩, fun h => by
    obtain ⟨v0, r0, e0, ⟨A0, n0, c0, s0, p0, h0⟩, e⟩ := h; have e : r0 = [] := e; subst e; subst e0; subst p0
    exact (show Dt.rd (α := List Bool) H _ x from ⟨A0, n0, c0, s0, rfl, h0⟩)⟩
  cq := @fun l x h => by
    change q716 l = some x at h; unfold q716 at h
    split at h
    · obtain ⟨v0, h0, h⟩ := bindS h
      cases h; exact ⟨_, _, rfl, xS_cq h0, rfl⟩
    · cases h
  eqc := fun d a b c1 c2 hd h1 h2 => by cases hd
def ofc84 : List (SV DD) → Option (DD 84)
 | [a0] => (xS 155 a0).bind fun v0 => some v0
 | _ => none
def ce84 : CE DD := ⟨84, fun x => [.fsl 155 (x)], ofc84, none⟩
theorem ceOk84 : ce84.Ok where
  rdi := @fun H ρ cs x => ⟨fun h => by
    obtain ⟨A0, n0, c0, s0, h, h0⟩ := (show Dt.rd (α := List (BitVec 64)) H cs x from h)
    subst h; exact ⟨_, _, rfl, ⟨A0, n0, c0, s0, rfl, h0⟩, rfl⟩, fun h => by
    obtain ⟨v0, r0, e0, ⟨A0, n0, c0, s0, p0, h0⟩, e⟩ := h; have e : r0 = [] := e; subst e; subst e0; subst p0
    exact (show Dt.rd (α := List (BitVec 64)) H _ x from ⟨A0, n0, c0, s0, rfl, h0⟩)⟩
  cq := @fun l x h => by
    change ofc84 l = some x at h; unfold ofc84 at h
    split at h
    · obtain ⟨v0, h0, h⟩ := bindS h
      cases h; exact ⟨_, _, rfl, xS_cq h0, rfl⟩
    · cases h
  eqc := fun d a b c1 c2 hd h1 h2 => by cases hd
def ofc92 : List (SV DD) → Option (DD 92)
 | [a0, a1] => (xI a0).bind fun v0 => (xI a1).bind fun v1 => some ⟨v0, v1⟩
 | _ => none
def ce92 : CE DD := ⟨92, fun x => [.i .i64 (x.Start), .i .i64 (x.Count)], ofc92, some (inferInstanceAs (DecidableEq q16))⟩
theorem sc92 (a b : q16) : (([.i .i64 (a.Start), .i .i64 (a.Count)] : List Sc) = [.i .i64 (b.Start), .i .i64 (b.Count)]) ↔ a = b := by
  cases a; cases b; simp
theorem ceOk92 : ce92.Ok where
  rdi := @fun H ρ cs x => ⟨fun h => by
    obtain h := (show Dt.rd (α := q16) H cs x from h)
    subst h; exact ⟨_, _, rfl, rfl, _, _, rfl, rfl, rfl⟩, fun h => by
    obtain ⟨v0, r0, e0, p0, v1, r1, e1, p1, e⟩ := h; have e : r1 = [] := e; subst e; subst e1; subst e0; have p0 : v0 = _ := p0; subst p0; have p1 : v1 = _ := p1; subst p1
    exact (show Dt.rd (α := q16) H _ x from rfl)⟩
  cq := @fun l x h => by
    change ofc92 l = some x at h; unfold ofc92 at h
    split at h
    · obtain ⟨v0, h0, h⟩ := bindS h
      obtain ⟨v1, h1, h⟩ := bindS h; cases h; exact ⟨_, _, rfl, xI_cq h0, _, _, rfl, xI_cq h1, rfl⟩
    · cases h
  eqc := fun d a b c1 c2 hd h1 h2 => by
    cases h1; cases h2; exact sc92 a b
def ofc49 : List (SV DD) → Option (DD 49)
 | [a0, a1, a2, a3, a4] => (xI a0).bind fun v0 => (xI a1).bind fun v1 => (xI a2).bind fun v2 => (xS 3 a3).bind fun v3 => (xS 39 a4).bind fun v4 => some ⟨v0, v1, v2, v3, v4⟩
 | _ => none
def ce49 : CE DD := ⟨49, fun x => [.i .i64 (x.Base), .i .i64 (x.Number), .i .i64 (x.Time), .fsl 3 (x.Positions), .fsl 39 (x.Writes)], ofc49, none⟩
theorem ceOk49 : ce49.Ok where
  rdi := @fun H ρ cs x => ⟨fun h => by
    obtain ⟨A0, n0, c0, s0, A1, n1, c1, s1, h, h0, h1⟩ := (show Dt.rd (α := q14) H cs x from h)
    subst h; exact ⟨_, _, rfl, rfl, _, _, rfl, rfl, _, _, rfl, rfl, _, _, rfl, ⟨A0, n0, c0, s0, rfl, h0⟩, _, _, rfl, ⟨A1, n1, c1, s1, rfl, h1⟩, rfl⟩, fun h => by
    obtain ⟨v0, r0, e0, p0, v1, r1, e1, p1, v2, r2, e2, p2, v3, r3, e3, ⟨A0, n0, c0, s0, p3, h0⟩, v4, r4, e4, ⟨A1, n1, c1, s1, p4, h1⟩, e⟩ := h; have e : r4 = [] := e; subst e; subst e4; subst e3; subst e2; subst e1; subst e0; have p0 : v0 = _ := p0; subst p0; have p1 : v1 = _ := p1; subst p1; have p2 : v2 = _ := p2; subst p2; subst p3; subst p4
    exact (show Dt.rd (α := q14) H _ x from ⟨A0, n0, c0, s0, A1, n1, c1, s1, rfl, h0, h1⟩)⟩
  cq := @fun l x h => by
    change ofc49 l = some x at h; unfold ofc49 at h
    split at h
    · obtain ⟨v0, h0, h⟩ := bindS h
      obtain ⟨v1, h1, h⟩ := bindS h; obtain ⟨v2, h2, h⟩ := bindS h; obtain ⟨v3, h3, h⟩ := bindS h; obtain ⟨v4, h4, h⟩ := bindS h; cases h; exact ⟨_, _, rfl, xI_cq h0, _, _, rfl, xI_cq h1, _, _, rfl, xI_cq h2, _, _, rfl, xS_cq h3, _, _, rfl, xS_cq h4, rfl⟩
    · cases h
  eqc := fun d a b c1 c2 hd h1 h2 => by cases hd
def ofc43 : List (SV DD) → Option (DD 43)
 | [a0] => (xS 49 a0).bind fun v0 => some v0
 | _ => none
def ce43 : CE DD := ⟨43, fun x => [.fsl 49 (x)], ofc43, none⟩
theorem ceOk43 : ce43.Ok where
  rdi := @fun H ρ cs x => ⟨fun h => by
    obtain ⟨A0, n0, c0, s0, h, h0⟩ := (show Dt.rd (α := List q14) H cs x from h)
    subst h; exact ⟨_, _, rfl, ⟨A0, n0, c0, s0, rfl, h0⟩, rfl⟩, fun h => by
    obtain ⟨v0, r0, e0, ⟨A0, n0, c0, s0, p0, h0⟩, e⟩ := h; have e : r0 = [] := e; subst e; subst e0; subst p0
    exact (show Dt.rd (α := List q14) H _ x from ⟨A0, n0, c0, s0, rfl, h0⟩)⟩
  cq := @fun l x h => by
    change ofc43 l = some x at h; unfold ofc43 at h
    split at h
    · obtain ⟨v0, h0, h⟩ := bindS h
      cases h; exact ⟨_, _, rfl, xS_cq h0, rfl⟩
    · cases h
  eqc := fun d a b c1 c2 hd h1 h2 => by cases hd
def ofc47 : List (SV DD) → Option (DD 47)
 | [a0] => (xS 39 a0).bind fun v0 => some v0
 | _ => none
def ce47 : CE DD := ⟨47, fun x => [.fsl 39 (x)], ofc47, none⟩
theorem ceOk47 : ce47.Ok where
  rdi := @fun H ρ cs x => ⟨fun h => by
    obtain ⟨A0, n0, c0, s0, h, h0⟩ := (show Dt.rd (α := List q8) H cs x from h)
    subst h; exact ⟨_, _, rfl, ⟨A0, n0, c0, s0, rfl, h0⟩, rfl⟩, fun h => by
    obtain ⟨v0, r0, e0, ⟨A0, n0, c0, s0, p0, h0⟩, e⟩ := h; have e : r0 = [] := e; subst e; subst e0; subst p0
    exact (show Dt.rd (α := List q8) H _ x from ⟨A0, n0, c0, s0, rfl, h0⟩)⟩
  cq := @fun l x h => by
    change ofc47 l = some x at h; unfold ofc47 at h
    split at h
    · obtain ⟨v0, h0, h⟩ := bindS h
      cases h; exact ⟨_, _, rfl, xS_cq h0, rfl⟩
    · cases h
  eqc := fun d a b c1 c2 hd h1 h2 => by cases hd
def ofc93 : List (SV DD) → Option (DD 93)
 | [a0] => (xS 92 a0).bind fun v0 => some v0
 | _ => none
def ce93 : CE DD := ⟨93, fun x => [.fsl 92 (x)], ofc93, none⟩
theorem ceOk93 : ce93.Ok where
  rdi := @fun H ρ cs x => ⟨fun h => by
    obtain ⟨A0, n0, c0, s0, h, h0⟩ := (show Dt.rd (α := List q16) H cs x from h)
    subst h; exact ⟨_, _, rfl, ⟨A0, n0, c0, s0, rfl, h0⟩, rfl⟩, fun h => by
    obtain ⟨v0, r0, e0, ⟨A0, n0, c0, s0, p0, h0⟩, e⟩ := h; have e : r0 = [] := e; subst e; subst e0; subst p0
    exact (show Dt.rd (α := List q16) H _ x from ⟨A0, n0, c0, s0, rfl, h0⟩)⟩
  cq := @fun l x h => by
    change ofc93 l = some x at h; unfold ofc93 at h
    split at h
    · obtain ⟨v0, h0, h⟩ := bindS h
      cases h; exact ⟨_, _, rfl, xS_cq h0, rfl⟩
    · cases h
  eqc := fun d a b c1 c2 hd h1 h2 => by cases hd
def q717 : List (SV DD) → Option (DD 156)
 | [a0] => (xS 93 a0).bind fun v0 => some v0
 | _ => none
def ce156 : CE DD := ⟨156, fun x => [.fsl 93 (x)], q717, none⟩
theorem ceOk156 : ce156.Ok where
  rdi := @fun H ρ cs x => ⟨fun h => by
    obtain ⟨A0, n0, c0, s0, h, h0⟩ := (show Dt.rd (α := List (List q16)) H cs x from h)
    subst h; exact ⟨_, _, rfl, ⟨A0, n0, c0, s0, rfl, h0⟩, rfl⟩, fun h => by
    obtain ⟨v0, r0, e0, ⟨A0, n0, c0, s0, p0, h0⟩, e⟩ := h; have e : r0 = [] := e; subst e; subst e0; subst p0
    exact (show Dt.rd (α := List (List q16)) H _ x from ⟨A0, n0, c0, s0, rfl, h0⟩)⟩
  cq := @fun l x h => by
    change q717 l = some x at h; unfold q717 at h
    split at h
    · obtain ⟨v0, h0, h⟩ := bindS h
      cases h; exact ⟨_, _, rfl, xS_cq h0, rfl⟩
    · cases h
  eqc := fun d a b c1 c2 hd h1 h2 => by cases hd
def ofc5 : List (SV DD) → Option (DD 5)
 | [a0] => (xY a0).bind fun v0 => some v0
 | _ => none
def ce5 : CE DD := ⟨5, fun x => [.y (x)], ofc5, none⟩
theorem ceOk5 : ce5.Ok where
  rdi := @fun H ρ cs x => ⟨fun h => by
    obtain h := (show Dt.rd (α := BitVec 8) H cs x from h)
    subst h; exact ⟨_, _, rfl, rfl, rfl⟩, fun h => by
    obtain ⟨v0, r0, e0, p0, e⟩ := h; have e : r0 = [] := e; subst e; subst e0; have p0 : v0 = _ := p0; subst p0
    exact (show Dt.rd (α := BitVec 8) H _ x from rfl)⟩
  cq := @fun l x h => by
    change ofc5 l = some x at h; unfold ofc5 at h
    split at h
    · obtain ⟨v0, h0, h⟩ := bindS h
      cases h; exact ⟨_, _, rfl, xY_cq h0, rfl⟩
    · cases h
  eqc := fun d a b c1 c2 hd h1 h2 => by cases hd
def ofc64 : List (SV DD) → Option (DD 64)
 | [a0] => (xS 5 a0).bind fun v0 => some v0
 | _ => none
def ce64 : CE DD := ⟨64, fun x => [.fsl 5 (x)], ofc64, none⟩
theorem ceOk64 : ce64.Ok where
  rdi := @fun H ρ cs x => ⟨fun h => by
    obtain ⟨A0, n0, c0, s0, h, h0⟩ := (show Dt.rd (α := List (BitVec 8)) H cs x from h)
    subst h; exact ⟨_, _, rfl, ⟨A0, n0, c0, s0, rfl, h0⟩, rfl⟩, fun h => by
    obtain ⟨v0, r0, e0, ⟨A0, n0, c0, s0, p0, h0⟩, e⟩ := h; have e : r0 = [] := e; subst e; subst e0; subst p0
    exact (show Dt.rd (α := List (BitVec 8)) H _ x from ⟨A0, n0, c0, s0, rfl, h0⟩)⟩
  cq := @fun l x h => by
    change ofc64 l = some x at h; unfold ofc64 at h
    split at h
    · obtain ⟨v0, h0, h⟩ := bindS h
      cases h; exact ⟨_, _, rfl, xS_cq h0, rfl⟩
    · cases h
  eqc := fun d a b c1 c2 hd h1 h2 => by cases hd
def ofc45 : List (SV DD) → Option (DD 45)
 | [a0, a1, a2] => (xI a0).bind fun v0 => (xI a1).bind fun v1 => (xS 49 a2).bind fun v2 => some ⟨v0, v1, v2⟩
 | _ => none
def ce45 : CE DD := ⟨45, fun x => [.i .i64 (x.Site), .i .i64 (x.Number), .fsl 49 (x.Later)], ofc45, none⟩
theorem ceOk45 : ce45.Ok where
  rdi := @fun H ρ cs x => ⟨fun h => by
    obtain ⟨A0, n0, c0, s0, h, h0⟩ := (show Dt.rd (α := q34) H cs x from h)
    subst h; exact ⟨_, _, rfl, rfl, _, _, rfl, rfl, _, _, rfl, ⟨A0, n0, c0, s0, rfl, h0⟩, rfl⟩, fun h => by
    obtain ⟨v0, r0, e0, p0, v1, r1, e1, p1, v2, r2, e2, ⟨A0, n0, c0, s0, p2, h0⟩, e⟩ := h; have e : r2 = [] := e; subst e; subst e2; subst e1; subst e0; have p0 : v0 = _ := p0; subst p0; have p1 : v1 = _ := p1; subst p1; subst p2
    exact (show Dt.rd (α := q34) H _ x from ⟨A0, n0, c0, s0, rfl, h0⟩)⟩
  cq := @fun l x h => by
    change ofc45 l = some x at h; unfold ofc45 at h
    split at h
    · obtain ⟨v0, h0, h⟩ := bindS h
      obtain ⟨v1, h1, h⟩ := bindS h; obtain ⟨v2, h2, h⟩ := bindS h; cases h; exact ⟨_, _, rfl, xI_cq h0, _, _, rfl, xI_cq h1, _, _, rfl, xS_cq h2, rfl⟩
    · cases h
  eqc := fun d a b c1 c2 hd h1 h2 => by cases hd
def q718 : List (SV DD) → Option (DD 235)
 | [a0] => (xS 5 a0).bind fun v0 => some ⟨v0⟩
 | _ => none
def ce235 : CE DD := ⟨235, fun x => [.fsl 5 (x.left)], q718, none⟩
theorem ceOk235 : ce235.Ok where
  rdi := @fun H ρ cs x => ⟨fun h => by
    obtain ⟨A0, n0, c0, s0, h, h0⟩ := (show Dt.rd (α := q83) H cs x from h)
    subst h; exact ⟨_, _, rfl, ⟨A0, n0, c0, s0, rfl, h0⟩, rfl⟩, fun h => by
    obtain ⟨v0, r0, e0, ⟨A0, n0, c0, s0, p0, h0⟩, e⟩ := h; have e : r0 = [] := e; subst e; subst e0; subst p0
    exact (show Dt.rd (α := q83) H _ x from ⟨A0, n0, c0, s0, rfl, h0⟩)⟩
  cq := @fun l x h => by
    change q718 l = some x at h; unfold q718 at h
    split at h
    · obtain ⟨v0, h0, h⟩ := bindS h
      cases h; exact ⟨_, _, rfl, xS_cq h0, rfl⟩
    · cases h
  eqc := fun d a b c1 c2 hd h1 h2 => by cases hd
def q719 : List (SV DD) → Option (DD 185)
 | [.fel e xs i off] => match castL e 235 xs with
  | some [x] => bif decide (i = 0) && Nat.beq off 0 then some ⟨x⟩ else none
  | _ => none
 | _ => none
def ce185 : CE DD := ⟨185, fun x => [.fel 235 [x.val] 0 0], q719, none⟩
theorem ceOk185 : ce185.Ok where
  rdi := @fun H ρ cs x => ⟨fun h => by
    obtain ⟨A, n, c, s, h, h1⟩ := (show Dt.rd (α := Ptr q83) H cs x from h)
    exact ⟨_, [], h, ⟨A, n, c, s, rfl, h1, Int.le_refl _, by show (0 : Int) < ((1 : Nat) : Int); decide⟩, rfl⟩, fun h => by
    obtain ⟨v, r, e, ⟨A, n, c, s, h, h1, _⟩, e2⟩ := h; have e2 : r = [] := e2; subst e2; subst e; subst h
    exact (show Dt.rd (α := Ptr q83) H _ x from ⟨A, n, c, s, rfl, h1⟩)⟩
  cq := @fun l x h => by
    change q719 l = some x at h; unfold q719 at h
    split at h
    · split at h
      · rename_i e xs i off y hc
        obtain ⟨hb, h⟩ := cif h; cases h; obtain ⟨he, h1⟩ := q106 hc; subst he; subst h1; rw [Bool.and_eq_true] at hb; obtain ⟨hb1, hb2⟩ := hb; have hb1 := of_decide_eq_true hb1; have hb2 := Nat.eq_of_beq_eq_true hb2; subst hb1; subst hb2; exact ⟨_, _, rfl, .inr ⟨rfl, rfl, fun _ _ _ h => h⟩, rfl⟩
      · cases h
    · cases h
  eqc := fun d a b c1 c2 hd h1 h2 => by cases hd
def ofc69 : List (SV DD) → Option (DD 69)
 | [a0] => (xH a0).bind fun v0 => some v0
 | _ => none
def ce69 : CE DD := ⟨69, fun x => [.i .u16 ((x).toNat : Int)], ofc69, none⟩
theorem ceOk69 : ce69.Ok where
  rdi := @fun H ρ cs x => ⟨fun h => by
    obtain h := (show Dt.rd (α := BitVec 16) H cs x from h)
    subst h; exact ⟨_, _, rfl, rfl, rfl⟩, fun h => by
    obtain ⟨v0, r0, e0, p0, e⟩ := h; have e : r0 = [] := e; subst e; subst e0; have p0 : v0 = _ := p0; subst p0
    exact (show Dt.rd (α := BitVec 16) H _ x from rfl)⟩
  cq := @fun l x h => by
    change ofc69 l = some x at h; unfold ofc69 at h
    split at h
    · obtain ⟨v0, h0, h⟩ := bindS h
      cases h; exact ⟨_, _, rfl, xH_cq h0, rfl⟩
    · cases h
  eqc := fun d a b c1 c2 hd h1 h2 => by cases hd
def q720 : List (SV DD) → Option (DD 147)
 | [a0, a1, a2, a3, a4] => (xY a0).bind fun v0 => (xY a1).bind fun v1 => (xY a2).bind fun v2 => (xY a3).bind fun v3 => (xY a4).bind fun v4 => some ⟨v0, v1, v2, v3, v4⟩
 | _ => none
def ce147 : CE DD := ⟨147, fun x => [.y (x.Kind), .y (x.Volume), .y (x.Start), .y (x.Count), .y (x.First)], q720, some (inferInstanceAs (DecidableEq q15))⟩
theorem sc147 (a b : q15) : (([.i .u8 ((a.Kind).toNat : Int), .i .u8 ((a.Volume).toNat : Int), .i .u8 ((a.Start).toNat : Int), .i .u8 ((a.Count).toNat : Int), .i .u8 ((a.First).toNat : Int)] : List Sc) = [.i .u8 ((b.Kind).toNat : Int), .i .u8 ((b.Volume).toNat : Int), .i .u8 ((b.Start).toNat : Int), .i .u8 ((b.Count).toNat : Int), .i .u8 ((b.First).toNat : Int)]) ↔ a = b := by
  cases a; cases b; simp [← BitVec.toNat_inj]; omega
theorem ceOk147 : ce147.Ok where
  rdi := @fun H ρ cs x => ⟨fun h => by
    obtain h := (show Dt.rd (α := q15) H cs x from h)
    subst h; exact ⟨_, _, rfl, rfl, _, _, rfl, rfl, _, _, rfl, rfl, _, _, rfl, rfl, _, _, rfl, rfl, rfl⟩, fun h => by
    obtain ⟨v0, r0, e0, p0, v1, r1, e1, p1, v2, r2, e2, p2, v3, r3, e3, p3, v4, r4, e4, p4, e⟩ := h; have e : r4 = [] := e; subst e; subst e4; subst e3; subst e2; subst e1; subst e0; have p0 : v0 = _ := p0; subst p0; have p1 : v1 = _ := p1; subst p1; have p2 : v2 = _ := p2; subst p2; have p3 : v3 = _ := p3; subst p3; have p4 : v4 = _ := p4; subst p4
    exact (show Dt.rd (α := q15) H _ x from rfl)⟩
  cq := @fun l x h => by
    change q720 l = some x at h; unfold q720 at h
    split at h
    · obtain ⟨v0, h0, h⟩ := bindS h
      obtain ⟨v1, h1, h⟩ := bindS h; obtain ⟨v2, h2, h⟩ := bindS h; obtain ⟨v3, h3, h⟩ := bindS h; obtain ⟨v4, h4, h⟩ := bindS h; cases h; exact ⟨_, _, rfl, xY_cq h0, _, _, rfl, xY_cq h1, _, _, rfl, xY_cq h2, _, _, rfl, xY_cq h3, _, _, rfl, xY_cq h4, rfl⟩
    · cases h
  eqc := fun d a b c1 c2 hd h1 h2 => by
    cases h1; cases h2; exact sc147 a b
def ofc71 : List (SV DD) → Option (DD 71)
 | [a0] => (xS 147 a0).bind fun v0 => some v0
 | _ => none
def ce71 : CE DD := ⟨71, fun x => [.fsl 147 (x)], ofc71, none⟩
theorem ceOk71 : ce71.Ok where
  rdi := @fun H ρ cs x => ⟨fun h => by
    obtain ⟨A0, n0, c0, s0, h, h0⟩ := (show Dt.rd (α := List q15) H cs x from h)
    subst h; exact ⟨_, _, rfl, ⟨A0, n0, c0, s0, rfl, h0⟩, rfl⟩, fun h => by
    obtain ⟨v0, r0, e0, ⟨A0, n0, c0, s0, p0, h0⟩, e⟩ := h; have e : r0 = [] := e; subst e; subst e0; subst p0
    exact (show Dt.rd (α := List q15) H _ x from ⟨A0, n0, c0, s0, rfl, h0⟩)⟩
  cq := @fun l x h => by
    change ofc71 l = some x at h; unfold ofc71 at h
    split at h
    · obtain ⟨v0, h0, h⟩ := bindS h
      cases h; exact ⟨_, _, rfl, xS_cq h0, rfl⟩
    · cases h
  eqc := fun d a b c1 c2 hd h1 h2 => by cases hd
def ofc77 : List (SV DD) → Option (DD 77)
 | [a0, a1, a2, a3, a4, a5, a6, a7] => (xS 3 a0).bind fun v0 => (xS 89 a1).bind fun v1 => (xS 37 a2).bind fun v2 => (xS 73 a3).bind fun v3 => (xS 49 a4).bind fun v4 => (xS 39 a5).bind fun v5 => (xI a6).bind fun v6 => (xI a7).bind fun v7 => some ⟨⟨v0, v1⟩, v2, v3, v4, v5, ⟨v6, v7⟩⟩
 | _ => none
def ce77 : CE DD := ⟨77, fun x => [.fsl 3 (x.t.Sizes), .fsl 89 (x.t.Peers), .fsl 37 (x.im), .fsl 73 (x.images), .fsl 49 (x.cycles), .fsl 39 (x.open_), .i .i64 (x.has.e0), .i .i64 (x.has.e1)], ofc77, none⟩
theorem ceOk77 : ce77.Ok where
  rdi := @fun H ρ cs x => ⟨fun h => by
    obtain ⟨A0, n0, c0, s0, A1, n1, c1, s1, A2, n2, c2, s2, A3, n3, c3, s3, A4, n4, c4, s4, A5, n5, c5, s5, h, h0, h1, h2, h3, h4, h5⟩ := (show Dt.rd (α := q17) H cs x from h)
    subst h; exact ⟨_, _, rfl, ⟨A0, n0, c0, s0, rfl, h0⟩, _, _, rfl, ⟨A1, n1, c1, s1, rfl, h1⟩, _, _, rfl, ⟨A2, n2, c2, s2, rfl, h2⟩, _, _, rfl, ⟨A3, n3, c3, s3, rfl, h3⟩, _, _, rfl, ⟨A4, n4, c4, s4, rfl, h4⟩, _, _, rfl, ⟨A5, n5, c5, s5, rfl, h5⟩, _, _, rfl, rfl, _, _, rfl, rfl, rfl⟩, fun h => by
    obtain ⟨v0, r0, e0, ⟨A0, n0, c0, s0, p0, h0⟩, v1, r1, e1, ⟨A1, n1, c1, s1, p1, h1⟩, v2, r2, e2, ⟨A2, n2, c2, s2, p2, h2⟩, v3, r3, e3, ⟨A3, n3, c3, s3, p3, h3⟩, v4, r4, e4, ⟨A4, n4, c4, s4, p4, h4⟩, v5, r5, e5, ⟨A5, n5, c5, s5, p5, h5⟩, v6, r6, e6, p6, v7, r7, e7, p7, e⟩ := h; have e : r7 = [] := e; subst e; subst e7; subst e6; subst e5; subst e4; subst e3; subst e2; subst e1; subst e0; subst p0; subst p1; subst p2; subst p3; subst p4; subst p5; have p6 : v6 = _ := p6; subst p6; have p7 : v7 = _ := p7; subst p7
    exact (show Dt.rd (α := q17) H _ x from ⟨A0, n0, c0, s0, A1, n1, c1, s1, A2, n2, c2, s2, A3, n3, c3, s3, A4, n4, c4, s4, A5, n5, c5, s5, rfl, h0, h1, h2, h3, h4, h5⟩)⟩
  cq := @fun l x h => by
    change ofc77 l = some x at h; unfold ofc77 at h
    split at h
    · obtain ⟨v0, h0, h⟩ := bindS h
      obtain ⟨v1, h1, h⟩ := bindS h; obtain ⟨v2, h2, h⟩ := bindS h; obtain ⟨v3, h3, h⟩ := bindS h; obtain ⟨v4, h4, h⟩ := bindS h; obtain ⟨v5, h5, h⟩ := bindS h; obtain ⟨v6, h6, h⟩ := bindS h; obtain ⟨v7, h7, h⟩ := bindS h; cases h; exact ⟨_, _, rfl, xS_cq h0, _, _, rfl, xS_cq h1, _, _, rfl, xS_cq h2, _, _, rfl, xS_cq h3, _, _, rfl, xS_cq h4, _, _, rfl, xS_cq h5, _, _, rfl, xI_cq h6, _, _, rfl, xI_cq h7, rfl⟩
    · cases h
  eqc := fun d a b c1 c2 hd h1 h2 => by cases hd
def q721 : List (SV DD) → Option (DD 143)
 | [a0, a1, a2, a3, a4] => (xI a0).bind fun v0 => (xS 3 a1).bind fun v1 => (xS 3 a2).bind fun v2 => (xS 3 a3).bind fun v3 => (xS 39 a4).bind fun v4 => some ⟨v0, v1, v2, v3, v4⟩
 | _ => none
def ce143 : CE DD := ⟨143, fun x => [.i .i64 (x.Number), .fsl 3 (x.Sizes), .fsl 3 (x.Positions), .fsl 3 (x.Nodes), .fsl 39 (x.Writes)], q721, none⟩
theorem ceOk143 : ce143.Ok where
  rdi := @fun H ρ cs x => ⟨fun h => by
    obtain ⟨A0, n0, c0, s0, A1, n1, c1, s1, A2, n2, c2, s2, A3, n3, c3, s3, h, h0, h1, h2, h3⟩ := (show Dt.rd (α := q12) H cs x from h)
    subst h; exact ⟨_, _, rfl, rfl, _, _, rfl, ⟨A0, n0, c0, s0, rfl, h0⟩, _, _, rfl, ⟨A1, n1, c1, s1, rfl, h1⟩, _, _, rfl, ⟨A2, n2, c2, s2, rfl, h2⟩, _, _, rfl, ⟨A3, n3, c3, s3, rfl, h3⟩, rfl⟩, fun h => by
    obtain ⟨v0, r0, e0, p0, v1, r1, e1, ⟨A0, n0, c0, s0, p1, h0⟩, v2, r2, e2, ⟨A1, n1, c1, s1, p2, h1⟩, v3, r3, e3, ⟨A2, n2, c2, s2, p3, h2⟩, v4, r4, e4, ⟨A3, n3, c3, s3, p4, h3⟩, e⟩ := h; have e : r4 = [] := e; subst e; subst e4; subst e3; subst e2; subst e1; subst e0; have p0 : v0 = _ := p0; subst p0; subst p1; subst p2; subst p3; subst p4
    exact (show Dt.rd (α := q12) H _ x from ⟨A0, n0, c0, s0, A1, n1, c1, s1, A2, n2, c2, s2, A3, n3, c3, s3, rfl, h0, h1, h2, h3⟩)⟩
  cq := @fun l x h => by
    change q721 l = some x at h; unfold q721 at h
    split at h
    · obtain ⟨v0, h0, h⟩ := bindS h
      obtain ⟨v1, h1, h⟩ := bindS h; obtain ⟨v2, h2, h⟩ := bindS h; obtain ⟨v3, h3, h⟩ := bindS h; obtain ⟨v4, h4, h⟩ := bindS h; cases h; exact ⟨_, _, rfl, xI_cq h0, _, _, rfl, xS_cq h1, _, _, rfl, xS_cq h2, _, _, rfl, xS_cq h3, _, _, rfl, xS_cq h4, rfl⟩
    · cases h
  eqc := fun d a b c1 c2 hd h1 h2 => by cases hd
def q722 : List (SV DD) → Option (DD 215)
 | [a0, a1, a2, a3, a4, a5] => (xI a0).bind fun v0 => (xS 3 a1).bind fun v1 => (xS 3 a2).bind fun v2 => (xS 3 a3).bind fun v3 => (xS 39 a4).bind fun v4 => (xS 4 a5).bind fun v5 => some ⟨⟨v0, v1, v2, v3, v4⟩, v5⟩
 | _ => none
def ce215 : CE DD := ⟨215, fun x => [.i .i64 (x.c.Number), .fsl 3 (x.c.Sizes), .fsl 3 (x.c.Positions), .fsl 3 (x.c.Nodes), .fsl 39 (x.c.Writes), .fsl 4 (x.part)], q722, none⟩
theorem ceOk215 : ce215.Ok where
  rdi := @fun H ρ cs x => ⟨fun h => by
    obtain ⟨A0, n0, c0, s0, A1, n1, c1, s1, A2, n2, c2, s2, A3, n3, c3, s3, A4, n4, c4, s4, h, h0, h1, h2, h3, h4⟩ := (show Dt.rd (α := q26) H cs x from h)
    subst h; exact ⟨_, _, rfl, rfl, _, _, rfl, ⟨A0, n0, c0, s0, rfl, h0⟩, _, _, rfl, ⟨A1, n1, c1, s1, rfl, h1⟩, _, _, rfl, ⟨A2, n2, c2, s2, rfl, h2⟩, _, _, rfl, ⟨A3, n3, c3, s3, rfl, h3⟩, _, _, rfl, ⟨A4, n4, c4, s4, rfl, h4⟩, rfl⟩, fun h => by
    obtain ⟨v0, r0, e0, p0, v1, r1, e1, ⟨A0, n0, c0, s0, p1, h0⟩, v2, r2, e2, ⟨A1, n1, c1, s1, p2, h1⟩, v3, r3, e3, ⟨A2, n2, c2, s2, p3, h2⟩, v4, r4, e4, ⟨A3, n3, c3, s3, p4, h3⟩, v5, r5, e5, ⟨A4, n4, c4, s4, p5, h4⟩, e⟩ := h; have e : r5 = [] := e; subst e; subst e5; subst e4; subst e3; subst e2; subst e1; subst e0; have p0 : v0 = _ := p0; subst p0; subst p1; subst p2; subst p3; subst p4; subst p5
    exact (show Dt.rd (α := q26) H _ x from ⟨A0, n0, c0, s0, A1, n1, c1, s1, A2, n2, c2, s2, A3, n3, c3, s3, A4, n4, c4, s4, rfl, h0, h1, h2, h3, h4⟩)⟩
  cq := @fun l x h => by
    change q722 l = some x at h; unfold q722 at h
    split at h
    · obtain ⟨v0, h0, h⟩ := bindS h
      obtain ⟨v1, h1, h⟩ := bindS h; obtain ⟨v2, h2, h⟩ := bindS h; obtain ⟨v3, h3, h⟩ := bindS h; obtain ⟨v4, h4, h⟩ := bindS h; obtain ⟨v5, h5, h⟩ := bindS h; cases h; exact ⟨_, _, rfl, xI_cq h0, _, _, rfl, xS_cq h1, _, _, rfl, xS_cq h2, _, _, rfl, xS_cq h3, _, _, rfl, xS_cq h4, _, _, rfl, xS_cq h5, rfl⟩
    · cases h
  eqc := fun d a b c1 c2 hd h1 h2 => by cases hd
def q723 : List (SV DD) → Option (DD 269)
 | [a0, a1] => (xI a0).bind fun v0 => (xI a1).bind fun v1 => some ⟨v0, v1⟩
 | _ => none
def ce269 : CE DD := ⟨269, fun x => [.i .i64 (x.volume), .i .i64 (x.sector)], q723, some (inferInstanceAs (DecidableEq q9))⟩
theorem sc269 (a b : q9) : (([.i .i64 (a.volume), .i .i64 (a.sector)] : List Sc) = [.i .i64 (b.volume), .i .i64 (b.sector)]) ↔ a = b := by
  cases a; cases b; simp
theorem ceOk269 : ce269.Ok where
  rdi := @fun H ρ cs x => ⟨fun h => by
    obtain h := (show Dt.rd (α := q9) H cs x from h)
    subst h; exact ⟨_, _, rfl, rfl, _, _, rfl, rfl, rfl⟩, fun h => by
    obtain ⟨v0, r0, e0, p0, v1, r1, e1, p1, e⟩ := h; have e : r1 = [] := e; subst e; subst e1; subst e0; have p0 : v0 = _ := p0; subst p0; have p1 : v1 = _ := p1; subst p1
    exact (show Dt.rd (α := q9) H _ x from rfl)⟩
  cq := @fun l x h => by
    change q723 l = some x at h; unfold q723 at h
    split at h
    · obtain ⟨v0, h0, h⟩ := bindS h
      obtain ⟨v1, h1, h⟩ := bindS h; cases h; exact ⟨_, _, rfl, xI_cq h0, _, _, rfl, xI_cq h1, rfl⟩
    · cases h
  eqc := fun d a b c1 c2 hd h1 h2 => by
    cases h1; cases h2; exact sc269 a b
def tab : Tb DD := [ce4, ce3, ce155, ce86, ce89, ce25, ce22, ce52, ce28, ce82, ce37, ce73, ce72, ce23, ce39, ce168, ce84, ce92, ce49, ce43, ce47, ce93, ce156, ce5, ce64, ce45, ce235, ce185, ce69, ce147, ce71, ce77, ce143, ce215, ce269]
theorem tabOk : TbOk tab := ⟨ceOk4, ceOk3, ceOk155, ceOk86, ceOk89, ceOk25, ceOk22, ceOk52, ceOk28, ceOk82, ceOk37, ceOk73, ceOk72, ceOk23, ceOk39, ceOk168, ceOk84, ceOk92, ceOk49, ceOk43, ceOk47, ceOk93, ceOk156, ceOk5, ceOk64, ceOk45, ceOk235, ceOk185, ceOk69, ceOk147, ceOk71, ceOk77, ceOk143, ceOk215, ceOk269, trivial⟩
def strK1 : ByteArray := { data := #[1, 4, 1, 2, 5, 1, 0, 2] }
instance rg_api_Bitmap : Rg q10 := ⟨fun x => Rg.rg x.Size ∧ Rg.rg x.Words⟩
instance rg_api_Peer : Rg q13 := ⟨fun x => Rg.rg x.Site ∧ Rg.rg x.Common ∧ Rg.rg x.Dirty⟩
instance rg_api_Tracker : Rg q11 := ⟨fun x => Rg.rg x.Sizes ∧ Rg.rg x.Peers⟩
instance rg_api_Write : Rg q8 := ⟨fun x => Rg.rg x.Volume ∧ Rg.rg x.Start ∧ Rg.rg x.Data⟩
instance rg_api_Cycle : Rg q14 := ⟨fun x => Rg.rg x.Base ∧ Rg.rg x.Number ∧ Rg.rg x.Time ∧ Rg.rg x.Positions ∧ Rg.rg x.Writes⟩
instance rg_standbylaw43_Agreement : Rg q34 := ⟨fun x => Rg.rg x.Site ∧ Rg.rg x.Number ∧ Rg.rg x.Later⟩
theorem rd5 : q186 Tryz.prog 5 (BitVec 8) := q186.byte Tryz.underlying5 (by kernel_rfl)
instance rg_standbylaw43_Step : Rg q15 := ⟨fun x => Rg.rg x.Kind ∧ Rg.rg x.Volume ∧ Rg.rg x.Start ∧ Rg.rg x.Count ∧ Rg.rg x.First⟩
theorem rd147 : q186 Tryz.prog 147 (q15) := (@Reads.struct Tryz.prog 147 _ (BitVec 8 × BitVec 8 × BitVec 8 × BitVec 8 × BitVec 8 × Unit) (@datProd _ _ (datD (BitVec 8)) (@datProd _ _ (datD (BitVec 8)) (@datProd _ _ (datD (BitVec 8)) (@datProd _ _ (datD (BitVec 8)) (@datProd _ _ (datD (BitVec 8)) datUnit))))) Tryz.underlying147 (by kernel_rfl) (@q174.cons _ _ _ _ _ _ (datD (BitVec 8)) _ rfl rd5 (@q174.cons _ _ _ _ _ _ (datD (BitVec 8)) _ rfl rd5 (@q174.cons _ _ _ _ _ _ (datD (BitVec 8)) _ rfl rd5 (@q174.cons _ _ _ _ _ _ (datD (BitVec 8)) _ rfl rd5 (@q174.cons _ _ _ _ _ _ (datD (BitVec 8)) _ rfl rd5 (.nil _))))))).map rfl fun {H cs a} h => by
  obtain ⟨a0, a1, a2, a3, a4, _⟩ := a; obtain ⟨_, _, rfl, ⟨rfl, r0⟩, _, _, rfl, ⟨rfl, r1⟩, _, _, rfl, ⟨rfl, r2⟩, _, _, rfl, ⟨rfl, r3⟩, _, _, rfl, ⟨rfl, r4⟩, hz⟩ := h; cases hz; exact ⟨⟨a0, a1, a2, a3, a4⟩, rfl, r0, r1, r2, r3, r4⟩
theorem rd71 : q186 Tryz.prog 71 (List q15) := q186.slice Tryz.underlying71 (by kernel_rfl) rd147 (by decide)
end Go.Proofs.YtgojhiknicmopaaGreatDoor
namespace Go.Proofs.YtgojhiknicmopaaGreatDoor
open Go.RowKit Go.ChangeShapes Go.WideShapes Go.ChangeAt
theorem Tryz.own : ownKnob Tryz.prog.godebug = none := by kernel_rfl
theorem Tryz.laidOut : laidOutB Tryz.prog = true := by kernel_rfl
theorem Tryz.doorMet (os : Os) (args : Array Value) : laidMetH Tryz.prog [("math/bits.deBruijn64tab", Rows.laid_math_bits_deBruijn64tab)] ((World.doorLaid Tryz.prog 14 os).forCall (fun _ _ => 0) ⟨#[], args, []⟩).memory :=
  laidMetH_of_parts3 (fuel := 8) (laidMet_of_run' 8 (by kernel_rfl) (by kernel_rfl)) (by kernel_rfl) (by kernel_rfl)
theorem q802 {W : World} (h : laidMetH Tryz.prog [("math/bits.deBruijn64tab", Rows.laid_math_bits_deBruijn64tab)] W) : TabH (HW W) 0 :=
  q516 (t := 267) (e := 5) (by kernel_rfl) (by kernel_rfl) Tryz.underlying267 Tryz.underlying5 (by kernel_rfl) (by kernel_rfl) rfl h
theorem lawRes (y : TupD DD [4]) (hy : y.1 = true) {H : Hp} {v : Value} {L : List Ent} (hr : ResR Tryz.prog tab [4] [[false]] y H v L) : ∃ z, z = true ∧ v = .bool z ∧ L = [] := by
  obtain ⟨ρ, _, _, _, _, h1, h2⟩ := hr 0 (fun _ => none) (fun _ _ => rfl) _ _ _ (show resE Tryz.prog tab _ _ y 0 = some (.b y.1, [], 0) by kernel_rfl); exact ⟨y.1, hy, h1, h2⟩
theorem pkw71 (v : Value) (cs : List Value) : PkR Tryz.prog 71 v cs = (cs = [v]) := by kernel_rfl
end Go.Proofs.YtgojhiknicmopaaGreatDoor
namespace Go.Proofs.YtgojhiknicmopaaGreatDoor
open Go.RowKit
def Z0 (x0 : Int) (Φ : Bool → Prop) : Prop :=
 (x0 < 1 →
 Φ true) ∧
 (¬ (x0 < 1) →
 Φ (decide (4096 < x0)))
def Z1 (x0 : List Int) (Φ : Int → Prop) : (Int) → ((Int) → Prop) → Prop
 | v1, rec1 =>
 (v1 < (x0.length : Int) →
 inX v1 x0.length ∧
 Z0 (ix x0 v1) fun v2 =>
 (v2 = true →
 (0 ≤ v1 →
 Φ 2) ∧
 (¬ (0 ≤ v1) →
 Φ 0)) ∧
 (¬ (v2 = true) →
 inI (v1 + 1) ∧
 rec1 (v1 + 1))) ∧
 (¬ (v1 < (x0.length : Int)) →
 (0 ≤ ((-1) : Int) →
 Φ 2) ∧
 (¬ (0 ≤ ((-1) : Int)) →
 Φ 0))
def Z2 (x0 : List Int) (Φ : Int → Prop) : Prop :=
 ((x0.length : Int) < 1 →
 Φ 6) ∧
 (¬ ((x0.length : Int) < 1) →
 (8 < (x0.length : Int) →
 Φ 6) ∧
 (¬ (8 < (x0.length : Int)) →
 LoopW (Z1 x0 Φ) 0))
def q253 (x0 : Int) (Φ : List Sec → Prop) : Prop :=
 0 ≤ x0 ∧
 lenOk x0.toNat 8 ∧
 Φ (List.replicate x0.toNat (sec0 : Sec))
def q487 (x0 : List Int) (Φ : List (List Sec) × Int → Prop) : (Int × List (List Sec)) → ((Int × List (List Sec)) → Prop) → Prop
 | (v2, v3), rec1 =>
 (v2 < (x0.length : Int) →
 inX v2 x0.length ∧
 q253 (ix x0 v2) fun v4 =>
 lenOk (v3 ++ ([v4] : List (List Sec))).length 24 ∧
 inI (v2 + 1) ∧
 rec1 ((v2 + 1), (v3 ++ ([v4] : List (List Sec))))) ∧
 (¬ (v2 < (x0.length : Int)) →
 Φ (v3, 0))
def q41 (x0 : List Int) (Φ : List (List Sec) × Int → Prop) : Prop :=
 Z2 x0 fun v1 =>
 (v1 ≠ 0 →
 Φ (([] : List (List Sec)), v1)) ∧
 (¬ (v1 ≠ 0) →
 0 ≤ (x0.length : Int) ∧
 lenOk (x0.length : Int).toNat 24 ∧
 LoopW (q487 x0 Φ) (0, ([] : List (List Sec))))
def Z3 (x0 : Int) (x1 : Int) (x2 : Int) (Φ : Bool → Prop) : Prop :=
 (x1 ≤ x0 →
 Φ (decide (x0 ≤ x2))) ∧
 (¬ (x1 ≤ x0) →
 Φ false)
def Z4 (x0 : Int) (Φ : Bool → Prop) : Prop :=
 Z3 x0 0 3 fun v1 =>
 Φ v1
def Z5 (x0 : Int) (Φ : Int → Prop) : Prop :=
 inI (x0 + 64) ∧
 inI ((x0 + 64) - 1) ∧
 (0 ≤ ((x0 + 64) - 1) ∧ inI ((x0 + 64) - 1) ∧ (0 : Int) < 64) ∧
 Φ (((x0 + 64) - 1) / 64)
def q435 (x0 : Int) (Φ : q10 × Int → Prop) : Bool → Prop
 | v1 =>
 (v1 = true →
 Φ ((q10.mk 0 ([] : List (BitVec 64))), 2)) ∧
 (¬ (v1 = true) →
 Z5 x0 fun v2 =>
 0 ≤ v2 ∧
 lenOk v2.toNat 8 ∧
 Φ ((q10.mk x0 (List.replicate v2.toNat (0#64 : BitVec 64))), 0))
def q192 (x0 : Int) (Φ : q10 × Int → Prop) : Prop :=
 Join (q435 x0 Φ) fun J1 =>
 (x0 < 0 →
 J1 true) ∧
 (¬ (x0 < 0) →
 J1 (decide (4096 < x0)))
def Z6 (x0 : List Int) (Φ : List q10 × Int → Prop) : (Int × List q10) → ((Int × List q10) → Prop) → Prop
 | (v1, v2), rec1 =>
 (v1 < (x0.length : Int) →
 inX v1 x0.length ∧
 q192 (ix x0 v1) fun v3 =>
 (v3.2 ≠ 0 →
 Φ (([] : List q10), v3.2)) ∧
 (¬ (v3.2 ≠ 0) →
 lenOk (v2 ++ ([v3.1] : List q10)).length 32 ∧
 inI (v1 + 1) ∧
 rec1 ((v1 + 1), (v2 ++ ([v3.1] : List q10))))) ∧
 (¬ (v1 < (x0.length : Int)) →
 Φ (v2, 0))
def Z7 (x0 : List Int) (Φ : List q10 × Int → Prop) : Prop :=
 LoopW (Z6 x0 Φ) (0, ([] : List q10))
def Z8 (x0 : List Int) (Φ : List Int → Prop) : Prop :=
 (x0 = [] →
 Φ ([] : List Int)) ∧
 (
 lenOk (([] : List Int) ++ x0).length 8 ∧
 Φ (([] : List Int) ++ x0))
def Z9 (v5 : List (Int × q13)) (v8 : List Int) (Φ : q11 × Int → Prop) : (Int × List q13) → ((Int × List q13) → Prop) → Prop
 | (v9, v10), rec3 =>
 (v9 < ((sortZ (v5.map fun p => p.1)).length : Int) →
 inX v9 (sortZ (v5.map fun p => p.1)).length ∧
 lenOk (v10 ++ ([(mget v5 (ix (sortZ (v5.map fun p => p.1)) v9) (q13.mk 0 0 ([] : List q10)))] : List q13)).length 40 ∧
 inI (v9 + 1) ∧
 rec3 ((v9 + 1), (v10 ++ ([(mget v5 (ix (sortZ (v5.map fun p => p.1)) v9) (q13.mk 0 0 ([] : List q10)))] : List q13)))) ∧
 (¬ (v9 < ((sortZ (v5.map fun p => p.1)).length : Int)) →
 Φ ((q11.mk v8 v10), 0))
def Z10 (x0 : List Int) (x1 : List Int) (x2 : Int) (Φ : q11 × Int → Prop) : (Int × (List (Int × q13))) → ((Int × (List (Int × q13))) → Prop) → Prop
 | (v4, v5), rec2 =>
 (v4 < (x1.length : Int) →
 inX v4 x1.length ∧
 ((mhas v5 (ix x1 v4)) = true →
 Φ ((q11.mk ([] : List Int) ([] : List q13)), 8)) ∧
 (¬ ((mhas v5 (ix x1 v4)) = true) →
 Z7 x0 fun v6 =>
 (v6.2 ≠ 0 →
 Φ ((q11.mk ([] : List Int) ([] : List q13)), v6.2)) ∧
 (¬ (v6.2 ≠ 0) →
 inI (v4 + 1) ∧
 rec2 ((v4 + 1), (mput v5 (ix x1 v4) (q13.mk (ix x1 v4) x2 v6.1)))))) ∧
 (¬ (v4 < (x1.length : Int)) →
 Z3 x2 0 1073741824 fun v7 =>
 (¬ (v7 = true) →
 Φ ((q11.mk ([] : List Int) ([] : List q13)), 2)) ∧
 (¬ (¬ (v7 = true)) →
 Z8 x0 fun v8 =>
 (v5.map fun p => p.1).Nodup ∧
 (∀ p, p ∈ v5 → inI p.1) ∧
 lenOk v5.length 8 ∧
 LoopW (Z9 v5 v8 Φ) (0, ([] : List q13))))
def Z11 (x0 : List Int) (x1 : List Int) (x2 : Int) (Φ : q11 × Int → Prop) : (Int) → ((Int) → Prop) → Prop
 | v2, rec1 =>
 (v2 < (x1.length : Int) →
 inX v2 x1.length ∧
 Z4 (ix x1 v2) fun v3 =>
 (¬ (v3 = true) →
 Φ ((q11.mk ([] : List Int) ([] : List q13)), 2)) ∧
 (¬ (¬ (v3 = true)) →
 inI (v2 + 1) ∧
 rec1 (v2 + 1))) ∧
 (¬ (v2 < (x1.length : Int)) →
 LoopW (Z10 x0 x1 x2 Φ) (0, ([] : List (Int × q13))))
def q93 (x0 : List Int) (x1 : List Int) (x2 : Int) (Φ : q11 × Int → Prop) : Prop :=
 q41 x0 fun v1 =>
 (v1.2 ≠ 0 →
 Φ ((q11.mk ([] : List Int) ([] : List q13)), v1.2)) ∧
 (¬ (v1.2 ≠ 0) →
 (4 < (x1.length : Int) →
 Φ ((q11.mk ([] : List Int) ([] : List q13)), 6)) ∧
 (¬ (4 < (x1.length : Int)) →
 LoopW (Z11 x0 x1 x2 Φ) 0))
def Z12 (x0 : q10) (Φ : Int → Prop) : Prop :=
 (x0.Size < 0 →
 Φ 3) ∧
 (¬ (x0.Size < 0) →
 (4096 < x0.Size →
 Φ 3) ∧
 (¬ (4096 < x0.Size) →
 ∃ v1 : Int × Unit, Z5 x0.Size (fun z => (z, ()) = v1) ∧
 ((x0.Words.length : Int) ≠ v1.1 →
 Φ 3) ∧
 (¬ ((x0.Words.length : Int) ≠ v1.1) →
 (0 ≤ x0.Size ∧ 64 ≠ (0 : Int)) ∧
 (0 < (x0.Size % 64) →
 inI ((x0.Words.length : Int) - 1) ∧
 inX ((x0.Words.length : Int) - 1) x0.Words.length ∧
 0 ≤ (x0.Size % 64) ∧
 (((ix x0.Words ((x0.Words.length : Int) - 1)) >>> ((x0.Size % 64) : Int).toNat) ≠ (0#64) →
 Φ 3) ∧
 (¬ (((ix x0.Words ((x0.Words.length : Int) - 1)) >>> ((x0.Size % 64) : Int).toNat) ≠ (0#64)) →
 Φ 0)) ∧
 (¬ (0 < (x0.Size % 64)) →
 Φ 0))))
def Z13 (x0 : q10) (x1 : Int) (Φ : Bool × Int → Prop) : Prop :=
 Z12 x0 fun v1 =>
 (v1 ≠ 0 →
 Φ (false, v1)) ∧
 (¬ (v1 ≠ 0) →
 (x0.Size ≠ x1 →
 Φ (false, 22)) ∧
 (¬ (x0.Size ≠ x1) →
 Φ (true, 0)))
def Z14 (x0 : List q10) (x1 : List Int) (Φ : Int → Prop) : (Int × List Bool) → ((Int × List Bool) → Prop) → Prop
 | (v1, v2), rec1 =>
 (v1 < (x0.length : Int) →
 inX v1 x0.length ∧
 inX v1 x1.length ∧
 ∃ v3 : Bool × Int × Unit, Z13 (ix x0 v1) (ix x1 v1) (fun z => (z.1, z.2, ()) = v3) ∧
 (v3.2.1 ≠ 0 →
 Φ v3.2.1) ∧
 (¬ (v3.2.1 ≠ 0) →
 lenOk (v2 ++ ([v3.1] : List Bool)).length 1 ∧
 inI (v1 + 1) ∧
 rec1 ((v1 + 1), (v2 ++ ([v3.1] : List Bool))))) ∧
 (¬ (v1 < (x0.length : Int)) →
 Φ 0)
def Z15 (x0 : List q10) (x1 : List Int) (Φ : Int → Prop) : Prop :=
 ((x0.length : Int) ≠ (x1.length : Int) →
 Φ 6) ∧
 (¬ ((x0.length : Int) ≠ (x1.length : Int)) →
 LoopW (Z14 x0 x1 Φ) (0, ([] : List Bool)))
def Z16 (x0 : q11) (Φ : Int → Prop) : (Int × Int) → ((Int × Int) → Prop) → Prop
 | (v2, v3), rec1 =>
 (v3 < (x0.Peers.length : Int) →
 inX v3 x0.Peers.length ∧
 Z4 ((ix x0.Peers v3).Site) fun v4 =>
 (¬ (v4 = true) →
 Φ 2) ∧
 (¬ (¬ (v4 = true)) →
 (((ix x0.Peers v3).Site) ≤ v2 →
 Φ 8) ∧
 (¬ (((ix x0.Peers v3).Site) ≤ v2) →
 Z3 ((ix x0.Peers v3).Common) 0 1073741824 fun v5 =>
 (¬ (v5 = true) →
 Φ 2) ∧
 (¬ (¬ (v5 = true)) →
 Z15 ((ix x0.Peers v3).Dirty) x0.Sizes fun v6 =>
 (v6 ≠ 0 →
 Φ v6) ∧
 (¬ (v6 ≠ 0) →
 inI (v3 + 1) ∧
 rec1 ((ix x0.Peers v3).Site, (v3 + 1))))))) ∧
 (¬ (v3 < (x0.Peers.length : Int)) →
 Φ 0)
def Z17 (x0 : q11) (Φ : Int → Prop) : Prop :=
 q41 x0.Sizes fun v1 =>
 (v1.2 ≠ 0 →
 Φ v1.2) ∧
 (¬ (v1.2 ≠ 0) →
 (4 < (x0.Peers.length : Int) →
 Φ 6) ∧
 (¬ (4 < (x0.Peers.length : Int)) →
 LoopW (Z16 x0 Φ) ((-1), 0)))
def Z18 (x0 : List Sec) (Φ : Int → Prop) : Prop :=
 Φ (x0.length : Int)
def Z19 (x0 : List (List Sec)) (Φ : List Int → Prop) : (Int × List Int) → ((Int × List Int) → Prop) → Prop
 | (v1, v2), rec1 =>
 (v1 < (x0.length : Int) →
 inX v1 x0.length ∧
 Z18 (ix x0 v1) fun v3 =>
 lenOk (v2 ++ ([v3] : List Int)).length 8 ∧
 inI (v1 + 1) ∧
 rec1 ((v1 + 1), (v2 ++ ([v3] : List Int)))) ∧
 (¬ (v1 < (x0.length : Int)) →
 Φ v2)
def q164 (x0 : List (List Sec)) (Φ : List Int → Prop) : Prop :=
 0 ≤ (x0.length : Int) ∧
 lenOk (x0.length : Int).toNat 8 ∧
 LoopW (Z19 x0 Φ) (0, ([] : List Int))
def q94 (x0 : List (List Sec)) (Φ : Int → Prop) : Prop :=
 q164 x0 fun v1 =>
 Z2 v1 fun v2 =>
 Φ v2
def q165 (x0 : List (List Sec)) (x1 : q8) (Φ : Int → Prop) : Bool → Prop
 | v1 =>
 (v1 = true →
 Φ 7) ∧
 (¬ (v1 = true) →
 ((x1.Data.length : Int) = 0 →
 Φ 1) ∧
 (¬ ((x1.Data.length : Int) = 0) →
 (x1.Start < 0 →
 Φ 2) ∧
 (¬ (x1.Start < 0) →
 inX x1.Volume x0.length ∧
 inI (((ix x0 x1.Volume).length : Int) - (x1.Data.length : Int)) ∧
 ((((ix x0 x1.Volume).length : Int) - (x1.Data.length : Int)) < x1.Start →
 Φ 2) ∧
 (¬ ((((ix x0 x1.Volume).length : Int) - (x1.Data.length : Int)) < x1.Start) →
 Φ 0))))
def q111 (x0 : List (List Sec)) (x1 : q8) (Φ : Int → Prop) : Prop :=
 Join (q165 x0 x1 Φ) fun J1 =>
 (x1.Volume < 0 →
 J1 true) ∧
 (¬ (x1.Volume < 0) →
 J1 (decide ((x0.length : Int) ≤ x1.Volume)))
def q64 (x0 : List (List Sec)) (x1 : q8) (Φ : Int → Prop) : Prop :=
 q94 x0 fun v1 =>
 (v1 ≠ 0 →
 Φ v1) ∧
 (¬ (v1 ≠ 0) →
 q111 x0 x1 fun v2 =>
 Φ v2)
def Z20 (x0 : List (BitVec 64)) (Φ : List (BitVec 64) → Prop) : Prop :=
 (x0 = [] →
 Φ ([] : List (BitVec 64))) ∧
 (
 lenOk (([] : List (BitVec 64)) ++ x0).length 8 ∧
 Φ (([] : List (BitVec 64)) ++ x0))
def q166 (x0 : q10) (Φ : q10 → Prop) : Prop :=
 ∃ v1 : List (BitVec 64) × Unit, Z20 x0.Words (fun z => (z, ()) = v1) ∧
 Φ (q10.mk x0.Size v1.1)
def Z21 (x0 : List q10) (Φ : List q10 → Prop) : (Int × List q10) → ((Int × List q10) → Prop) → Prop
 | (v1, v2), rec1 =>
 (v1 < (x0.length : Int) →
 inX v1 x0.length ∧
 q166 (ix x0 v1) fun v3 =>
 lenOk (v2 ++ ([v3] : List q10)).length 32 ∧
 inI (v1 + 1) ∧
 rec1 ((v1 + 1), (v2 ++ ([v3] : List q10)))) ∧
 (¬ (v1 < (x0.length : Int)) →
 Φ v2)
def Z22 (x0 : List q10) (Φ : List q10 → Prop) : Prop :=
 LoopW (Z21 x0 Φ) (0, ([] : List q10))
def q167 (x0 : q16) (x1 : Int) (Φ : Bool → Prop) : Prop :=
 (0 ≤ x0.Start →
 (0 ≤ x0.Count →
 (x0.Start ≤ x1 →
 inI (x1 - x0.Start) ∧
 Φ (decide (x0.Count ≤ (x1 - x0.Start)))) ∧
 (¬ (x0.Start ≤ x1) →
 Φ false)) ∧
 (¬ (0 ≤ x0.Count) →
 Φ false)) ∧
 (¬ (0 ≤ x0.Start) →
 Φ false)
def q118 (x0 : Int) (x1 : Int) (x2 : Int) (Φ : BitVec 64 → Prop) : Prop :=
 inI (x0 * 64) ∧
 inI (x1 - (x0 * 64)) ∧
 inI (x0 * 64) ∧
 inI (x2 - (x0 * 64)) ∧
 ((if 64 < (x2 - (x0 * 64)) then 64 else (x2 - (x0 * 64))) ≤ (if (x1 - (x0 * 64)) < 0 then 0 else (x1 - (x0 * 64))) →
 Φ (0#64)) ∧
 (¬ ((if 64 < (x2 - (x0 * 64)) then 64 else (x2 - (x0 * 64))) ≤ (if (x1 - (x0 * 64)) < 0 then 0 else (x1 - (x0 * 64)))) →
 inI ((if 64 < (x2 - (x0 * 64)) then 64 else (x2 - (x0 * 64))) - (if (x1 - (x0 * 64)) < 0 then 0 else (x1 - (x0 * 64)))) ∧
 inI (64 - ((if 64 < (x2 - (x0 * 64)) then 64 else (x2 - (x0 * 64))) - (if (x1 - (x0 * 64)) < 0 then 0 else (x1 - (x0 * 64))))) ∧
 0 ≤ (64 - ((if 64 < (x2 - (x0 * 64)) then 64 else (x2 - (x0 * 64))) - (if (x1 - (x0 * 64)) < 0 then 0 else (x1 - (x0 * 64))))) ∧
 0 ≤ (if (x1 - (x0 * 64)) < 0 then 0 else (x1 - (x0 * 64))) ∧
 Φ (((18446744073709551615#64) >>> ((64 - ((if 64 < (x2 - (x0 * 64)) then 64 else (x2 - (x0 * 64))) - (if (x1 - (x0 * 64)) < 0 then 0 else (x1 - (x0 * 64))))) : Int).toNat) <<< ((if (x1 - (x0 * 64)) < 0 then 0 else (x1 - (x0 * 64))) : Int).toNat))
def Z23 (x0 : BitVec 64) (x1 : BitVec 64) (Φ : BitVec 64 → Prop) : Prop :=
 Φ (x0 ||| x1)
def q436 (x0 : q10) (x1 : q16) (v3 : List (BitVec 64)) (Φ : q10 × Int → Prop) : (Int × List (BitVec 64)) → ((Int × List (BitVec 64)) → Prop) → Prop
 | (v4, v5), rec1 =>
 (v4 < (v3.length : Int) →
 inX v4 v5.length ∧
 inI (x1.Start + x1.Count) ∧
 ∃ v6 : BitVec 64 × Unit, q118 v4 x1.Start (x1.Start + x1.Count) (fun z => (z, ()) = v6) ∧
 ∃ v7 : BitVec 64 × Unit, Z23 (ix v5 v4) v6.1 (fun z => (z, ()) = v7) ∧
 inX v4 v5.length ∧
 inI (v4 + 1) ∧
 rec1 ((v4 + 1), (put v5 v4 v7.1))) ∧
 (¬ (v4 < (v3.length : Int)) →
 Φ ((q10.mk x0.Size v5), 0))
def q112 (x0 : q10) (x1 : q16) (Φ : q10 × Int → Prop) : Prop :=
 Z12 x0 fun v1 =>
 (v1 ≠ 0 →
 Φ ((q10.mk 0 ([] : List (BitVec 64))), v1)) ∧
 (¬ (v1 ≠ 0) →
 q167 x1 x0.Size fun v2 =>
 (¬ (v2 = true) →
 Φ ((q10.mk 0 ([] : List (BitVec 64))), 2)) ∧
 (¬ (¬ (v2 = true)) →
 Z20 x0.Words fun v3 =>
 LoopW (q436 x0 x1 v3 Φ) (0, v3)))
def Z24 (v8 : List ((Int × q13) × List q10)) (v10 : List Int) (Φ : q11 × Int → Prop) : (Int × List q13) → ((Int × List q13) → Prop) → Prop
 | (v11, v12), rec3 =>
 (v11 < ((sortZ ((v8.map fun p => (p.1.1, (q13.mk p.1.2.Site p.1.2.Common p.2))).map fun p => p.1)).length : Int) →
 inX v11 (sortZ ((v8.map fun p => (p.1.1, (q13.mk p.1.2.Site p.1.2.Common p.2))).map fun p => p.1)).length ∧
 lenOk (v12 ++ ([(mget (v8.map fun p => (p.1.1, (q13.mk p.1.2.Site p.1.2.Common p.2))) (ix (sortZ ((v8.map fun p => (p.1.1, (q13.mk p.1.2.Site p.1.2.Common p.2))).map fun p => p.1)) v11) (q13.mk 0 0 ([] : List q10)))] : List q13)).length 40 ∧
 inI (v11 + 1) ∧
 rec3 ((v11 + 1), (v12 ++ ([(mget (v8.map fun p => (p.1.1, (q13.mk p.1.2.Site p.1.2.Common p.2))) (ix (sortZ ((v8.map fun p => (p.1.1, (q13.mk p.1.2.Site p.1.2.Common p.2))).map fun p => p.1)) v11) (q13.mk 0 0 ([] : List q10)))] : List q13)))) ∧
 (¬ (v11 < ((sortZ ((v8.map fun p => (p.1.1, (q13.mk p.1.2.Site p.1.2.Common p.2))).map fun p => p.1)).length : Int)) →
 Φ ((q11.mk v10 v12), 0))
def Z25 (x1 : q8) (v7 : (Nat × List Nat)) (v8 : List ((Int × q13) × List q10)) (rec2 : (((Nat × List Nat)) × (List ((Int × q13) × List q10))) → Prop) (i9 : Nat) (Φ : q11 × Int → Prop) : (Int × List q10) → ((Int × List q10) → Prop) → Prop
 | (v13, v14), rec4 =>
 (v13 < (([x1] : List q8).length : Int) →
 inX v13 ([x1] : List q8).length ∧
 inX ((ix ([x1] : List q8) v13).Volume) v14.length ∧
 ∃ v15 : q10 × Int × Unit, q112 (ix v14 ((ix ([x1] : List q8) v13).Volume)) (q16.mk ((ix ([x1] : List q8) v13).Start) (((ix ([x1] : List q8) v13).Data).length : Int)) (fun z => (z.1, z.2, ()) = v15) ∧
 (v15.2.1 ≠ 0 →
 (v15.2.1 ≠ 0 →
 Φ ((q11.mk ([] : List Int) ([] : List q13)), v15.2.1)) ∧
 (¬ (v15.2.1 ≠ 0) →
 False)) ∧
 (¬ (v15.2.1 ≠ 0) →
 inX ((ix ([x1] : List q8) v13).Volume) v14.length ∧
 inI (v13 + 1) ∧
 rec4 ((v13 + 1), (put v14 ((ix ([x1] : List q8) v13).Volume) v15.1)))) ∧
 (¬ (v13 < (([x1] : List q8).length : Int)) →
 ((0 : Int) ≠ 0 →
 Φ ((q11.mk ([] : List Int) ([] : List q13)), 0)) ∧
 (¬ ((0 : Int) ≠ 0) →
 i9 < v8.length ∧
 (entD v8 i9).1.1 = ((entD v8 i9).1.1) ∧
 (∀ i, i < i9 → (entD v8 i).1.1 ≠ ((entD v8 i9).1.1)) ∧
 rec2 ((v7.1, (i9 :: v7.2)), (v8.set i9 ((((entD v8 i9).1.1), (q13.mk (((entD v8 i9).1.2).Site) (((entD v8 i9).1.2).Common) ([] : List q10))), v14)))))
def Z26 (x0 : q11) (x1 : q8) (Φ : q11 × Int → Prop) : (((Nat × List Nat)) × (List ((Int × q13) × List q10))) → ((((Nat × List Nat)) × (List ((Int × q13) × List q10))) → Prop) → Prop
 | (v7, v8), rec2 =>
 v8.length = v7.1 ∧ ((∀ i, i < v8.length → i ∈ v7.2) →
 Z8 x0.Sizes fun v10 =>
 (∀ p, p ∈ v8 → true = true) ∧
 ((v8.map fun p => (p.1.1, (q13.mk p.1.2.Site p.1.2.Common p.2))).map fun p => p.1).Nodup ∧
 (∀ p, p ∈ (v8.map fun p => (p.1.1, (q13.mk p.1.2.Site p.1.2.Common p.2))) → inI p.1) ∧
 lenOk (v8.map fun p => (p.1.1, (q13.mk p.1.2.Site p.1.2.Common p.2))).length 8 ∧
 LoopW (Z24 v8 v10 Φ) (0, ([] : List q13))) ∧
 ∀ i9, i9 < v8.length → i9 ∉ v7.2 →
 v8.length = v7.1 ∧
 i9 < v8.length ∧
 i9 = i9 ∧
 LoopW (Z25 x1 v7 v8 rec2 i9 Φ) (0, (entD v8 i9).2)
def Z27 (x0 : q11) (x1 : q8) (Φ : q11 × Int → Prop) : (Int × (List ((Int × q13) × List q10))) → ((Int × (List ((Int × q13) × List q10))) → Prop) → Prop
 | (v4, v5), rec1 =>
 (v4 < (x0.Peers.length : Int) →
 inX v4 x0.Peers.length ∧
 Z22 ((ix x0.Peers v4).Dirty) fun v6 =>
 mhas (v5.map fun p => p.1) ((ix x0.Peers v4).Site) = false ∧
 inI (v4 + 1) ∧
 rec1 ((v4 + 1), (v5 ++ [((((ix x0.Peers v4).Site), (q13.mk ((ix x0.Peers v4).Site) ((ix x0.Peers v4).Common) ([] : List q10))), v6)]))) ∧
 (¬ (v4 < (x0.Peers.length : Int)) →
 LoopW (Z26 x0 x1 Φ) ((v5.length, []), v5))
def Z28 (x0 : q11) (x1 : q8) (Φ : q11 × Int → Prop) : Prop :=
 Z17 x0 fun v1 =>
 (v1 ≠ 0 →
 Φ ((q11.mk ([] : List Int) ([] : List q13)), v1)) ∧
 (¬ (v1 ≠ 0) →
 q41 x0.Sizes fun v2 =>
 (v2.2 ≠ 0 →
 Φ ((q11.mk ([] : List Int) ([] : List q13)), v2.2)) ∧
 (¬ (v2.2 ≠ 0) →
 q64 v2.1 x1 fun v3 =>
 (v3 ≠ 0 →
 Φ ((q11.mk ([] : List Int) ([] : List q13)), v3)) ∧
 (¬ (v3 ≠ 0) →
 LoopW (Z27 x0 x1 Φ) (0, ([] : List ((Int × q13) × List q10))))))
def Z29 (x0 : q11) (x1 : Int) (Φ : List q10 × Int × Int → Prop) : (Int × (List (Int × q13))) → ((Int × (List (Int × q13))) → Prop) → Prop
 | (v2, v3), rec1 =>
 (v2 < (x0.Peers.length : Int) →
 inX v2 x0.Peers.length ∧
 Z22 ((ix x0.Peers v2).Dirty) fun v4 =>
 inI (v2 + 1) ∧
 rec1 ((v2 + 1), (mput v3 ((ix x0.Peers v2).Site) (q13.mk ((ix x0.Peers v2).Site) ((ix x0.Peers v2).Common) v4)))) ∧
 (¬ (v2 < (x0.Peers.length : Int)) →
 (¬ ((mhas v3 x1) = true) →
 Φ (([] : List q10), 0, 7)) ∧
 (¬ (¬ ((mhas v3 x1) = true)) →
 Φ ((mget v3 x1 (q13.mk 0 0 ([] : List q10))).Dirty, (mget v3 x1 (q13.mk 0 0 ([] : List q10))).Common, 0)))
def Z30 (x0 : q11) (x1 : Int) (Φ : List q10 × Int × Int → Prop) : Prop :=
 Z17 x0 fun v1 =>
 (v1 ≠ 0 →
 Φ (([] : List q10), 0, v1)) ∧
 (¬ (v1 ≠ 0) →
 LoopW (Z29 x0 x1 Φ) (0, ([] : List (Int × q13))))
def q37 (x0 : Int) (x1 : Int) (x2 : Int) (Φ : Bool → Prop) : Prop :=
 (x1 ≤ x0 →
 Φ (decide (x0 ≤ x2))) ∧
 (¬ (x1 ≤ x0) →
 Φ false)
def Z31 (x0 : Int) (Φ : Bool → Prop) : Prop :=
 q37 x0 0 1073741824 fun v1 =>
 Φ (decide (¬ (v1 = true)))
def Z32 (x0 : List Int) (Φ : Int → Prop) : (Int) → ((Int) → Prop) → Prop
 | v2, rec1 =>
 (v2 < (x0.length : Int) →
 inX v2 x0.length ∧
 Z31 (ix x0 v2) fun v3 =>
 (v3 = true →
 (0 ≤ v2 →
 Φ 2) ∧
 (¬ (0 ≤ v2) →
 Φ 0)) ∧
 (¬ (v3 = true) →
 inI (v2 + 1) ∧
 rec1 (v2 + 1))) ∧
 (¬ (v2 < (x0.length : Int)) →
 (0 ≤ ((-1) : Int) →
 Φ 2) ∧
 (¬ (0 ≤ ((-1) : Int)) →
 Φ 0))
def Z33 (x0 : List Int) (x1 : Int) (Φ : Int → Prop) : Prop :=
 q37 (x0.length : Int) x1 8 fun v1 =>
 (¬ (v1 = true) →
 Φ 6) ∧
 (¬ (¬ (v1 = true)) →
 LoopW (Z32 x0 Φ) 0)
def Z34 (x0 : List q8) (v1 : List (List Sec) × Int) (Φ : Int → Prop) : (Int) → ((Int) → Prop) → Prop
 | v2, rec1 =>
 (v2 < (x0.length : Int) →
 inX v2 x0.length ∧
 q64 v1.1 (ix x0 v2) fun v3 =>
 (v3 ≠ 0 →
 Φ v3) ∧
 (¬ (v3 ≠ 0) →
 (v2 = 0 →
 inI (v2 + 1) ∧
 rec1 (v2 + 1)) ∧
 (¬ (v2 = 0) →
 inI (v2 - 1) ∧
 inX (v2 - 1) x0.length ∧
 (((ix x0 v2).Volume) < ((ix x0 (v2 - 1)).Volume) →
 Φ 3) ∧
 (¬ (((ix x0 v2).Volume) < ((ix x0 (v2 - 1)).Volume)) →
 (((ix x0 v2).Volume) = ((ix x0 (v2 - 1)).Volume) →
 inI (((ix x0 (v2 - 1)).Start) + (((ix x0 (v2 - 1)).Data).length : Int)) ∧
 (((ix x0 v2).Start) ≤ (((ix x0 (v2 - 1)).Start) + (((ix x0 (v2 - 1)).Data).length : Int)) →
 Φ 3) ∧
 (¬ (((ix x0 v2).Start) ≤ (((ix x0 (v2 - 1)).Start) + (((ix x0 (v2 - 1)).Data).length : Int))) →
 inI (v2 + 1) ∧
 rec1 (v2 + 1))) ∧
 (¬ (((ix x0 v2).Volume) = ((ix x0 (v2 - 1)).Volume)) →
 inI (v2 + 1) ∧
 rec1 (v2 + 1)))))) ∧
 (¬ (v2 < (x0.length : Int)) →
 Φ 0)
def Z35 (x0 : List q8) (x1 : List Int) (Φ : Int → Prop) : Prop :=
 q41 x1 fun v1 =>
 (v1.2 ≠ 0 →
 Φ v1.2) ∧
 (¬ (v1.2 ≠ 0) →
 LoopW (Z34 x0 v1 Φ) 0)
def Z36 (x0 : q14) (x1 : List Int) (Φ : Int → Prop) : Bool → Prop
 | v2 =>
 (v2 = true →
 Φ 2) ∧
 (¬ (v2 = true) →
 q37 x0.Time 0 1073741824 fun v3 =>
 (¬ (v3 = true) →
 Φ 24) ∧
 (¬ (¬ (v3 = true)) →
 Z33 x0.Positions 0 fun v4 =>
 (v4 ≠ 0 →
 Φ v4) ∧
 (¬ (v4 ≠ 0) →
 Z35 x0.Writes x1 fun v5 =>
 Φ v5)))
def q168 (x0 : q14) (x1 : List Int) (Φ : Int → Prop) : Prop :=
 q41 x1 fun v1 =>
 (v1.2 ≠ 0 →
 Φ v1.2) ∧
 (¬ (v1.2 ≠ 0) →
 Join (Z36 x0 x1 Φ) fun J1 =>
 (x0.Base < 0 →
 J1 true) ∧
 (¬ (x0.Base < 0) →
 (x0.Number ≤ x0.Base →
 J1 true) ∧
 (¬ (x0.Number ≤ x0.Base) →
 J1 (decide (1073741824 < x0.Number)))))
def Z37 (x3 : List q14) (v8 : Int) (rec2 : (Int × Int × List q10) → Prop) (Φ : q11 × Int → Prop) : Int × List q10 → Prop
 | (v11, v12) =>
 (v11 ≠ 0 →
 Φ ((q11.mk ([] : List Int) ([] : List q13)), v11)) ∧
 (¬ (v11 ≠ 0) →
 inI (v8 + 1) ∧
 rec2 ((ix x3 v8).Number, (v8 + 1), v12))
def Z38 (x3 : List q14) (v8 : Int) (J3 : (Int × List q10) → Prop) (_ : q11 × Int → Prop) : (Int × List q10) → ((Int × List q10) → Prop) → Prop
 | (v13, v14), rec4 =>
 (v13 < (((ix x3 v8).Writes).length : Int) →
 inX v13 ((ix x3 v8).Writes).length ∧
 inX ((ix ((ix x3 v8).Writes) v13).Volume) v14.length ∧
 ∃ v15 : q10 × Int × Unit, q112 (ix v14 ((ix ((ix x3 v8).Writes) v13).Volume)) (q16.mk ((ix ((ix x3 v8).Writes) v13).Start) (((ix ((ix x3 v8).Writes) v13).Data).length : Int)) (fun z => (z.1, z.2, ()) = v15) ∧
 (v15.2.1 ≠ 0 →
 J3 (v15.2.1, ([] : List q10))) ∧
 (¬ (v15.2.1 ≠ 0) →
 inX ((ix ((ix x3 v8).Writes) v13).Volume) v14.length ∧
 inI (v13 + 1) ∧
 rec4 ((v13 + 1), (put v14 ((ix ((ix x3 v8).Writes) v13).Volume) v15.1)))) ∧
 (¬ (v13 < (((ix x3 v8).Writes).length : Int)) →
 J3 (0, v14))
def Z39 (x1 : Int) (x2 : Int) (v3 : List (Int × q13)) (v9 : List q10) (v16 : List Int) (Φ : q11 × Int → Prop) : (Int × List q13) → ((Int × List q13) → Prop) → Prop
 | (v17, v18), rec5 =>
 (v17 < ((sortZ ((mput v3 x1 (q13.mk x1 x2 v9)).map fun p => p.1)).length : Int) →
 inX v17 (sortZ ((mput v3 x1 (q13.mk x1 x2 v9)).map fun p => p.1)).length ∧
 lenOk (v18 ++ ([(mget (mput v3 x1 (q13.mk x1 x2 v9)) (ix (sortZ ((mput v3 x1 (q13.mk x1 x2 v9)).map fun p => p.1)) v17) (q13.mk 0 0 ([] : List q10)))] : List q13)).length 40 ∧
 inI (v17 + 1) ∧
 rec5 ((v17 + 1), (v18 ++ ([(mget (mput v3 x1 (q13.mk x1 x2 v9)) (ix (sortZ ((mput v3 x1 (q13.mk x1 x2 v9)).map fun p => p.1)) v17) (q13.mk 0 0 ([] : List q10)))] : List q13)))) ∧
 (¬ (v17 < ((sortZ ((mput v3 x1 (q13.mk x1 x2 v9)).map fun p => p.1)).length : Int)) →
 Φ ((q11.mk v16 v18), 0))
def Z40 (x0 : q11) (x1 : Int) (x2 : Int) (x3 : List q14) (v3 : List (Int × q13)) (Φ : q11 × Int → Prop) : (Int × Int × List q10) → ((Int × Int × List q10) → Prop) → Prop
 | (v7, v8, v9), rec2 =>
 (v8 < (x3.length : Int) →
 inX v8 x3.length ∧
 q168 (ix x3 v8) x0.Sizes fun v10 =>
 (v10 ≠ 0 →
 Φ ((q11.mk ([] : List Int) ([] : List q13)), v10)) ∧
 (¬ (v10 ≠ 0) →
 (((ix x3 v8).Base) ≠ v7 →
 Φ ((q11.mk ([] : List Int) ([] : List q13)), 15)) ∧
 (¬ (((ix x3 v8).Base) ≠ v7) →
 Join (Z37 x3 v8 rec2 Φ) fun J3 =>
 LoopW (Z38 x3 v8 J3 Φ) (0, v9)))) ∧
 (¬ (v8 < (x3.length : Int)) →
 Z8 x0.Sizes fun v16 =>
 ((mput v3 x1 (q13.mk x1 x2 v9)).map fun p => p.1).Nodup ∧
 (∀ p, p ∈ (mput v3 x1 (q13.mk x1 x2 v9)) → inI p.1) ∧
 lenOk (mput v3 x1 (q13.mk x1 x2 v9)).length 8 ∧
 LoopW (Z39 x1 x2 v3 v9 v16 Φ) (0, ([] : List q13)))
def Z41 (x0 : q11) (x1 : Int) (x2 : Int) (x3 : List q14) (Φ : q11 × Int → Prop) : (Int × (List (Int × q13))) → ((Int × (List (Int × q13))) → Prop) → Prop
 | (v2, v3), rec1 =>
 (v2 < (x0.Peers.length : Int) →
 inX v2 x0.Peers.length ∧
 Z22 ((ix x0.Peers v2).Dirty) fun v4 =>
 inI (v2 + 1) ∧
 rec1 ((v2 + 1), (mput v3 ((ix x0.Peers v2).Site) (q13.mk ((ix x0.Peers v2).Site) ((ix x0.Peers v2).Common) v4)))) ∧
 (¬ (v2 < (x0.Peers.length : Int)) →
 (¬ ((mhas v3 x1) = true) →
 Φ ((q11.mk ([] : List Int) ([] : List q13)), 7)) ∧
 (¬ (¬ ((mhas v3 x1) = true)) →
 Z3 x2 0 1073741824 fun v5 =>
 (¬ (v5 = true) →
 Φ ((q11.mk ([] : List Int) ([] : List q13)), 2)) ∧
 (¬ (¬ (v5 = true)) →
 (x2 < ((mget v3 x1 (q13.mk 0 0 ([] : List q10))).Common) →
 Φ ((q11.mk ([] : List Int) ([] : List q13)), 8)) ∧
 (¬ (x2 < ((mget v3 x1 (q13.mk 0 0 ([] : List q10))).Common)) →
 Z7 x0.Sizes fun v6 =>
 (v6.2 ≠ 0 →
 Φ ((q11.mk ([] : List Int) ([] : List q13)), v6.2)) ∧
 (¬ (v6.2 ≠ 0) →
 LoopW (Z40 x0 x1 x2 x3 v3 Φ) (x2, 0, v6.1))))))
def Z42 (x0 : q11) (x1 : Int) (x2 : Int) (x3 : List q14) (Φ : q11 × Int → Prop) : Prop :=
 Z17 x0 fun v1 =>
 (v1 ≠ 0 →
 Φ ((q11.mk ([] : List Int) ([] : List q13)), v1)) ∧
 (¬ (v1 ≠ 0) →
 LoopW (Z41 x0 x1 x2 x3 Φ) (0, ([] : List (Int × q13))))
def Z43 (x0 : BitVec 64) (Φ : Int → Prop) : Prop := x0 ≠ 0#64 ∧ Φ (Lib.ctz 64 x0.toNat : Int)
def Z44 (v2 : Int) (rec1 : (List (Int × Unit) × Int) → Prop) : (List (Int × Unit) × BitVec 64) → ((List (Int × Unit) × BitVec 64) → Prop) → Prop
 | (l2, v4), rec2 =>
 (v4 ≠ (0#64) →
 inI (v2 * 64) ∧
 ∃ v5 : Int × Unit, Z43 v4 (fun z => (z, ()) = v5) ∧
 inI ((v2 * 64) + v5.1) ∧
 Yl l2 fun v6 r7 => (((v2 * 64) + v5.1), ()) = v6 ∧ (
 rec2 (r7, (v4 &&& (v4 - (1#64))))) ∧ (
 True)) ∧
 (¬ (v4 ≠ (0#64)) →
 inI (v2 + 1) ∧
 rec1 (l2, (v2 + 1)))
def Z45 (x0 : q10) (x1 : Int) : (List (Int × Unit) × Int) → ((List (Int × Unit) × Int) → Prop) → Prop
 | (l1, v2), rec1 =>
 (v2 < (x0.Words.length : Int) →
 inX v2 x0.Words.length ∧
 ∃ v3 : BitVec 64 × Unit, q118 v2 x1 x0.Size (fun z => (z, ()) = v3) ∧
 LoopW (Z44 v2 rec1) (l1, ((ix x0.Words v2) &&& v3.1))) ∧
 (¬ (v2 < (x0.Words.length : Int)) →
 l1 = [])
def q84 (x0 : q10) (x1 : Int) (l : List (Int × Unit)) : Prop :=
 ∃ v1 : Int × Unit, Z12 x0 (fun z => (z, ()) = v1) ∧
 (v1.1 ≠ 0 →
 l = []) ∧
 (¬ (v1.1 ≠ 0) →
 LoopW (Z45 x0 x1) (l, 0))
def Z46 (Φ : List q16 → Prop) : (List (Int × Unit) × List q16) → ((List (Int × Unit) × List q16) → Prop) → Prop
 | (lst, v1), rec1 =>
 match lst with
 | [] =>
 Φ v1
 | v2 :: r3 =>
 (0 < (v1.length : Int) →
 inI ((v1.length : Int) - 1) ∧
 inX ((v1.length : Int) - 1) v1.length ∧
 inI ((v1.length : Int) - 1) ∧
 inX ((v1.length : Int) - 1) v1.length ∧
 inI (((ix v1 ((v1.length : Int) - 1)).Start) + ((ix v1 ((v1.length : Int) - 1)).Count)) ∧
 ((((ix v1 ((v1.length : Int) - 1)).Start) + ((ix v1 ((v1.length : Int) - 1)).Count)) = v2.1 →
 inI ((v1.length : Int) - 1) ∧
 inX ((v1.length : Int) - 1) v1.length ∧
 inI (((ix v1 ((v1.length : Int) - 1)).Count) + 1) ∧
 inX ((v1.length : Int) - 1) v1.length ∧
 rec1 (r3, (put v1 ((v1.length : Int) - 1) (q16.mk ((ix v1 ((v1.length : Int) - 1)).Start) (((ix v1 ((v1.length : Int) - 1)).Count) + 1))))) ∧
 (¬ ((((ix v1 ((v1.length : Int) - 1)).Start) + ((ix v1 ((v1.length : Int) - 1)).Count)) = v2.1) →
 lenOk (v1 ++ ([(q16.mk v2.1 1)] : List q16)).length 16 ∧
 rec1 (r3, (v1 ++ ([(q16.mk v2.1 1)] : List q16))))) ∧
 (¬ (0 < (v1.length : Int)) →
 lenOk (v1 ++ ([(q16.mk v2.1 1)] : List q16)).length 16 ∧
 rec1 (r3, (v1 ++ ([(q16.mk v2.1 1)] : List q16))))
def Z47 (x0 : q10) (Φ : List q16 → Prop) : Prop :=
 ∃ l4 : List (Int × Unit), q84 x0 0 l4 ∧
 LoopW (Z46 Φ) (l4, ([] : List q16))
def Z48 (x0 : List q16) (x1 : List q16) (Φ : Bool → Prop) : (Int) → ((Int) → Prop) → Prop
 | v1, rec1 =>
 (v1 < (x0.length : Int) →
 inX v1 x0.length ∧
 inX v1 x1.length ∧
 ((ix x0 v1) ≠ (ix x1 v1) →
 Φ false) ∧
 (¬ ((ix x0 v1) ≠ (ix x1 v1)) →
 inI (v1 + 1) ∧
 rec1 (v1 + 1))) ∧
 (¬ (v1 < (x0.length : Int)) →
 Φ true)
def Z49 (x0 : List q16) (x1 : List q16) (Φ : Bool → Prop) : Prop :=
 ((x0.length : Int) ≠ (x1.length : Int) →
 Φ false) ∧
 (¬ ((x0.length : Int) ≠ (x1.length : Int)) →
 LoopW (Z48 x0 x1 Φ) 0)
def Z50 (x0 : List q10) (x1 : List (List q16)) (Φ : Bool → Prop) : (Int) → ((Int) → Prop) → Prop
 | v1, rec1 =>
 (v1 < (x0.length : Int) →
 inX v1 x0.length ∧
 ∃ v2 : List q16 × Unit, Z47 (ix x0 v1) (fun z => (z, ()) = v2) ∧
 inX v1 x1.length ∧
 ∃ v3 : Bool × Unit, Z49 v2.1 (ix x1 v1) (fun z => (z, ()) = v3) ∧
 (¬ (v3.1 = true) →
 Φ false) ∧
 (¬ (¬ (v3.1 = true)) →
 inI (v1 + 1) ∧
 rec1 (v1 + 1))) ∧
 (¬ (v1 < (x0.length : Int)) →
 Φ true)
def Z51 (x0 : List q10) (x1 : List (List q16)) (Φ : Bool → Prop) : Prop :=
 ((x0.length : Int) ≠ (x1.length : Int) →
 Φ false) ∧
 (¬ ((x0.length : Int) ≠ (x1.length : Int)) →
 LoopW (Z50 x0 x1 Φ) 0)
def Z52 (x0 : List (BitVec 8)) (Φ : List (BitVec 8) → Prop) : Prop :=
 (x0 = [] →
 Φ ([] : List (BitVec 8))) ∧
 (
 lenOk (([] : List (BitVec 8)) ++ x0).length 1 ∧
 Φ (([] : List (BitVec 8)) ++ x0))
def Z53 (v5 : Int) (rec3 : (Int × List (BitVec 8)) → Prop) (_ : List (BitVec 8) → Prop) : (Int × List (BitVec 8)) → ((Int × List (BitVec 8)) → Prop) → Prop
 | (v8, v9), rec5 =>
 (128 ≤ v8 →
 (0 ≤ v8 ∧ 128 ≠ (0 : Int)) ∧
 lenOk (v9 ++ ([((BitVec.ofInt 8 (v8 % 128)) ||| (128#8))] : List (BitVec 8))).length 1 ∧
 (0 ≤ v8 ∧ inI v8 ∧ (0 : Int) < 128) ∧
 rec5 ((v8 / 128), (v9 ++ ([((BitVec.ofInt 8 (v8 % 128)) ||| (128#8))] : List (BitVec 8))))) ∧
 (¬ (128 ≤ v8) →
 lenOk (v9 ++ ([(BitVec.ofInt 8 v8)] : List (BitVec 8))).length 1 ∧
 inI (v5 + 1) ∧
 rec3 ((v5 + 1), (v9 ++ ([(BitVec.ofInt 8 v8)] : List (BitVec 8)))))
def Z54 (v5 : Int) (v6 : List (BitVec 8)) (rec3 : (Int × List (BitVec 8)) → Prop) (Φ : List (BitVec 8) → Prop) : Int → Prop
 | v7 =>
 LoopW (Z53 v5 rec3 Φ) (v7, v6)
def Z55 (x1 : List Int) (Φ : List (BitVec 8) → Prop) : (Int × List (BitVec 8)) → ((Int × List (BitVec 8)) → Prop) → Prop
 | (v5, v6), rec3 =>
 (v5 < (x1.length : Int) →
 inX v5 x1.length ∧
 Join (Z54 v5 v6 rec3 Φ) fun J4 =>
 ((ix x1 v5) < 0 →
 J4 0) ∧
 (¬ ((ix x1 v5) < 0) →
 (9007199254740991 < (ix x1 v5) →
 J4 0) ∧
 (¬ (9007199254740991 < (ix x1 v5)) →
 J4 (ix x1 v5)))) ∧
 (¬ (v5 < (x1.length : Int)) →
 Φ v6)
def Z56 (x1 : List Int) (Φ : List (BitVec 8) → Prop) : (Int × List (BitVec 8)) → ((Int × List (BitVec 8)) → Prop) → Prop
 | (v3, v4), rec2 =>
 (128 ≤ v3 →
 (0 ≤ v3 ∧ 128 ≠ (0 : Int)) ∧
 lenOk (v4 ++ ([((BitVec.ofInt 8 (v3 % 128)) ||| (128#8))] : List (BitVec 8))).length 1 ∧
 (0 ≤ v3 ∧ inI v3 ∧ (0 : Int) < 128) ∧
 rec2 ((v3 / 128), (v4 ++ ([((BitVec.ofInt 8 (v3 % 128)) ||| (128#8))] : List (BitVec 8))))) ∧
 (¬ (128 ≤ v3) →
 lenOk (v4 ++ ([(BitVec.ofInt 8 v3)] : List (BitVec 8))).length 1 ∧
 LoopW (Z55 x1 Φ) (0, (v4 ++ ([(BitVec.ofInt 8 v3)] : List (BitVec 8)))))
def Z57 (x1 : List Int) (v1 : List (BitVec 8)) (Φ : List (BitVec 8) → Prop) : Int → Prop
 | v2 =>
 LoopW (Z56 x1 Φ) (v2, v1)
def Z58 (x0 : List (BitVec 8)) (x1 : List Int) (Φ : List (BitVec 8) → Prop) : Prop :=
 Z52 x0 fun v1 =>
 Join (Z57 x1 v1 Φ) fun J1 =>
 ((x1.length : Int) < 0 →
 J1 0) ∧
 (¬ ((x1.length : Int) < 0) →
 (9007199254740991 < (x1.length : Int) →
 J1 0) ∧
 (¬ (9007199254740991 < (x1.length : Int)) →
 J1 (x1.length : Int)))
def Z59 (Φ : List (BitVec 8) → Prop) : (Int × List (BitVec 8)) → ((Int × List (BitVec 8)) → Prop) → Prop
 | (v3, v4), rec2 =>
 (128 ≤ v3 →
 (0 ≤ v3 ∧ 128 ≠ (0 : Int)) ∧
 lenOk (v4 ++ ([((BitVec.ofInt 8 (v3 % 128)) ||| (128#8))] : List (BitVec 8))).length 1 ∧
 (0 ≤ v3 ∧ inI v3 ∧ (0 : Int) < 128) ∧
 rec2 ((v3 / 128), (v4 ++ ([((BitVec.ofInt 8 (v3 % 128)) ||| (128#8))] : List (BitVec 8))))) ∧
 (¬ (128 ≤ v3) →
 lenOk (v4 ++ ([(BitVec.ofInt 8 v3)] : List (BitVec 8))).length 1 ∧
 Φ (v4 ++ ([(BitVec.ofInt 8 v3)] : List (BitVec 8))))
def Z60 (v1 : List (BitVec 8)) (Φ : List (BitVec 8) → Prop) : Int → Prop
 | v2 =>
 LoopW (Z59 Φ) (v2, v1)
def q95 (x0 : List (BitVec 8)) (x1 : Int) (Φ : List (BitVec 8) → Prop) : Prop :=
 Z52 x0 fun v1 =>
 Join (Z60 v1 Φ) fun J1 =>
 (x1 < 0 →
 J1 0) ∧
 (¬ (x1 < 0) →
 (9007199254740991 < x1 →
 J1 0) ∧
 (¬ (9007199254740991 < x1) →
 J1 x1))
def Z61 (v5 : Int) (rec3 : (Int × List (BitVec 8)) → Prop) (_ : List (BitVec 8) → Prop) : (Int × List (BitVec 8)) → ((Int × List (BitVec 8)) → Prop) → Prop
 | (v11, v12), rec7 =>
 (128 ≤ v11 →
 (0 ≤ v11 ∧ 128 ≠ (0 : Int)) ∧
 lenOk (v12 ++ ([((BitVec.ofInt 8 (v11 % 128)) ||| (128#8))] : List (BitVec 8))).length 1 ∧
 (0 ≤ v11 ∧ inI v11 ∧ (0 : Int) < 128) ∧
 rec7 ((v11 / 128), (v12 ++ ([((BitVec.ofInt 8 (v11 % 128)) ||| (128#8))] : List (BitVec 8))))) ∧
 (¬ (128 ≤ v11) →
 lenOk (v12 ++ ([(BitVec.ofInt 8 v11)] : List (BitVec 8))).length 1 ∧
 inI (v5 + 1) ∧
 rec3 ((v5 + 1), (v12 ++ ([(BitVec.ofInt 8 v11)] : List (BitVec 8)))))
def Z62 (v5 : Int) (rec3 : (Int × List (BitVec 8)) → Prop) (v8 : Int) (v9 : List (BitVec 8)) (Φ : List (BitVec 8) → Prop) : Int → Prop
 | v10 =>
 LoopW (Z61 v5 rec3 Φ) (v10, (v9 ++ ([(BitVec.ofInt 8 v8)] : List (BitVec 8))))
def Z63 (x1 : List q16) (v5 : Int) (rec3 : (Int × List (BitVec 8)) → Prop) (Φ : List (BitVec 8) → Prop) : (Int × List (BitVec 8)) → ((Int × List (BitVec 8)) → Prop) → Prop
 | (v8, v9), rec5 =>
 (128 ≤ v8 →
 (0 ≤ v8 ∧ 128 ≠ (0 : Int)) ∧
 lenOk (v9 ++ ([((BitVec.ofInt 8 (v8 % 128)) ||| (128#8))] : List (BitVec 8))).length 1 ∧
 (0 ≤ v8 ∧ inI v8 ∧ (0 : Int) < 128) ∧
 rec5 ((v8 / 128), (v9 ++ ([((BitVec.ofInt 8 (v8 % 128)) ||| (128#8))] : List (BitVec 8))))) ∧
 (¬ (128 ≤ v8) →
 lenOk (v9 ++ ([(BitVec.ofInt 8 v8)] : List (BitVec 8))).length 1 ∧
 Join (Z62 v5 rec3 v8 v9 Φ) fun J6 =>
 (((ix x1 v5).Count) < 0 →
 J6 0) ∧
 (¬ (((ix x1 v5).Count) < 0) →
 (9007199254740991 < ((ix x1 v5).Count) →
 J6 0) ∧
 (¬ (9007199254740991 < ((ix x1 v5).Count)) →
 J6 ((ix x1 v5).Count))))
def Z64 (x1 : List q16) (v5 : Int) (v6 : List (BitVec 8)) (rec3 : (Int × List (BitVec 8)) → Prop) (Φ : List (BitVec 8) → Prop) : Int → Prop
 | v7 =>
 LoopW (Z63 x1 v5 rec3 Φ) (v7, v6)
def Z65 (x1 : List q16) (Φ : List (BitVec 8) → Prop) : (Int × List (BitVec 8)) → ((Int × List (BitVec 8)) → Prop) → Prop
 | (v5, v6), rec3 =>
 (v5 < (x1.length : Int) →
 inX v5 x1.length ∧
 Join (Z64 x1 v5 v6 rec3 Φ) fun J4 =>
 (((ix x1 v5).Start) < 0 →
 J4 0) ∧
 (¬ (((ix x1 v5).Start) < 0) →
 (9007199254740991 < ((ix x1 v5).Start) →
 J4 0) ∧
 (¬ (9007199254740991 < ((ix x1 v5).Start)) →
 J4 ((ix x1 v5).Start)))) ∧
 (¬ (v5 < (x1.length : Int)) →
 Φ v6)
def Z66 (x1 : List q16) (Φ : List (BitVec 8) → Prop) : (Int × List (BitVec 8)) → ((Int × List (BitVec 8)) → Prop) → Prop
 | (v3, v4), rec2 =>
 (128 ≤ v3 →
 (0 ≤ v3 ∧ 128 ≠ (0 : Int)) ∧
 lenOk (v4 ++ ([((BitVec.ofInt 8 (v3 % 128)) ||| (128#8))] : List (BitVec 8))).length 1 ∧
 (0 ≤ v3 ∧ inI v3 ∧ (0 : Int) < 128) ∧
 rec2 ((v3 / 128), (v4 ++ ([((BitVec.ofInt 8 (v3 % 128)) ||| (128#8))] : List (BitVec 8))))) ∧
 (¬ (128 ≤ v3) →
 lenOk (v4 ++ ([(BitVec.ofInt 8 v3)] : List (BitVec 8))).length 1 ∧
 LoopW (Z65 x1 Φ) (0, (v4 ++ ([(BitVec.ofInt 8 v3)] : List (BitVec 8)))))
def Z67 (x1 : List q16) (v1 : List (BitVec 8)) (Φ : List (BitVec 8) → Prop) : Int → Prop
 | v2 =>
 LoopW (Z66 x1 Φ) (v2, v1)
def Z68 (x0 : List (BitVec 8)) (x1 : List q16) (Φ : List (BitVec 8) → Prop) : Prop :=
 Z52 x0 fun v1 =>
 Join (Z67 x1 v1 Φ) fun J1 =>
 ((x1.length : Int) < 0 →
 J1 0) ∧
 (¬ ((x1.length : Int) < 0) →
 (9007199254740991 < (x1.length : Int) →
 J1 0) ∧
 (¬ (9007199254740991 < (x1.length : Int)) →
 J1 (x1.length : Int)))
def Z69 (x0 : q11) (v4 : Int) (rec1 : (Int × List (BitVec 8)) → Prop) (_ : List (BitVec 8) → Prop) : (Int × List (BitVec 8)) → ((Int × List (BitVec 8)) → Prop) → Prop
 | (v8, v9), rec2 =>
 (v8 < (((ix x0.Peers v4).Dirty).length : Int) →
 inX v8 ((ix x0.Peers v4).Dirty).length ∧
 Z47 (ix ((ix x0.Peers v4).Dirty) v8) fun v10 =>
 Z68 v9 v10 fun v11 =>
 inI (v8 + 1) ∧
 rec2 ((v8 + 1), v11)) ∧
 (¬ (v8 < (((ix x0.Peers v4).Dirty).length : Int)) →
 inI (v4 + 1) ∧
 rec1 ((v4 + 1), v9))
def Z70 (x0 : q11) (Φ : List (BitVec 8) → Prop) : (Int × List (BitVec 8)) → ((Int × List (BitVec 8)) → Prop) → Prop
 | (v4, v5), rec1 =>
 (v4 < (x0.Peers.length : Int) →
 inX v4 x0.Peers.length ∧
 ∃ v6 : List (BitVec 8) × Unit, q95 v5 ((ix x0.Peers v4).Site) (fun z => (z, ()) = v6) ∧
 ∃ v7 : List (BitVec 8) × Unit, q95 v6.1 ((ix x0.Peers v4).Common) (fun z => (z, ()) = v7) ∧
 LoopW (Z69 x0 v4 rec1 Φ) (0, v7.1)) ∧
 (¬ (v4 < (x0.Peers.length : Int)) →
 Φ v5)
def Z71 (x0 : q11) (Φ : List (BitVec 8) → Prop) : Prop :=
 Z17 x0 fun v1 =>
 (v1 ≠ 0 →
 Φ ([] : List (BitVec 8))) ∧
 (¬ (v1 ≠ 0) →
 ∃ v2 : List (BitVec 8) × Unit, Z58 ([] : List (BitVec 8)) x0.Sizes (fun z => (z, ()) = v2) ∧
 ∃ v3 : List (BitVec 8) × Unit, q95 v2.1 (x0.Peers.length : Int) (fun z => (z, ()) = v3) ∧
 LoopW (Z70 x0 Φ) (0, v3.1))
def Z72 (Φ : Bool → Prop) : Unit → Prop
 | _ =>
 q93 ([4] : List Int) ([2] : List Int) 5 fun v7 =>
 Z28 v7.1 (q8.mk 0 0 ([(Sec.mk (1#8) (0#8) (0#8) (0#8) (0#8) (0#8) (0#8) (0#8)), (Sec.mk (1#8) (0#8) (0#8) (0#8) (0#8) (0#8) (0#8) (0#8))] : List Sec)) fun v8 =>
 (v7.2 = 0 →
 (v8.2 = 0 →
 Z71 v8.1 fun v9 =>
 (∀ x, x ∈ v9 → true = true) ∧
 Φ (decide ((bsOf (v9.map fun x => x)) = strK1))) ∧
 (¬ (v8.2 = 0) →
 Φ false)) ∧
 (¬ (v7.2 = 0) →
 Φ false)
def q119 (Φ : Bool → Prop) : Prop :=
 q93 ([4, 2] : List Int) ([3, 1] : List Int) 0 fun v1 =>
 Z28 v1.1 (q8.mk 0 0 ([(Sec.mk (1#8) (0#8) (0#8) (0#8) (0#8) (0#8) (0#8) (0#8)), (Sec.mk (1#8) (0#8) (0#8) (0#8) (0#8) (0#8) (0#8) (0#8))] : List Sec)) fun v2 =>
 Z28 v2.1 (q8.mk 1 1 ([(Sec.mk (1#8) (0#8) (0#8) (0#8) (0#8) (0#8) (0#8) (0#8))] : List Sec)) fun v3 =>
 Z30 v3.1 1 fun v4 =>
 Z42 v3.1 3 1 ([(q14.mk 1 2 0 ([] : List Int) ([(q8.mk 0 1 ([(Sec.mk (1#8) (0#8) (0#8) (0#8) (0#8) (0#8) (0#8) (0#8))] : List Sec))] : List q8))] : List q14) fun v5 =>
 Z30 v5.1 3 fun v6 =>
 Join (Z72 Φ) fun J1 =>
 inI (v1.2 + v2.2) ∧
 inI ((v1.2 + v2.2) + v3.2) ∧
 inI (((v1.2 + v2.2) + v3.2) + v4.2.2) ∧
 inI ((((v1.2 + v2.2) + v3.2) + v4.2.2) + v5.2) ∧
 inI (((((v1.2 + v2.2) + v3.2) + v4.2.2) + v5.2) + v6.2.2) ∧
 ((((((v1.2 + v2.2) + v3.2) + v4.2.2) + v5.2) + v6.2.2) ≠ 0 →
 Φ false) ∧
 (¬ ((((((v1.2 + v2.2) + v3.2) + v4.2.2) + v5.2) + v6.2.2) ≠ 0) →
 (v4.2.1 ≠ 0 →
 Φ false) ∧
 (¬ (v4.2.1 ≠ 0) →
 (v6.2.1 ≠ 1 →
 Φ false) ∧
 (¬ (v6.2.1 ≠ 1) →
 Z51 v4.1 ([([(q16.mk 0 2)] : List q16), ([(q16.mk 1 1)] : List q16)] : List (List q16)) fun v10 =>
 (¬ (v10 = true) →
 Φ false) ∧
 (¬ (¬ (v10 = true)) →
 Z51 v6.1 ([([(q16.mk 1 1)] : List q16), ([] : List q16)] : List (List q16)) fun v11 =>
 (¬ (v11 = true) →
 Φ false) ∧
 (¬ (¬ (v11 = true)) →
 J1 ())))))
def q44 (Φ : List Int → Prop) : Prop :=
 Φ ([6, 3] : List Int)
def q193 (x0 : List Int) (x1 : Int) (x2 : Int) (Φ : q12 × Int → Prop) : Prop :=
 q41 x0 fun v1 =>
 (v1.2 ≠ 0 →
 Φ ((q12.mk 0 ([] : List Int) ([] : List Int) ([] : List Int) ([] : List q8)), v1.2)) ∧
 (¬ (v1.2 ≠ 0) →
 q37 x1 1 8 fun v2 =>
 (¬ (v2 = true) →
 Φ ((q12.mk 0 ([] : List Int) ([] : List Int) ([] : List Int) ([] : List q8)), 6)) ∧
 (¬ (¬ (v2 = true)) →
 q37 x2 0 1073741823 fun v3 =>
 (¬ (v3 = true) →
 Φ ((q12.mk 0 ([] : List Int) ([] : List Int) ([] : List Int) ([] : List q8)), 2)) ∧
 (¬ (¬ (v3 = true)) →
 ∃ v4 : List Int × Unit, Z8 x0 (fun z => (z, ()) = v4) ∧
 0 ≤ x1 ∧
 lenOk x1.toNat 8 ∧
 Φ ((q12.mk x2 v4.1 (List.replicate x1.toNat (0 : Int)) ([] : List Int) ([] : List q8)), 0))))
def q437 (x0 : q15) (v1 : List Int × Unit) (Φ : q8 → Prop) : (Int × List Sec) → ((Int × List Sec) → Prop) → Prop
 | (v2, v3), rec1 =>
 inI ((ix v1.1 ((x0.Volume % (2#8)).toNat : Int)) - ((x0.Start.toNat : Int) % (ix v1.1 ((x0.Volume % (2#8)).toNat : Int)))) ∧
 (0 ≤ (x0.Count.toNat : Int) ∧ ((ix v1.1 ((x0.Volume % (2#8)).toNat : Int)) - ((x0.Start.toNat : Int) % (ix v1.1 ((x0.Volume % (2#8)).toNat : Int)))) ≠ (0 : Int)) ∧
 (v2 ≤ ((x0.Count.toNat : Int) % ((ix v1.1 ((x0.Volume % (2#8)).toNat : Int)) - ((x0.Start.toNat : Int) % (ix v1.1 ((x0.Volume % (2#8)).toNat : Int))))) →
 lenOk (v3 ++ ([(Sec.mk x0.First (BitVec.ofInt 8 v2) (0#8) (0#8) (0#8) (0#8) (0#8) (0#8))] : List Sec)).length 8 ∧
 inI (v2 + 1) ∧
 rec1 ((v2 + 1), (v3 ++ ([(Sec.mk x0.First (BitVec.ofInt 8 v2) (0#8) (0#8) (0#8) (0#8) (0#8) (0#8))] : List Sec)))) ∧
 (¬ (v2 ≤ ((x0.Count.toNat : Int) % ((ix v1.1 ((x0.Volume % (2#8)).toNat : Int)) - ((x0.Start.toNat : Int) % (ix v1.1 ((x0.Volume % (2#8)).toNat : Int)))))) →
 Φ (q8.mk ((x0.Volume % (2#8)).toNat : Int) ((x0.Start.toNat : Int) % (ix v1.1 ((x0.Volume % (2#8)).toNat : Int))) v3))
def q194 (x0 : q15) (Φ : q8 → Prop) : Prop :=
 ∃ v1 : List Int × Unit, q44 (fun z => (z, ()) = v1) ∧
 (2#8) ≠ 0#8 ∧
 inX ((x0.Volume % (2#8)).toNat : Int) v1.1.length ∧
 (0 ≤ (x0.Start.toNat : Int) ∧ (ix v1.1 ((x0.Volume % (2#8)).toNat : Int)) ≠ (0 : Int)) ∧
 (2#8) ≠ 0#8 ∧
 LoopW (q437 x0 v1 Φ) (0, ([] : List Sec))
def Z73 (x0 : List Sec) (Φ : List Sec → Prop) : Prop :=
 (x0 = [] →
 Φ ([] : List Sec)) ∧
 (
 lenOk (([] : List Sec) ++ x0).length 8 ∧
 Φ (([] : List Sec) ++ x0))
def Z74 (x0 : List (List Sec)) (Φ : List (List Sec) → Prop) : (List (List Sec) × Int) → ((List (List Sec) × Int) → Prop) → Prop
 | (v12, v20), rec1 =>
 (v20 < (x0.length : Int) →
 inX v20 x0.length ∧
 Z73 (ix x0 v20) fun v27 =>
 lenOk (v12 ++ [v27]).length 24 ∧
 inI (v20 + 1) ∧
 rec1 ((v12 ++ [v27]), v20 + 1)) ∧
 (¬ (v20 < (x0.length : Int)) →
 Φ v12)
def Z75 (x0 : List (List Sec)) (Φ : List (List Sec) → Prop) : Prop :=
 0 ≤ (x0.length : Int) ∧
 lenOk (x0.length : Int).toNat 24 ∧
 LoopW (Z74 x0 Φ) (([] : List (List Sec)), 0)
def Z76 (x0 : List (List Sec)) (Φ : List (List Sec) → Prop) : Prop :=
 Z75 x0 fun v2 =>
 Φ v2
def Z77 (x1 : List q8) (Φ : List (List Sec) × Int × Int → Prop) : (List (List Sec) × Int) → ((List (List Sec) × Int) → Prop) → Prop
 | (v16, v24), rec1 =>
 (v24 < (x1.length : Int) →
 inX v24 x1.length ∧
 q111 v16 (ix x1 v24) fun v38 =>
 (v38 ≠ 0 →
 Φ (([] : List (List Sec)), v24, v38)) ∧
 (¬ (v38 ≠ 0) →
 inX ((ix x1 v24).Volume) v16.length ∧
 inS ((ix x1 v24).Start) ((ix v16 ((ix x1 v24).Volume)).length : Int) (ix v16 ((ix x1 v24).Volume)).length ∧
 inI (v24 + 1) ∧
 rec1 ((put v16 ((ix x1 v24).Volume) (paste (ix v16 ((ix x1 v24).Volume)) ((ix x1 v24).Start) ((ix x1 v24).Data))), v24 + 1))) ∧
 (¬ (v24 < (x1.length : Int)) →
 Φ (v16, 0, 0))
def q96 (x0 : List (List Sec)) (x1 : List q8) (Φ : List (List Sec) × Int × Int → Prop) : Prop :=
 q94 x0 fun v3 =>
 (v3 ≠ 0 →
 Φ (([] : List (List Sec)), 0, v3)) ∧
 (¬ (v3 ≠ 0) →
 Z76 x0 fun v7 =>
 LoopW (Z77 x1 Φ) (v7, 0))
def Z78 (x0 : q8) (Φ : q8 → Prop) : Prop :=
 Z73 x0.Data fun v1 =>
 Φ (q8.mk x0.Volume x0.Start v1)
def Z79 (x0 : q12) (v1 : List Int × Unit) (v2 : List Int × Unit) (v3 : List Int × Unit) (Φ : q12 → Prop) : (Int × List q8) → ((Int × List q8) → Prop) → Prop
 | (v4, v5), rec1 =>
 (v4 < (x0.Writes.length : Int) →
 inX v4 x0.Writes.length ∧
 Z78 (ix x0.Writes v4) fun v6 =>
 lenOk (v5 ++ ([v6] : List q8)).length 40 ∧
 inI (v4 + 1) ∧
 rec1 ((v4 + 1), (v5 ++ ([v6] : List q8)))) ∧
 (¬ (v4 < (x0.Writes.length : Int)) →
 Φ (q12.mk x0.Number v1.1 v2.1 v3.1 v5))
def Z80 (x0 : q12) (Φ : q12 → Prop) : Prop :=
 ∃ v1 : List Int × Unit, Z8 x0.Sizes (fun z => (z, ()) = v1) ∧
 ∃ v2 : List Int × Unit, Z8 x0.Positions (fun z => (z, ()) = v2) ∧
 ∃ v3 : List Int × Unit, Z8 x0.Nodes (fun z => (z, ()) = v3) ∧
 LoopW (Z79 x0 v1 v2 v3 Φ) (0, ([] : List q8))
def q488 (x0 : q12) (x1 : Int) (x2 : q8) (v1 : List (List Sec) × Int) (Φ : q12 × Int → Prop) : (Int) → ((Int) → Prop) → Prop
 | v4, rec1 =>
 (v4 < (x0.Writes.length : Int) →
 inX v4 x0.Writes.length ∧
 inX v4 x0.Nodes.length ∧
 inI ((x0.Positions.length : Int) - 1) ∧
 q37 (ix x0.Nodes v4) 0 ((x0.Positions.length : Int) - 1) fun v5 =>
 (¬ (v5 = true) →
 Φ ((q12.mk 0 ([] : List Int) ([] : List Int) ([] : List Int) ([] : List q8)), 7)) ∧
 (¬ (¬ (v5 = true)) →
 q64 v1.1 (ix x0.Writes v4) fun v6 =>
 (¬ (v6 = 0) →
 Φ ((q12.mk 0 ([] : List Int) ([] : List Int) ([] : List Int) ([] : List q8)), v6)) ∧
 (¬ (¬ (v6 = 0)) →
 inI (v4 + 1) ∧
 rec1 (v4 + 1)))) ∧
 (¬ (v4 < (x0.Writes.length : Int)) →
 inI ((x0.Positions.length : Int) - 1) ∧
 q37 x1 0 ((x0.Positions.length : Int) - 1) fun v7 =>
 (¬ (v7 = true) →
 Φ ((q12.mk 0 ([] : List Int) ([] : List Int) ([] : List Int) ([] : List q8)), 7)) ∧
 (¬ (¬ (v7 = true)) →
 q64 v1.1 x2 fun v8 =>
 (¬ (v8 = 0) →
 Φ ((q12.mk 0 ([] : List Int) ([] : List Int) ([] : List Int) ([] : List q8)), v8)) ∧
 (¬ (¬ (v8 = 0)) →
 (¬ ((x0.Writes.length : Int) < 4096) →
 Φ ((q12.mk 0 ([] : List Int) ([] : List Int) ([] : List Int) ([] : List q8)), 11)) ∧
 (¬ (¬ ((x0.Writes.length : Int) < 4096)) →
 Z80 x0 fun v9 =>
 lenOk (v9.Nodes ++ ([x1] : List Int)).length 8 ∧
 ∃ v10 : q8 × Unit, Z78 x2 (fun z => (z, ()) = v10) ∧
 lenOk (v9.Writes ++ ([v10.1] : List q8)).length 40 ∧
 Φ ((q12.mk v9.Number v9.Sizes v9.Positions (v9.Nodes ++ ([x1] : List Int)) (v9.Writes ++ ([v10.1] : List q8))), 0)))))
def q230 (x0 : q12) (x1 : Int) (x2 : q8) (Φ : q12 × Int → Prop) : Prop :=
 q41 x0.Sizes fun v1 =>
 (¬ (v1.2 = 0) →
 Φ ((q12.mk 0 ([] : List Int) ([] : List Int) ([] : List Int) ([] : List q8)), v1.2)) ∧
 (¬ (¬ (v1.2 = 0)) →
 q37 x0.Number 0 1073741823 fun v2 =>
 (¬ (v2 = true) →
 Φ ((q12.mk 0 ([] : List Int) ([] : List Int) ([] : List Int) ([] : List q8)), 2)) ∧
 (¬ (¬ (v2 = true)) →
 Z33 x0.Positions 1 fun v3 =>
 (¬ (v3 = 0) →
 Φ ((q12.mk 0 ([] : List Int) ([] : List Int) ([] : List Int) ([] : List q8)), v3)) ∧
 (¬ (¬ (v3 = 0)) →
 ((x0.Nodes.length : Int) = (x0.Writes.length : Int) →
 (¬ ((x0.Writes.length : Int) ≤ 4096) →
 Φ ((q12.mk 0 ([] : List Int) ([] : List Int) ([] : List Int) ([] : List q8)), 6)) ∧
 (¬ (¬ ((x0.Writes.length : Int) ≤ 4096)) →
 LoopW (q488 x0 x1 x2 v1 Φ) 0)) ∧
 (¬ ((x0.Nodes.length : Int) = (x0.Writes.length : Int)) →
 Φ ((q12.mk 0 ([] : List Int) ([] : List Int) ([] : List Int) ([] : List q8)), 6)))))
def Z81 (x0 : Int) (Φ : Bool → Prop) : Prop :=
 Φ (decide (0 < x0))
def Z82 (x0 : q26) (x1 : Bool) : (List (Int × q8 × Unit) × Int) → ((List (Int × q8 × Unit) × Int) → Prop) → Prop
 | (l1, v1), rec1 =>
 (v1 < (x0.c.Writes.length : Int) →
 inX v1 x0.c.Writes.length ∧
 inX v1 x0.part.length ∧
 ((ix x0.part v1) = x1 →
 Yl l1 fun v2 r3 => (v1, (ix x0.c.Writes v1), ()) = v2 ∧ (
 inI (v1 + 1) ∧
 rec1 (r3, (v1 + 1))) ∧ (
 True)) ∧
 (¬ ((ix x0.part v1) = x1) →
 inI (v1 + 1) ∧
 rec1 (l1, (v1 + 1)))) ∧
 (¬ (v1 < (x0.c.Writes.length : Int)) →
 l1 = [])
def q20 (x0 : q26) (x1 : Bool) (l : List (Int × q8 × Unit)) : Prop :=
 LoopW (Z82 x0 x1) (l, 0)
def Z83 (x0 : q8) (Φ : Int → Prop) : Bool → Prop
 | v1 =>
 (v1 = true →
 Φ 7) ∧
 (¬ (v1 = true) →
 ((x0.Data.length : Int) = 0 →
 Φ 1) ∧
 (¬ ((x0.Data.length : Int) = 0) →
 (x0.Start < 0 →
 Φ 2) ∧
 (¬ (x0.Start < 0) →
 inI (4096 - (x0.Data.length : Int)) ∧
 ((4096 - (x0.Data.length : Int)) < x0.Start →
 Φ 2) ∧
 (¬ ((4096 - (x0.Data.length : Int)) < x0.Start) →
 Φ 0))))
def Z84 (x0 : q8) (Φ : Int → Prop) : Prop :=
 Join (Z83 x0 Φ) fun J1 =>
 (x0.Volume < 0 →
 J1 true) ∧
 (¬ (x0.Volume < 0) →
 J1 (decide (8 ≤ x0.Volume)))
def Z85 (x0 : q9) (Φ : q9 → Prop) : Prop :=
 inI (x0.sector + 1) ∧
 Φ (q9.mk x0.volume (x0.sector + 1))
def Z86 (x0 : Int) (Φ : Bool → Prop) : Prop :=
 Φ (decide (x0 ≠ x0))
def Z87 (x0 : Int) (x1 : Int) (Φ : Int → Prop) : Prop :=
 Z86 x0 fun v1 =>
 Z86 x1 fun v2 =>
 (v1 = true →
 (v2 = true →
 Φ 0) ∧
 (¬ (v2 = true) →
 Φ (-1))) ∧
 (¬ (v1 = true) →
 (v2 = true →
 Φ 1) ∧
 (¬ (v2 = true) →
 (x0 < x1 →
 Φ (-1)) ∧
 (¬ (x0 < x1) →
 (x1 < x0 →
 Φ 1) ∧
 (¬ (x1 < x0) →
 Φ 0))))
def q438 (x0 : List Int) (Φ : Int → Prop) : (Int) → ((Int) → Prop) → Prop
 | v1, rec1 =>
 (v1 < (x0.length : Int) →
 inX v1 x0.length ∧
 ((ix x0 v1) ≠ 0 →
 Φ (ix x0 v1)) ∧
 (¬ ((ix x0 v1) ≠ 0) →
 inI (v1 + 1) ∧
 rec1 (v1 + 1))) ∧
 (¬ (v1 < (x0.length : Int)) →
 Φ 0)
def q295 (x0 : List Int) (Φ : Int → Prop) : Prop :=
 LoopW (q438 x0 Φ) 0
def Z88 (x0 : q9) (x1 : q9) (Φ : Int → Prop) : Prop :=
 ∃ v1 : Int × Unit, Z87 x0.volume x1.volume (fun z => (z, ()) = v1) ∧
 ∃ v2 : Int × Unit, Z87 x0.sector x1.sector (fun z => (z, ()) = v2) ∧
 ∃ v3 : Int × Unit, q295 ([v1.1, v2.1] : List Int) (fun z => (z, ()) = v3) ∧
 Φ v3.1
def pleB (a b : q9) : Bool := decide (a.volume < b.volume ∨ a.volume = b.volume ∧ a.sector ≤ b.sector)
def Z89 (xs : List q9) (Φ : List q9 → Prop) : Prop := xs.length ≤ 1099511627776 ∧ Φ (sortG pleB xs)
def Z90 (x0 : List q8) (v3 : Int) (rec2 : (Int × (List (q9 × Sec))) → Prop) (_ : List q8 × Int → Prop) : (Int × Int × Int × (List (q9 × Sec))) → ((Int × Int × Int × (List (q9 × Sec))) → Prop) → Prop
 | (v5, v6, v7, v8), rec3 =>
 (v5 < (((ix x0 v3).Data).length : Int) →
 inX v5 ((ix x0 v3).Data).length ∧
 Z85 (q9.mk v6 v7) fun v9 =>
 inI (v5 + 1) ∧
 rec3 ((v5 + 1), v9.volume, v9.sector, (mput v8 (q9.mk v6 v7) (ix ((ix x0 v3).Data) v5)))) ∧
 (¬ (v5 < (((ix x0 v3).Data).length : Int)) →
 inI (v3 + 1) ∧
 rec2 ((v3 + 1), v8))
def Z91 (v4 : List (q9 × Sec)) (v13 : List q9) (v14 : Int) (rec5 : (Int × Int × Int × List q8 × List Sec) → Prop) (_ : List q8 × Int → Prop) : List q8 × List Sec → Prop
 | (v19, v20) =>
 inI ((v19.length : Int) - 1) ∧
 inX ((v19.length : Int) - 1) v19.length ∧
 ((v19.length : Int) - 1) + 1 = (v19.length : Int) ∧
 lenOk (v20 ++ ([(mget v4 (ix v13 v14) sec0)] : List Sec)).length 8 ∧
 Z85 (ix v13 v14) fun v21 =>
 inI (v14 + 1) ∧
 rec5 ((v14 + 1), v21.volume, v21.sector, v19, (v20 ++ ([(mget v4 (ix v13 v14) sec0)] : List Sec)))
def Z92 (v4 : List (q9 × Sec)) (v13 : List q9) (Φ : List q8 × Int → Prop) : (Int × Int × Int × List q8 × List Sec) → ((Int × Int × Int × List q8 × List Sec) → Prop) → Prop
 | (v14, v15, v16, v17, v18), rec5 =>
 (v14 < (v13.length : Int) →
 inX v14 v13.length ∧
 Join (Z91 v4 v13 v14 rec5 Φ) fun J6 =>
 ((ix v13 v14) ≠ (q9.mk v15 v16) →
 lenOk ((put v17 ((v17.length : Int) - 1) (q8.mk ((ix v17 ((v17.length : Int) - 1)).Volume) ((ix v17 ((v17.length : Int) - 1)).Start) v18)) ++ ([(q8.mk ((ix v13 v14).volume) ((ix v13 v14).sector) ([] : List Sec))] : List q8)).length 40 ∧
 J6 (((put v17 ((v17.length : Int) - 1) (q8.mk ((ix v17 ((v17.length : Int) - 1)).Volume) ((ix v17 ((v17.length : Int) - 1)).Start) v18)) ++ ([(q8.mk ((ix v13 v14).volume) ((ix v13 v14).sector) ([] : List Sec))] : List q8)), ([] : List Sec))) ∧
 (¬ ((ix v13 v14) ≠ (q9.mk v15 v16)) →
 J6 (v17, v18))) ∧
 (¬ (v14 < (v13.length : Int)) →
 Φ ((put v17 ((v17.length : Int) - 1) (q8.mk ((ix v17 ((v17.length : Int) - 1)).Volume) ((ix v17 ((v17.length : Int) - 1)).Start) v18)), 0))
def Z93 (v4 : List (q9 × Sec)) (Φ : List q8 × Int → Prop) : (((Nat × List Nat)) × List q9) → ((((Nat × List Nat)) × List q9) → Prop) → Prop
 | (v10, v11), rec4 =>
 v4.length = v10.1 ∧ ((∀ i, i < v4.length → i ∈ v10.2) →
 Z89 v11 fun v13 =>
 LoopW (Z92 v4 v13 Φ) (0, (-1), 0, ([] : List q8), ([] : List Sec))) ∧
 ∀ i12, i12 < v4.length → i12 ∉ v10.2 →
 v4.length = v10.1 ∧
 i12 < v4.length ∧
 lenOk (v11 ++ ([((ent v4 i12).1)] : List q9)).length 16 ∧
 rec4 ((v10.1, (i12 :: v10.2)), (v11 ++ ([((ent v4 i12).1)] : List q9)))
def Z94 (x0 : List q8) (Φ : List q8 × Int → Prop) : (Int × (List (q9 × Sec))) → ((Int × (List (q9 × Sec))) → Prop) → Prop
 | (v3, v4), rec2 =>
 (v3 < (x0.length : Int) →
 inX v3 x0.length ∧
 LoopW (Z90 x0 v3 rec2 Φ) (0, (ix x0 v3).Volume, (ix x0 v3).Start, v4)) ∧
 (¬ (v3 < (x0.length : Int)) →
 0 ≤ (v4.length : Int) ∧
 lenOk (v4.length : Int).toNat 16 ∧
 LoopW (Z93 v4 Φ) ((v4.length, []), ([] : List q9)))
def Z95 (x0 : List q8) (Φ : List q8 × Int → Prop) : (Int) → ((Int) → Prop) → Prop
 | v1, rec1 =>
 (v1 < (x0.length : Int) →
 inX v1 x0.length ∧
 Z84 (ix x0 v1) fun v2 =>
 (v2 ≠ 0 →
 Φ (([] : List q8), v2)) ∧
 (¬ (v2 ≠ 0) →
 inI (v1 + 1) ∧
 rec1 (v1 + 1))) ∧
 (¬ (v1 < (x0.length : Int)) →
 LoopW (Z94 x0 Φ) (0, ([] : List (q9 × Sec))))
def Z96 (x0 : List q8) (Φ : List q8 × Int → Prop) : Prop :=
 LoopW (Z95 x0 Φ) 0
def Z97 (v1 : q8) (v2 : List Sec) (rec1 : (List (Int × q8 × Unit) × List Sec) → Prop) (v3 : Int × q8 × Unit) (r4 : List (Int × q8 × Unit)) (_ : q8 → Prop) : (Int × List Sec) → ((Int × List Sec) → Prop) → Prop
 | (v6, v7), rec3 =>
 (v6 < (v2.length : Int) →
 inI (v1.Start + v6) ∧
 inI ((v1.Start + v6) - v3.2.1.Start) ∧
 inI ((v3.2.1.Data.length : Int) - 1) ∧
 q37 ((v1.Start + v6) - v3.2.1.Start) 0 ((v3.2.1.Data.length : Int) - 1) fun v8 =>
 (v8 = true →
 inX ((v1.Start + v6) - v3.2.1.Start) v3.2.1.Data.length ∧
 inX v6 v7.length ∧
 inI (v6 + 1) ∧
 rec3 ((v6 + 1), (put v7 v6 (ix v3.2.1.Data ((v1.Start + v6) - v3.2.1.Start))))) ∧
 (¬ (v8 = true) →
 inI (v6 + 1) ∧
 rec3 ((v6 + 1), v7))) ∧
 (¬ (v6 < (v2.length : Int)) →
 rec1 (r4, v7))
def Z98 (v1 : q8) (v2 : List Sec) (rec1 : (List (Int × q8 × Unit) × List Sec) → Prop) (v3 : Int × q8 × Unit) (r4 : List (Int × q8 × Unit)) (Φ : q8 → Prop) : Bool → Prop
 | v5 =>
 (v5 = true →
 rec1 (r4, v2)) ∧
 (¬ (v5 = true) →
 LoopW (Z97 v1 v2 rec1 v3 r4 Φ) (0, v2))
def Z99 (x1 : Int) (v1 : q8) (Φ : q8 → Prop) : (List (Int × q8 × Unit) × List Sec) → ((List (Int × q8 × Unit) × List Sec) → Prop) → Prop
 | (lst, v2), rec1 =>
 match lst with
 | [] =>
 Φ (q8.mk v1.Volume v1.Start v2)
 | v3 :: r4 =>
 Join (Z98 v1 v2 rec1 v3 r4 Φ) fun J2 =>
 (v3.1 < x1 →
 J2 true) ∧
 (¬ (v3.1 < x1) →
 J2 (decide (v3.2.1.Volume ≠ v1.Volume)))
def Z100 (x0 : q26) (x1 : Int) (x2 : q8) (Φ : q8 → Prop) : Prop :=
 Z78 x2 fun v1 =>
 ∃ l9 : List (Int × q8 × Unit), q20 x0 true l9 ∧
 LoopW (Z99 x1 v1 Φ) (l9, v1.Data)
def Z101 (x0 : q12) (x1 : Int) (v12 : List Bool) (v18 : List q8 × Int) (v19 : List Int × Unit) (v20 : List Int × Unit) (v21 : List Int × Unit) (Φ : q12 × q14 × Int → Prop) : (List (Int × q8 × Unit) × (List Int × List q8)) → ((List (Int × q8 × Unit) × (List Int × List q8)) → Prop) → Prop
 | (lst, v22, v23), rec6 =>
 match lst with
 | [] =>
 Φ ((q12.mk (x0.Number + 1) v20.1 v21.1 v22 v23), (q14.mk x0.Number (x0.Number + 1) x1 v19.1 v18.1), 0)
 | v24 :: r25 =>
 inX v24.1 x0.Nodes.length ∧
 lenOk (v22 ++ ([(ix x0.Nodes v24.1)] : List Int)).length 8 ∧
 ∃ v26 : q8 × Unit, Z100 (q26.mk x0 v12) v24.1 v24.2.1 (fun z => (z, ()) = v26) ∧
 lenOk (v23 ++ ([v26.1] : List q8)).length 40 ∧
 rec6 (r25, ((v22 ++ ([(ix x0.Nodes v24.1)] : List Int)), (v23 ++ ([v26.1] : List q8))))
def Z102 (x0 : q12) (x1 : Int) (x2 : List Int) (v12 : List Bool) (Φ : q12 × q14 × Int → Prop) : (List (Int × q8 × Unit) × List q8) → ((List (Int × q8 × Unit) × List q8) → Prop) → Prop
 | (lst, v15), rec5 =>
 match lst with
 | [] =>
 Z96 v15 fun v18 =>
 (¬ (v18.2 = 0) →
 Φ ((q12.mk 0 ([] : List Int) ([] : List Int) ([] : List Int) ([] : List q8)), (q14.mk 0 0 0 ([] : List Int) ([] : List q8)), v18.2)) ∧
 (¬ (¬ (v18.2 = 0)) →
 inI (x0.Number + 1) ∧
 ∃ v19 : List Int × Unit, Z8 x2 (fun z => (z, ()) = v19) ∧
 inI (x0.Number + 1) ∧
 ∃ v20 : List Int × Unit, Z8 x0.Sizes (fun z => (z, ()) = v20) ∧
 ∃ v21 : List Int × Unit, Z8 x2 (fun z => (z, ()) = v21) ∧
 ∃ l27 : List (Int × q8 × Unit), q20 (q26.mk x0 v12) false l27 ∧
 LoopW (Z101 x0 x1 v12 v18 v19 v20 v21 Φ) (l27, (([] : List Int), ([] : List q8))))
 | v16 :: r17 =>
 lenOk (v15 ++ ([v16.2.1] : List q8)).length 40 ∧
 rec5 (r17, (v15 ++ ([v16.2.1] : List q8)))
def Z103 (x0 : q12) (x1 : Int) (v12 : List Bool) (v32 : List q8 × Int) (v33 : List Int × Unit) (v34 : List Int × Unit) (v35 : List Int × Unit) (Φ : q12 × q14 × Int → Prop) : (List (Int × q8 × Unit) × (List Int × List q8)) → ((List (Int × q8 × Unit) × (List Int × List q8)) → Prop) → Prop
 | (lst, v36, v37), rec8 =>
 match lst with
 | [] =>
 Φ ((q12.mk (x0.Number + 1) v34.1 v35.1 v36 v37), (q14.mk x0.Number (x0.Number + 1) x1 v33.1 v32.1), 0)
 | v38 :: r39 =>
 inX v38.1 x0.Nodes.length ∧
 lenOk (v36 ++ ([(ix x0.Nodes v38.1)] : List Int)).length 8 ∧
 ∃ v40 : q8 × Unit, Z100 (q26.mk x0 v12) v38.1 v38.2.1 (fun z => (z, ()) = v40) ∧
 lenOk (v37 ++ ([v40.1] : List q8)).length 40 ∧
 rec8 (r39, ((v36 ++ ([(ix x0.Nodes v38.1)] : List Int)), (v37 ++ ([v40.1] : List q8))))
def Z104 (x0 : q12) (x1 : Int) (x2 : List Int) (v12 : List Bool) (Φ : q12 × q14 × Int → Prop) : (List (Int × q8 × Unit) × List q8) → ((List (Int × q8 × Unit) × List q8) → Prop) → Prop
 | (lst, v29), rec7 =>
 match lst with
 | [] =>
 Z96 v29 fun v32 =>
 (¬ (v32.2 = 0) →
 Φ ((q12.mk 0 ([] : List Int) ([] : List Int) ([] : List Int) ([] : List q8)), (q14.mk 0 0 0 ([] : List Int) ([] : List q8)), v32.2)) ∧
 (¬ (¬ (v32.2 = 0)) →
 inI (x0.Number + 1) ∧
 ∃ v33 : List Int × Unit, Z8 x2 (fun z => (z, ()) = v33) ∧
 inI (x0.Number + 1) ∧
 ∃ v34 : List Int × Unit, Z8 x0.Sizes (fun z => (z, ()) = v34) ∧
 ∃ v35 : List Int × Unit, Z8 x2 (fun z => (z, ()) = v35) ∧
 ∃ l41 : List (Int × q8 × Unit), q20 (q26.mk x0 v12) false l41 ∧
 LoopW (Z103 x0 x1 v12 v32 v33 v34 v35 Φ) (l41, (([] : List Int), ([] : List q8))))
 | v30 :: r31 =>
 lenOk (v29 ++ ([v30.2.1] : List q8)).length 40 ∧
 rec7 (r31, (v29 ++ ([v30.2.1] : List q8)))
def Z105 (x0 : q12) (x1 : Int) (x2 : List Int) (v11 : List Int) (v12 : List Bool) (Φ : q12 × q14 × Int → Prop) : (Int) → ((Int) → Prop) → Prop
 | v13, rec4 =>
 (v13 < (v11.length : Int) →
 inX v13 v11.length ∧
 Z81 (ix v11 v13) fun v14 =>
 (v14 = true →
 (¬ (¬ (0 ≤ v13)) →
 Φ ((q12.mk 0 ([] : List Int) ([] : List Int) ([] : List Int) ([] : List q8)), (q14.mk 0 0 0 ([] : List Int) ([] : List q8)), 2)) ∧
 (¬ (¬ (¬ (0 ≤ v13))) →
 ∃ l28 : List (Int × q8 × Unit), q20 (q26.mk x0 v12) true l28 ∧
 LoopW (Z102 x0 x1 x2 v12 Φ) (l28, ([] : List q8)))) ∧
 (¬ (v14 = true) →
 inI (v13 + 1) ∧
 rec4 (v13 + 1))) ∧
 (¬ (v13 < (v11.length : Int)) →
 (¬ (¬ (0 ≤ ((-1) : Int))) →
 Φ ((q12.mk 0 ([] : List Int) ([] : List Int) ([] : List Int) ([] : List q8)), (q14.mk 0 0 0 ([] : List Int) ([] : List q8)), 2)) ∧
 (¬ (¬ (¬ (0 ≤ ((-1) : Int)))) →
 ∃ l42 : List (Int × q8 × Unit), q20 (q26.mk x0 v12) true l42 ∧
 LoopW (Z104 x0 x1 x2 v12 Φ) (l42, ([] : List q8))))
def Z106 (x0 : q12) (x1 : Int) (x2 : List Int) (Φ : q12 × q14 × Int → Prop) : (Int × List Int × List Bool) → ((Int × List Int × List Bool) → Prop) → Prop
 | (v10, v11, v12), rec3 =>
 (v10 < (x0.Nodes.length : Int) →
 inX v10 x0.Nodes.length ∧
 inX (ix x0.Nodes v10) v11.length ∧
 lenOk (v12 ++ ([decide (0 < (ix v11 (ix x0.Nodes v10)))] : List Bool)).length 1 ∧
 inX (ix x0.Nodes v10) v11.length ∧
 inI ((ix v11 (ix x0.Nodes v10)) - 1) ∧
 inX (ix x0.Nodes v10) v11.length ∧
 inI (v10 + 1) ∧
 rec3 ((v10 + 1), (put v11 (ix x0.Nodes v10) (if ((ix v11 (ix x0.Nodes v10)) - 1) < 0 then 0 else ((ix v11 (ix x0.Nodes v10)) - 1))), (v12 ++ ([decide (0 < (ix v11 (ix x0.Nodes v10)))] : List Bool)))) ∧
 (¬ (v10 < (x0.Nodes.length : Int)) →
 LoopW (Z105 x0 x1 x2 v11 v12 Φ) 0)
def Z107 (x0 : q12) (x1 : Int) (x2 : List Int) (Φ : q12 × q14 × Int → Prop) : (Int × List Int) → ((Int × List Int) → Prop) → Prop
 | (v8, v9), rec2 =>
 (v8 < (x2.length : Int) →
 inX v8 x2.length ∧
 inX v8 x0.Positions.length ∧
 inX v8 v9.length ∧
 inX v8 (put v9 v8 (Go.IntKind.wrap Go.IntKind.i64 ((ix x2 v8) - (ix x0.Positions v8)))).length ∧
 (¬ (0 ≤ (ix (put v9 v8 (Go.IntKind.wrap Go.IntKind.i64 ((ix x2 v8) - (ix x0.Positions v8)))) v8)) →
 Φ ((q12.mk 0 ([] : List Int) ([] : List Int) ([] : List Int) ([] : List q8)), (q14.mk 0 0 0 ([] : List Int) ([] : List q8)), 2)) ∧
 (¬ (¬ (0 ≤ (ix (put v9 v8 (Go.IntKind.wrap Go.IntKind.i64 ((ix x2 v8) - (ix x0.Positions v8)))) v8))) →
 inI (v8 + 1) ∧
 rec2 ((v8 + 1), (put v9 v8 (Go.IntKind.wrap Go.IntKind.i64 ((ix x2 v8) - (ix x0.Positions v8))))))) ∧
 (¬ (v8 < (x2.length : Int)) →
 LoopW (Z106 x0 x1 x2 Φ) (0, v9, ([] : List Bool)))
def Z108 (x0 : q12) (x1 : Int) (x2 : List Int) (v1 : List (List Sec) × Int) (Φ : q12 × q14 × Int → Prop) : (Int) → ((Int) → Prop) → Prop
 | v4, rec1 =>
 (v4 < (x0.Writes.length : Int) →
 inX v4 x0.Writes.length ∧
 inX v4 x0.Nodes.length ∧
 inI ((x0.Positions.length : Int) - 1) ∧
 q37 (ix x0.Nodes v4) 0 ((x0.Positions.length : Int) - 1) fun v5 =>
 (¬ (v5 = true) →
 Φ ((q12.mk 0 ([] : List Int) ([] : List Int) ([] : List Int) ([] : List q8)), (q14.mk 0 0 0 ([] : List Int) ([] : List q8)), 7)) ∧
 (¬ (¬ (v5 = true)) →
 q64 v1.1 (ix x0.Writes v4) fun v6 =>
 (¬ (v6 = 0) →
 Φ ((q12.mk 0 ([] : List Int) ([] : List Int) ([] : List Int) ([] : List q8)), (q14.mk 0 0 0 ([] : List Int) ([] : List q8)), v6)) ∧
 (¬ (¬ (v6 = 0)) →
 inI (v4 + 1) ∧
 rec1 (v4 + 1)))) ∧
 (¬ (v4 < (x0.Writes.length : Int)) →
 q37 x1 0 1073741824 fun v7 =>
 (¬ (v7 = true) →
 Φ ((q12.mk 0 ([] : List Int) ([] : List Int) ([] : List Int) ([] : List q8)), (q14.mk 0 0 0 ([] : List Int) ([] : List q8)), 24)) ∧
 (¬ (¬ (v7 = true)) →
 (¬ ((x2.length : Int) = (x0.Positions.length : Int)) →
 Φ ((q12.mk 0 ([] : List Int) ([] : List Int) ([] : List Int) ([] : List q8)), (q14.mk 0 0 0 ([] : List Int) ([] : List q8)), 6)) ∧
 (¬ (¬ ((x2.length : Int) = (x0.Positions.length : Int))) →
 0 ≤ (x2.length : Int) ∧
 lenOk (x2.length : Int).toNat 8 ∧
 LoopW (Z107 x0 x1 x2 Φ) (0, (List.replicate (x2.length : Int).toNat (0 : Int))))))
def q57 (x0 : q12) (x1 : Int) (x2 : List Int) (Φ : q12 × q14 × Int → Prop) : Prop :=
 q41 x0.Sizes fun v1 =>
 (¬ (v1.2 = 0) →
 Φ ((q12.mk 0 ([] : List Int) ([] : List Int) ([] : List Int) ([] : List q8)), (q14.mk 0 0 0 ([] : List Int) ([] : List q8)), v1.2)) ∧
 (¬ (¬ (v1.2 = 0)) →
 q37 x0.Number 0 1073741823 fun v2 =>
 (¬ (v2 = true) →
 Φ ((q12.mk 0 ([] : List Int) ([] : List Int) ([] : List Int) ([] : List q8)), (q14.mk 0 0 0 ([] : List Int) ([] : List q8)), 2)) ∧
 (¬ (¬ (v2 = true)) →
 Z33 x0.Positions 1 fun v3 =>
 (¬ (v3 = 0) →
 Φ ((q12.mk 0 ([] : List Int) ([] : List Int) ([] : List Int) ([] : List q8)), (q14.mk 0 0 0 ([] : List Int) ([] : List q8)), v3)) ∧
 (¬ (¬ (v3 = 0)) →
 ((x0.Nodes.length : Int) = (x0.Writes.length : Int) →
 (¬ ((x0.Writes.length : Int) ≤ 4096) →
 Φ ((q12.mk 0 ([] : List Int) ([] : List Int) ([] : List Int) ([] : List q8)), (q14.mk 0 0 0 ([] : List Int) ([] : List q8)), 6)) ∧
 (¬ (¬ ((x0.Writes.length : Int) ≤ 4096)) →
 LoopW (Z108 x0 x1 x2 v1 Φ) 0)) ∧
 (¬ ((x0.Nodes.length : Int) = (x0.Writes.length : Int)) →
 Φ ((q12.mk 0 ([] : List Int) ([] : List Int) ([] : List Int) ([] : List q8)), (q14.mk 0 0 0 ([] : List Int) ([] : List q8)), 6)))))
def q254 (v8 : Int) (v9 : Int) (v15 : List Int) (v16 : List q13) (v17 : List (List Sec)) (v18 : Int) (v19 : Int) (v20 : List (List (List Sec))) (v21 : List q14) (v22 : List q8) (rec2 : (Int × Int × Int × List Int × List Int × List Int × List q8 × List Int × List q13 × List (List Sec) × Int × Int × List (List (List Sec)) × List q14 × List q8) → Prop) (v23 : q8) (v24 : q11 × Int) (v25 : List (List Sec) × Int × Int) (v26 : q12 × Int) (Φ : q17 × Bool → Prop) : Bool → Prop
 | v27 =>
 (v27 = true →
 Φ ((q17.mk (q11.mk v15 v16) v17 v20 v21 v22 (q92.mk v18 v19)), false)) ∧
 (¬ (v27 = true) →
 lenOk (v22 ++ ([v23] : List q8)).length 40 ∧
 inI (v8 + 1) ∧
 inI (v9 + 1) ∧
 rec2 ((v8 + 1), (v9 + 1), v26.1.Number, v26.1.Sizes, v26.1.Positions, v26.1.Nodes, v26.1.Writes, v24.1.Sizes, v24.1.Peers, v25.1, v18, v19, v20, v21, (v22 ++ ([v23] : List q8))))
def q255 (x0 : List q15) (v8 : Int) (v9 : Int) (v10 : Int) (v11 : List Int) (v12 : List Int) (v13 : List Int) (v14 : List q8) (v15 : List Int) (v16 : List q13) (v17 : List (List Sec)) (v18 : Int) (v19 : Int) (v20 : List (List (List Sec))) (v21 : List q14) (v22 : List q8) (rec2 : (Int × Int × Int × List Int × List Int × List Int × List q8 × List Int × List q13 × List (List Sec) × Int × Int × List (List (List Sec)) × List q14 × List q8) → Prop) (v30 : q11 × Int × Unit) (Φ : q17 × Bool → Prop) : Bool → Prop
 | v31 =>
 (v31 = true →
 Φ ((q17.mk (q11.mk v15 v16) v17 v20 v21 v22 (q92.mk v18 v19)), false)) ∧
 (¬ (v31 = true) →
 (0 ≤ ((((ix x0 v9).Start) % (2#8)).toNat : Int) ∧ ((((ix x0 v9).Start) % (2#8)).toNat : Int) < (2 : Int)) ∧
 (((((ix x0 v9).Start) % (2#8)).toNat : Int) = (0 : Int) →
 ((0 : Int) ≤ 0 ∧ 0 < (2 : Int)) ∧
 inI (v9 + 1) ∧
 rec2 (v8, (v9 + 1), v10, v11, v12, v13, v14, v30.1.Sizes, v30.1.Peers, v17, (v18 + ((((ix x0 v9).First).toNat : Int) % (((v21.length : Int) - v18) + 1))), v19, v20, v21, v22)) ∧
 (((((ix x0 v9).Start) % (2#8)).toNat : Int) = (1 : Int) →
 ((0 : Int) ≤ 1 ∧ 1 < (2 : Int)) ∧
 inI (v9 + 1) ∧
 rec2 (v8, (v9 + 1), v10, v11, v12, v13, v14, v30.1.Sizes, v30.1.Peers, v17, v18, (v18 + ((((ix x0 v9).First).toNat : Int) % (((v21.length : Int) - v18) + 1))), v20, v21, v22)) ∧
 True)
def q439 (x0 : List q15) (v8 : Int) (v9 : Int) (v10 : Int) (v11 : List Int) (v12 : List Int) (v13 : List Int) (v14 : List q8) (v15 : List Int) (v16 : List q13) (v17 : List (List Sec)) (v18 : Int) (v19 : Int) (v20 : List (List (List Sec))) (v21 : List q14) (v22 : List q8) (rec2 : (Int × Int × Int × List Int × List Int × List Int × List q8 × List Int × List q13 × List (List Sec) × Int × Int × List (List (List Sec)) × List q14 × List q8) → Prop) (v33 : q11 × Int × Unit) (Φ : q17 × Bool → Prop) : Bool → Prop
 | v34 =>
 (v34 = true →
 Φ ((q17.mk (q11.mk v15 v16) v17 v20 v21 v22 (q92.mk v18 v19)), false)) ∧
 (¬ (v34 = true) →
 (0 ≤ ((((ix x0 v9).Start) % (2#8)).toNat : Int) ∧ ((((ix x0 v9).Start) % (2#8)).toNat : Int) < (2 : Int)) ∧
 (((((ix x0 v9).Start) % (2#8)).toNat : Int) = (0 : Int) →
 ((0 : Int) ≤ 0 ∧ 0 < (2 : Int)) ∧
 inI (v9 + 1) ∧
 rec2 (v8, (v9 + 1), v10, v11, v12, v13, v14, v33.1.Sizes, v33.1.Peers, v17, (v18 + ((((ix x0 v9).First).toNat : Int) % (((v21.length : Int) - v19) + 1))), v19, v20, v21, v22)) ∧
 (((((ix x0 v9).Start) % (2#8)).toNat : Int) = (1 : Int) →
 ((0 : Int) ≤ 1 ∧ 1 < (2 : Int)) ∧
 inI (v9 + 1) ∧
 rec2 (v8, (v9 + 1), v10, v11, v12, v13, v14, v33.1.Sizes, v33.1.Peers, v17, v18, (v18 + ((((ix x0 v9).First).toNat : Int) % (((v21.length : Int) - v19) + 1))), v20, v21, v22)) ∧
 True)
def q440 (x0 : List q15) (v8 : Int) (v9 : Int) (v10 : Int) (v11 : List Int) (v12 : List Int) (v13 : List Int) (v14 : List q8) (v15 : List Int) (v16 : List q13) (v17 : List (List Sec)) (v18 : Int) (v19 : Int) (v20 : List (List (List Sec))) (v21 : List q14) (v22 : List q8) (rec2 : (Int × Int × Int × List Int × List Int × List Int × List q8 × List Int × List q13 × List (List Sec) × Int × Int × List (List (List Sec)) × List q14 × List q8) → Prop) (v36 : q11 × Int × Unit) (Φ : q17 × Bool → Prop) : Bool → Prop
 | v37 =>
 (v37 = true →
 Φ ((q17.mk (q11.mk v15 v16) v17 v20 v21 v22 (q92.mk v18 v19)), false)) ∧
 (¬ (v37 = true) →
 (0 ≤ ((((ix x0 v9).Start) % (2#8)).toNat : Int) ∧ ((((ix x0 v9).Start) % (2#8)).toNat : Int) < (2 : Int)) ∧
 (((((ix x0 v9).Start) % (2#8)).toNat : Int) = (0 : Int) →
 ((0 : Int) ≤ 0 ∧ 0 < (2 : Int)) ∧
 inI (v9 + 1) ∧
 rec2 (v8, (v9 + 1), v10, v11, v12, v13, v14, v36.1.Sizes, v36.1.Peers, v17, (v19 + ((((ix x0 v9).First).toNat : Int) % (((v21.length : Int) - v18) + 1))), v19, v20, v21, v22)) ∧
 (((((ix x0 v9).Start) % (2#8)).toNat : Int) = (1 : Int) →
 ((0 : Int) ≤ 1 ∧ 1 < (2 : Int)) ∧
 inI (v9 + 1) ∧
 rec2 (v8, (v9 + 1), v10, v11, v12, v13, v14, v36.1.Sizes, v36.1.Peers, v17, v18, (v19 + ((((ix x0 v9).First).toNat : Int) % (((v21.length : Int) - v18) + 1))), v20, v21, v22)) ∧
 True)
def q256 (x0 : List q15) (v8 : Int) (v9 : Int) (v10 : Int) (v11 : List Int) (v12 : List Int) (v13 : List Int) (v14 : List q8) (v15 : List Int) (v16 : List q13) (v17 : List (List Sec)) (v18 : Int) (v19 : Int) (v20 : List (List (List Sec))) (v21 : List q14) (v22 : List q8) (rec2 : (Int × Int × Int × List Int × List Int × List Int × List q8 × List Int × List q13 × List (List Sec) × Int × Int × List (List (List Sec)) × List q14 × List q8) → Prop) (v39 : q11 × Int × Unit) (Φ : q17 × Bool → Prop) : Bool → Prop
 | v40 =>
 (v40 = true →
 Φ ((q17.mk (q11.mk v15 v16) v17 v20 v21 v22 (q92.mk v18 v19)), false)) ∧
 (¬ (v40 = true) →
 (0 ≤ ((((ix x0 v9).Start) % (2#8)).toNat : Int) ∧ ((((ix x0 v9).Start) % (2#8)).toNat : Int) < (2 : Int)) ∧
 (((((ix x0 v9).Start) % (2#8)).toNat : Int) = (0 : Int) →
 ((0 : Int) ≤ 0 ∧ 0 < (2 : Int)) ∧
 inI (v9 + 1) ∧
 rec2 (v8, (v9 + 1), v10, v11, v12, v13, v14, v39.1.Sizes, v39.1.Peers, v17, (v19 + ((((ix x0 v9).First).toNat : Int) % (((v21.length : Int) - v19) + 1))), v19, v20, v21, v22)) ∧
 (((((ix x0 v9).Start) % (2#8)).toNat : Int) = (1 : Int) →
 ((0 : Int) ≤ 1 ∧ 1 < (2 : Int)) ∧
 inI (v9 + 1) ∧
 rec2 (v8, (v9 + 1), v10, v11, v12, v13, v14, v39.1.Sizes, v39.1.Peers, v17, v18, (v19 + ((((ix x0 v9).First).toNat : Int) % (((v21.length : Int) - v19) + 1))), v20, v21, v22)) ∧
 True)
def q257 (x0 : List q15) (Φ : q17 × Bool → Prop) : (Int × Int × Int × List Int × List Int × List Int × List q8 × List Int × List q13 × List (List Sec) × Int × Int × List (List (List Sec)) × List q14 × List q8) → ((Int × Int × Int × List Int × List Int × List Int × List q8 × List Int × List q13 × List (List Sec) × Int × Int × List (List (List Sec)) × List q14 × List q8) → Prop) → Prop
 | (v8, v9, v10, v11, v12, v13, v14, v15, v16, v17, v18, v19, v20, v21, v22), rec2 =>
 (v9 < (x0.length : Int) →
 inX v9 x0.length ∧
 (7#8) ≠ 0#8 ∧
 ((((ix x0 v9).Kind) % (7#8)) < (5#8) →
 inX v9 x0.length ∧
 q194 (ix x0 v9) fun v23 =>
 Z28 (q11.mk v15 v16) v23 fun v24 =>
 q96 v17 ([v23] : List q8) fun v25 =>
 q230 (q12.mk v10 v11 v12 v13 v14) 0 v23 fun v26 =>
 Join (q254 v8 v9 v15 v16 v17 v18 v19 v20 v21 v22 rec2 v23 v24 v25 v26 Φ) fun J3 =>
 (v24.2 ≠ 0 →
 J3 true) ∧
 (¬ (v24.2 ≠ 0) →
 (v25.2.2 ≠ 0 →
 J3 true) ∧
 (¬ (v25.2.2 ≠ 0) →
 J3 (decide (v26.2 ≠ 0))))) ∧
 (¬ ((((ix x0 v9).Kind) % (7#8)) < (5#8)) →
 inX v9 x0.length ∧
 (7#8) ≠ 0#8 ∧
 ((((ix x0 v9).Kind) % (7#8)) = (5#8) →
 q57 (q12.mk v10 v11 v12 v13 v14) v9 ([v8] : List Int) fun v28 =>
 (v28.2.2 ≠ 0 →
 Φ ((q17.mk (q11.mk v15 v16) v17 v20 v21 v22 (q92.mk v18 v19)), false)) ∧
 (¬ (v28.2.2 ≠ 0) →
 lenOk (v21 ++ ([v28.2.1] : List q14)).length 72 ∧
 lenOk (v20 ++ ([v17] : List (List (List Sec)))).length 24 ∧
 inI (v9 + 1) ∧
 rec2 (v8, (v9 + 1), v28.1.Number, v28.1.Sizes, v28.1.Positions, v28.1.Nodes, v28.1.Writes, v15, v16, v17, v18, v19, (v20 ++ ([v17] : List (List (List Sec)))), (v21 ++ ([v28.2.1] : List q14)), ([] : List q8)))) ∧
 (¬ ((((ix x0 v9).Kind) % (7#8)) = (5#8)) →
 inX v9 x0.length ∧
 (2#8) ≠ 0#8 ∧
 (0 ≤ ((((ix x0 v9).Start) % (2#8)).toNat : Int) ∧ ((((ix x0 v9).Start) % (2#8)).toNat : Int) < (2 : Int)) ∧
 (((((ix x0 v9).Start) % (2#8)).toNat : Int) = (0 : Int) →
 ((0 : Int) ≤ 0 ∧ 0 < (2 : Int)) ∧
 inX v9 x0.length ∧
 (0 ≤ ((((ix x0 v9).Start) % (2#8)).toNat : Int) ∧ ((((ix x0 v9).Start) % (2#8)).toNat : Int) < (2 : Int)) ∧
 (((((ix x0 v9).Start) % (2#8)).toNat : Int) = (0 : Int) →
 ((0 : Int) ≤ 0 ∧ 0 < (2 : Int)) ∧
 inI ((v21.length : Int) - v18) ∧
 inI (((v21.length : Int) - v18) + 1) ∧
 (0 ≤ (((ix x0 v9).First).toNat : Int) ∧ (((v21.length : Int) - v18) + 1) ≠ (0 : Int)) ∧
 inI (v18 + ((((ix x0 v9).First).toNat : Int) % (((v21.length : Int) - v18) + 1))) ∧
 inS (v18 + ((((ix x0 v9).First).toNat : Int) % (((v21.length : Int) - v18) + 1))) (v21.length : Int) v21.length ∧
 lenOk (([] : List q14) ++ (sub v21 (v18 + ((((ix x0 v9).First).toNat : Int) % (((v21.length : Int) - v18) + 1))) (v21.length : Int))).length 72 ∧
 q57 (q12.mk v10 v11 v12 v13 v14) v9 ([v8] : List Int) fun v29 =>
 inI (((((ix x0 v9).Start) % (2#8)).toNat : Int) + 1) ∧
 lenOk ((([] : List q14) ++ (sub v21 (v18 + ((((ix x0 v9).First).toNat : Int) % (((v21.length : Int) - v18) + 1))) (v21.length : Int))) ++ ([v29.2.1] : List q14)).length 72 ∧
 ∃ v30 : q11 × Int × Unit, Z42 (q11.mk v15 v16) (((((ix x0 v9).Start) % (2#8)).toNat : Int) + 1) (v18 + ((((ix x0 v9).First).toNat : Int) % (((v21.length : Int) - v18) + 1))) ((([] : List q14) ++ (sub v21 (v18 + ((((ix x0 v9).First).toNat : Int) % (((v21.length : Int) - v18) + 1))) (v21.length : Int))) ++ ([v29.2.1] : List q14)) (fun z => (z.1, z.2, ()) = v30) ∧
 Join (q255 x0 v8 v9 v10 v11 v12 v13 v14 v15 v16 v17 v18 v19 v20 v21 v22 rec2 v30 Φ) fun J4 =>
 (v29.2.2 ≠ 0 →
 J4 true) ∧
 (¬ (v29.2.2 ≠ 0) →
 J4 (decide (v30.2.1 ≠ 0)))) ∧
 (((((ix x0 v9).Start) % (2#8)).toNat : Int) = (1 : Int) →
 ((0 : Int) ≤ 1 ∧ 1 < (2 : Int)) ∧
 inI ((v21.length : Int) - v19) ∧
 inI (((v21.length : Int) - v19) + 1) ∧
 (0 ≤ (((ix x0 v9).First).toNat : Int) ∧ (((v21.length : Int) - v19) + 1) ≠ (0 : Int)) ∧
 inI (v18 + ((((ix x0 v9).First).toNat : Int) % (((v21.length : Int) - v19) + 1))) ∧
 inS (v18 + ((((ix x0 v9).First).toNat : Int) % (((v21.length : Int) - v19) + 1))) (v21.length : Int) v21.length ∧
 lenOk (([] : List q14) ++ (sub v21 (v18 + ((((ix x0 v9).First).toNat : Int) % (((v21.length : Int) - v19) + 1))) (v21.length : Int))).length 72 ∧
 q57 (q12.mk v10 v11 v12 v13 v14) v9 ([v8] : List Int) fun v32 =>
 inI (((((ix x0 v9).Start) % (2#8)).toNat : Int) + 1) ∧
 lenOk ((([] : List q14) ++ (sub v21 (v18 + ((((ix x0 v9).First).toNat : Int) % (((v21.length : Int) - v19) + 1))) (v21.length : Int))) ++ ([v32.2.1] : List q14)).length 72 ∧
 ∃ v33 : q11 × Int × Unit, Z42 (q11.mk v15 v16) (((((ix x0 v9).Start) % (2#8)).toNat : Int) + 1) (v18 + ((((ix x0 v9).First).toNat : Int) % (((v21.length : Int) - v19) + 1))) ((([] : List q14) ++ (sub v21 (v18 + ((((ix x0 v9).First).toNat : Int) % (((v21.length : Int) - v19) + 1))) (v21.length : Int))) ++ ([v32.2.1] : List q14)) (fun z => (z.1, z.2, ()) = v33) ∧
 Join (q439 x0 v8 v9 v10 v11 v12 v13 v14 v15 v16 v17 v18 v19 v20 v21 v22 rec2 v33 Φ) fun J5 =>
 (v32.2.2 ≠ 0 →
 J5 true) ∧
 (¬ (v32.2.2 ≠ 0) →
 J5 (decide (v33.2.1 ≠ 0)))) ∧
 True) ∧
 (((((ix x0 v9).Start) % (2#8)).toNat : Int) = (1 : Int) →
 ((0 : Int) ≤ 1 ∧ 1 < (2 : Int)) ∧
 inX v9 x0.length ∧
 (0 ≤ ((((ix x0 v9).Start) % (2#8)).toNat : Int) ∧ ((((ix x0 v9).Start) % (2#8)).toNat : Int) < (2 : Int)) ∧
 (((((ix x0 v9).Start) % (2#8)).toNat : Int) = (0 : Int) →
 ((0 : Int) ≤ 0 ∧ 0 < (2 : Int)) ∧
 inI ((v21.length : Int) - v18) ∧
 inI (((v21.length : Int) - v18) + 1) ∧
 (0 ≤ (((ix x0 v9).First).toNat : Int) ∧ (((v21.length : Int) - v18) + 1) ≠ (0 : Int)) ∧
 inI (v19 + ((((ix x0 v9).First).toNat : Int) % (((v21.length : Int) - v18) + 1))) ∧
 inS (v19 + ((((ix x0 v9).First).toNat : Int) % (((v21.length : Int) - v18) + 1))) (v21.length : Int) v21.length ∧
 lenOk (([] : List q14) ++ (sub v21 (v19 + ((((ix x0 v9).First).toNat : Int) % (((v21.length : Int) - v18) + 1))) (v21.length : Int))).length 72 ∧
 q57 (q12.mk v10 v11 v12 v13 v14) v9 ([v8] : List Int) fun v35 =>
 inI (((((ix x0 v9).Start) % (2#8)).toNat : Int) + 1) ∧
 lenOk ((([] : List q14) ++ (sub v21 (v19 + ((((ix x0 v9).First).toNat : Int) % (((v21.length : Int) - v18) + 1))) (v21.length : Int))) ++ ([v35.2.1] : List q14)).length 72 ∧
 ∃ v36 : q11 × Int × Unit, Z42 (q11.mk v15 v16) (((((ix x0 v9).Start) % (2#8)).toNat : Int) + 1) (v19 + ((((ix x0 v9).First).toNat : Int) % (((v21.length : Int) - v18) + 1))) ((([] : List q14) ++ (sub v21 (v19 + ((((ix x0 v9).First).toNat : Int) % (((v21.length : Int) - v18) + 1))) (v21.length : Int))) ++ ([v35.2.1] : List q14)) (fun z => (z.1, z.2, ()) = v36) ∧
 Join (q440 x0 v8 v9 v10 v11 v12 v13 v14 v15 v16 v17 v18 v19 v20 v21 v22 rec2 v36 Φ) fun J6 =>
 (v35.2.2 ≠ 0 →
 J6 true) ∧
 (¬ (v35.2.2 ≠ 0) →
 J6 (decide (v36.2.1 ≠ 0)))) ∧
 (((((ix x0 v9).Start) % (2#8)).toNat : Int) = (1 : Int) →
 ((0 : Int) ≤ 1 ∧ 1 < (2 : Int)) ∧
 inI ((v21.length : Int) - v19) ∧
 inI (((v21.length : Int) - v19) + 1) ∧
 (0 ≤ (((ix x0 v9).First).toNat : Int) ∧ (((v21.length : Int) - v19) + 1) ≠ (0 : Int)) ∧
 inI (v19 + ((((ix x0 v9).First).toNat : Int) % (((v21.length : Int) - v19) + 1))) ∧
 inS (v19 + ((((ix x0 v9).First).toNat : Int) % (((v21.length : Int) - v19) + 1))) (v21.length : Int) v21.length ∧
 lenOk (([] : List q14) ++ (sub v21 (v19 + ((((ix x0 v9).First).toNat : Int) % (((v21.length : Int) - v19) + 1))) (v21.length : Int))).length 72 ∧
 q57 (q12.mk v10 v11 v12 v13 v14) v9 ([v8] : List Int) fun v38 =>
 inI (((((ix x0 v9).Start) % (2#8)).toNat : Int) + 1) ∧
 lenOk ((([] : List q14) ++ (sub v21 (v19 + ((((ix x0 v9).First).toNat : Int) % (((v21.length : Int) - v19) + 1))) (v21.length : Int))) ++ ([v38.2.1] : List q14)).length 72 ∧
 ∃ v39 : q11 × Int × Unit, Z42 (q11.mk v15 v16) (((((ix x0 v9).Start) % (2#8)).toNat : Int) + 1) (v19 + ((((ix x0 v9).First).toNat : Int) % (((v21.length : Int) - v19) + 1))) ((([] : List q14) ++ (sub v21 (v19 + ((((ix x0 v9).First).toNat : Int) % (((v21.length : Int) - v19) + 1))) (v21.length : Int))) ++ ([v38.2.1] : List q14)) (fun z => (z.1, z.2, ()) = v39) ∧
 Join (q256 x0 v8 v9 v10 v11 v12 v13 v14 v15 v16 v17 v18 v19 v20 v21 v22 rec2 v39 Φ) fun J7 =>
 (v38.2.2 ≠ 0 →
 J7 true) ∧
 (¬ (v38.2.2 ≠ 0) →
 J7 (decide (v39.2.1 ≠ 0)))) ∧
 True) ∧
 True))) ∧
 (¬ (v9 < (x0.length : Int)) →
 Φ ((q17.mk (q11.mk v15 v16) v17 v20 v21 v22 (q92.mk v18 v19)), true))
def q258 (x0 : List q15) (v2 : q11 × Int) (v4 : List (List Sec) × Int) (Φ : q17 × Bool → Prop) : Bool → Prop
 | v5 =>
 (v5 = true →
 Φ ((q17.mk v2.1 v4.1 ([v4.1] : List (List (List Sec))) ([] : List q14) ([] : List q8) (q92.mk 0 0)), false)) ∧
 (¬ (v5 = true) →
 q44 fun v6 =>
 q193 v6 1 0 fun v7 =>
 (v7.2 ≠ 0 →
 Φ ((q17.mk v2.1 v4.1 ([v4.1] : List (List (List Sec))) ([] : List q14) ([] : List q8) (q92.mk 0 0)), false)) ∧
 (¬ (v7.2 ≠ 0) →
 LoopW (q257 x0 Φ) (0, 0, v7.1.Number, v7.1.Sizes, v7.1.Positions, v7.1.Nodes, v7.1.Writes, v2.1.Sizes, v2.1.Peers, v4.1, 0, 0, ([v4.1] : List (List (List Sec))), ([] : List q14), ([] : List q8))))
def q136 (x0 : List q15) (Φ : q17 × Bool → Prop) : Prop :=
 q44 fun v1 =>
 q93 v1 ([1, 2] : List Int) 0 fun v2 =>
 q44 fun v3 =>
 q41 v3 fun v4 =>
 Join (q258 x0 v2 v4 Φ) fun J1 =>
 (v2.2 ≠ 0 →
 J1 true) ∧
 (¬ (v2.2 ≠ 0) →
 J1 (decide (v4.2 ≠ 0)))
def q195 (x0 : q10) (x1 : Int) (Φ : Bool → Prop) : Prop :=
 Z12 x0 fun v1 =>
 (v1 = 0 →
 (0 ≤ x1 →
 (x1 < x0.Size →
 (0 ≤ x1 ∧ inI x1 ∧ (0 : Int) < 64) ∧
 inX (x1 / 64) x0.Words.length ∧
 (0 ≤ x1 ∧ 64 ≠ (0 : Int)) ∧
 0 ≤ (x1 % 64) ∧
 Φ (decide ((((ix x0.Words (x1 / 64)) >>> ((x1 % 64) : Int).toNat) &&& (1#64)) = (1#64)))) ∧
 (¬ (x1 < x0.Size) →
 Φ false)) ∧
 (¬ (0 ≤ x1) →
 Φ false)) ∧
 (¬ (v1 = 0) →
 Φ false)
def Z109 (v2 : q17 × Bool) (v4 : List q10 × Int × Int) (v6 : List q8) (v7 : Int) (v8 : Int) (rec4 : (Int) → Prop) (Φ : Bool → Prop) : (Bool × Int) → ((Bool × Int) → Prop) → Prop
 | (v10, v11), rec5 =>
 (v11 < ((v6 ++ v2.1.open_).length : Int) →
 (v10 = true →
 inI (v11 + 1) ∧
 rec5 (true, (v11 + 1))) ∧
 (¬ (v10 = true) →
 inX v11 (v6 ++ v2.1.open_).length ∧
 (((ix (v6 ++ v2.1.open_) v11).Volume) = v7 →
 inX v11 (v6 ++ v2.1.open_).length ∧
 (((ix (v6 ++ v2.1.open_) v11).Start) ≤ v8 →
 inX v11 (v6 ++ v2.1.open_).length ∧
 inX v11 (v6 ++ v2.1.open_).length ∧
 inI (((ix (v6 ++ v2.1.open_) v11).Start) + (((ix (v6 ++ v2.1.open_) v11).Data).length : Int)) ∧
 inI (v11 + 1) ∧
 rec5 (decide (v8 < (((ix (v6 ++ v2.1.open_) v11).Start) + (((ix (v6 ++ v2.1.open_) v11).Data).length : Int))), (v11 + 1))) ∧
 (¬ (((ix (v6 ++ v2.1.open_) v11).Start) ≤ v8) →
 inI (v11 + 1) ∧
 rec5 (false, (v11 + 1)))) ∧
 (¬ (((ix (v6 ++ v2.1.open_) v11).Volume) = v7) →
 inI (v11 + 1) ∧
 rec5 (false, (v11 + 1))))) ∧
 (¬ (v11 < ((v6 ++ v2.1.open_).length : Int)) →
 inX v7 v4.1.length ∧
 q195 (ix v4.1 v7) v8 fun v12 =>
 (v12 ≠ v10 →
 Φ false) ∧
 (¬ (v12 ≠ v10) →
 inI (v8 + 1) ∧
 rec4 (v8 + 1)))
def Z110 (v2 : q17 × Bool) (v4 : List q10 × Int × Int) (v6 : List q8) (v7 : Int) (rec3 : (Int) → Prop) (Φ : Bool → Prop) : (Int) → ((Int) → Prop) → Prop
 | v8, rec4 =>
 q44 fun v9 =>
 inX v7 v9.length ∧
 (v8 < (ix v9 v7) →
 LoopW (Z109 v2 v4 v6 v7 v8 rec4 Φ) (false, 0)) ∧
 (¬ (v8 < (ix v9 v7)) →
 inI (v7 + 1) ∧
 rec3 (v7 + 1))
def Z111 (v2 : q17 × Bool) (v3 : Int) (rec1 : (Int) → Prop) (v4 : List q10 × Int × Int) (v6 : List q8) (Φ : Bool → Prop) : (Int) → ((Int) → Prop) → Prop
 | v7, rec3 =>
 (v7 < 2 →
 LoopW (Z110 v2 v4 v6 v7 rec3 Φ) 0) ∧
 (¬ (v7 < 2) →
 inI (v3 + 1) ∧
 rec1 (v3 + 1))
def Z112 (v2 : q17 × Bool) (v3 : Int) (rec1 : (Int) → Prop) (v4 : List q10 × Int × Int) (Φ : Bool → Prop) : (Int × List q8) → ((Int × List q8) → Prop) → Prop
 | (v5, v6), rec2 =>
 (v5 < (v2.1.cycles.length : Int) →
 inX v5 v2.1.cycles.length ∧
 lenOk (v6 ++ ((ix v2.1.cycles v5).Writes)).length 40 ∧
 inI (v5 + 1) ∧
 rec2 ((v5 + 1), (v6 ++ ((ix v2.1.cycles v5).Writes)))) ∧
 (¬ (v5 < (v2.1.cycles.length : Int)) →
 lenOk (v6 ++ v2.1.open_).length 40 ∧
 LoopW (Z111 v2 v3 rec1 v4 v6 Φ) 0)
def Z113 (v2 : q17 × Bool) (Φ : Bool → Prop) : (Int) → ((Int) → Prop) → Prop
 | v3, rec1 =>
 (v3 < 2 →
 inI (v3 + 1) ∧
 Z30 v2.1.t (v3 + 1) fun v4 =>
 (v4.2.2 ≠ 0 →
 Φ false) ∧
 (¬ (v4.2.2 ≠ 0) →
 ((v4.1.length : Int) ≠ 2 →
 Φ false) ∧
 (¬ ((v4.1.length : Int) ≠ 2) →
 LoopW (Z112 v2 v3 rec1 v4 Φ) (v4.2.1, ([] : List q8))))) ∧
 (¬ (v3 < 2) →
 q119 fun v13 =>
 Φ v13)
def Z114 (x0 : List q15) (Φ : Bool → Prop) : Prop :=
 (25 < (x0.length : Int) →
 q119 fun v1 =>
 Φ v1) ∧
 (¬ (25 < (x0.length : Int)) →
 q136 x0 fun v2 =>
 (¬ (v2.2 = true) →
 Φ false) ∧
 (¬ (¬ (v2.2 = true)) →
 LoopW (Z113 v2 Φ) 0))
def ghT : Hp → Prop := fun _ => True
def gh : Hp → Prop := fun H => TabH H 0
theorem ghUp : GUp gh := fun _ _ h hle => h.mono hle
def ct146 : Ct DD := ⟨146, [3], [4], [[false]], true, fun x Φ => Z0 x.1 fun y => Φ (y, ())⟩
def pl146 : List PE := []
def ct85 : Ct DD := ⟨85, [22], [28], [[false]], true, fun x Φ => Z2 x.1 fun y => Φ (y, ())⟩
def pl85 : List PE := [⟨[4, 1, 0, 1, 12, 0, 1, 11, 0, 0, 1, 1], [], [], ⟨[.int], [(0, .kp 0), (1, .kp 1), (7, .kp 4), (8, .v .int)], [], [], []⟩, false⟩]
def ct87 : Ct DD := ⟨87, [3], [37], [[true]], false, fun x Φ => q253 x.1 fun y => Φ (y, ())⟩
def pl87 : List PE := []
def ct37 : Ct DD := ⟨37, [22], [73, 28], [[true], [false]], false, fun x Φ => q41 x.1 fun y => Φ (y.1, y.2, ())⟩
def pl37 : List PE := [⟨[4, 1, 0, 1, 1, 11, 0, 1, 1], [], [], ⟨[.int, .lst 37], [(1, .kp 2), (5, .own 0), (11, .kp 8), (12, .kp 9), (13, .v .int)], [], [37], []⟩, false⟩]
def ct40 : Ct DD := ⟨40, [3, 3, 3], [4], [[false]], true, fun x Φ => Z3 x.1 x.2.1 x.2.2.1 fun y => Φ (y, ())⟩
def pl40 : List PE := []
def ct38 : Ct DD := ⟨38, [3], [4], [[false]], true, fun x Φ => Z4 x.1 fun y => Φ (y, ())⟩
def pl38 : List PE := []
def ct144 : Ct DD := ⟨144, [3], [3], [[false]], true, fun x Φ => Z5 x.1 fun y => Φ (y, ())⟩
def pl144 : List PE := []
def ct88 : Ct DD := ⟨88, [3], [86, 28], [[false, true], [false]], false, fun x Φ => q192 x.1 fun y => Φ (y.1, y.2, ())⟩
def pl88 : List PE := [⟨[0, 1], [], [0], ⟨[.bool], [(0, .kp 1), (2, .kp 2), (9, .v .bool)], [], [], []⟩, true⟩]
def ct39 : Ct DD := ⟨39, [22], [52, 28], [[true], [false]], false, fun x Φ => Z7 x.1 fun y => Φ (y.1, y.2, ())⟩
def pl39 : List PE := [⟨[4, 1, 0, 1, 1], [], [], ⟨[.int, .lst 86], [(4, .own 0), (9, .kp 4), (10, .kp 5), (11, .v .int)], [], [86], []⟩, false⟩]
def ct41 : Ct DD := ⟨41, [22], [22], [[true]], false, fun x Φ => Z8 x.1 fun y => Φ (y, ())⟩
def pl41 : List PE := []
def sk89 : Sk DD := ⟨89, 149, 3, 89, true, inI, sortZ⟩
def ct13 : Ct DD := ⟨13, [22, 22, 3], [25, 28], [[true, true], [false]], false, fun x Φ => q93 x.1 x.2.1 x.2.2.1 fun y => Φ (y.1, y.2, ())⟩
def pl13 : List PE := [⟨[4, 1, 0, 1, 1, 1], [], [1], ⟨[.int], [(0, .kp 2), (1, .kp 3), (2, .kp 4), (6, .kp 5), (32, .kp 19), (33, .kp 20), (34, .v .int)], [(0, 25, [.kp 22,.kp 23])], [], []⟩, false⟩, ⟨[4, 1, 0, 1, 1, 1, 1, 1], [], [1], ⟨[.int, .mp 3 89], [(0, .kp 2), (2, .kp 4), (6, .kp 5), (12, .kp 28), (44, .kp 3), (45, .kp 29), (46, .v .int)], [(0, 25, [.kp 22,.kp 23])], [], [(24, .map 3 89 false true)]⟩, false⟩, ⟨[4, 1, 0, 1, 1, 13, 0, 1, 1, 1, 1, 1, 1, 1], [], [33, 32, 31, 0, 24, 1], ⟨[.int, .lst 89], [(0, .kp 28), (3, .own 0), (8, .kp 37), (9, .kp 38), (10, .v .int)], [], [89], []⟩, false⟩]
def ct83 : Ct DD := ⟨83, [86], [28], [[false]], true, fun x Φ => Z12 x.1 fun y => Φ (y, ())⟩
def pl83 : List PE := []
def ct93 : Ct DD := ⟨93, [86, 3], [4, 28], [[false], [false]], true, fun x Φ => Z13 x.1 x.2.1 fun y => Φ (y.1, y.2, ())⟩
def pl93 : List PE := []
def ct47 : Ct DD := ⟨47, [52, 22], [28], [[false]], true, fun x Φ => Z15 x.1 x.2.1 fun y => Φ (y, ())⟩
def pl47 : List PE := [⟨[4, 1, 0, 1, 1, 12, 0, 1, 1], [], [], ⟨[.int, .lst 4], [(0, .kp 0), (1, .kp 1), (2, .kp 2), (8, .own 0), (13, .kp 7), (14, .v .int)], [], [4], []⟩, false⟩]
def ct16 : Ct DD := ⟨16, [25], [28], [[false]], true, fun x Φ => Z17 x.1 fun y => Φ (y, ())⟩
def pl16 : List PE := [⟨[4, 1, 0, 1, 1, 1, 1], [], [1, 0], ⟨[.int, .int], [(1, .kp 3), (5, .v .int), (23, .kp 21), (24, .kp 22), (25, .v .int)], [], [], []⟩, false⟩]
def ct179 : Ct DD := ⟨179, [37], [3], [[false]], true, fun x Φ => Z18 x.1 fun y => Φ (y, ())⟩
def pl179 : List PE := []
def ct150 : Ct DD := ⟨150, [73], [22], [[true]], false, fun x Φ => q164 x.1 fun y => Φ (y, ())⟩
def pl150 : List PE := [⟨[4, 1, 0, 1, 1, 11, 0, 1], [], [], ⟨[.int, .lst 3], [(1, .kp 2), (5, .own 0), (11, .kp 8), (12, .kp 9), (13, .v .int)], [], [3], []⟩, false⟩]
def ct95 : Ct DD := ⟨95, [73], [28], [[false]], true, fun x Φ => q94 x.1 fun y => Φ (y, ())⟩
def pl95 : List PE := []
def ct96 : Ct DD := ⟨96, [73, 39], [28], [[false]], true, fun x Φ => q111 x.1 x.2.1 fun y => Φ (y, ())⟩
def pl96 : List PE := [⟨[4, 0, 1], [], [0], ⟨[.bool], [(0, .kp 1), (3, .kp 3), (5, .v .bool)], [], [], []⟩, true⟩]
def ct49 : Ct DD := ⟨49, [73, 39], [28], [[false]], true, fun x Φ => q64 x.1 x.2.1 fun y => Φ (y, ())⟩
def pl49 : List PE := []
def ct180 : Ct DD := ⟨180, [84], [84], [[true]], false, fun x Φ => Z20 x.1 fun y => Φ (y, ())⟩
def pl180 : List PE := []
def ct151 : Ct DD := ⟨151, [86], [86], [[false, true]], false, fun x Φ => q166 x.1 fun y => Φ (y, ())⟩
def pl151 : List PE := []
def ct97 : Ct DD := ⟨97, [52], [52], [[true]], false, fun x Φ => Z22 x.1 fun y => Φ (y, ())⟩
def pl97 : List PE := [⟨[4, 1, 0, 1, 1], [], [], ⟨[.int, .lst 86], [(3, .own 0), (6, .kp 3), (7, .kp 4), (8, .v .int)], [], [86], []⟩, false⟩]
def ct181 : Ct DD := ⟨181, [92, 3], [4], [[false]], true, fun x Φ => q167 x.1 x.2.1 fun y => Φ (y, ())⟩
def pl181 : List PE := []
def ct165 : Ct DD := ⟨165, [3, 3, 3], [155], [[false]], true, fun x Φ => q118 x.1 x.2.1 x.2.2.1 fun y => Φ (y, ())⟩
def pl165 : List PE := []
def ct152 : Ct DD := ⟨152, [155, 155], [155], [[false]], true, fun x Φ => Z23 x.1 x.2.1 fun y => Φ (y, ())⟩
def pl152 : List PE := []
def ct98 : Ct DD := ⟨98, [86, 92], [86, 28], [[false, true], [false]], false, fun x Φ => q112 x.1 x.2.1 fun y => Φ (y.1, y.2, ())⟩
def pl98 : List PE := [⟨[4, 1, 0, 1, 1, 1, 1, 13, 0, 1], [], [6, 5, 4, 3, 2, 1, 0], ⟨[.int, .lst 155], [(3, .kp 11), (4, .kp 12), (5, .kp 13), (6, .kp 14), (9, .own 0), (27, .kp 31), (28, .v .int)], [], [155], []⟩, false⟩]
def ct18 : Ct DD := ⟨18, [25, 39], [25, 28], [[true, true], [false]], false, fun x Φ => Z28 x.1 x.2.1 fun y => Φ (y.1, y.2, ())⟩
def pl18 : List PE := [⟨[4, 1, 0, 1, 1, 11, 0, 1, 1, 1, 1, 1], [], [4, 3, 2, 1, 0], ⟨[.int, .dm 3 89 86], [(3, .kp 10), (8, .kp 12), (9, .kp 13), (10, .v .int)], [], [], [(5, .dmp 3 89 false true 2 86)]⟩, false⟩, ⟨[4, 1, 0, 1, 1, 1, 1, 1, 1], [], [4, 3, 1, 0], ⟨[.itr, .dm 3 89 86], [(2, .kp 27), (3, .kp 28), (4, .kp 29), (10, .kp 10), (39, .kp 53)], [(2, 25, [.kp 17,.kp 18])], [], [(24, .itr 5), (5, .dmp 3 89 false true 2 86)]⟩, false⟩, ⟨[4, 1, 0, 1, 1, 14, 0, 1, 12, 0, 1, 1, 1, 1, 1, 1, 1], [], [58, 57, 5, 56, 55, 54, 2, 24, 4, 3, 1, 0], ⟨[.int, .lst 89], [(0, .kp 10), (3, .own 0), (8, .kp 62), (9, .kp 63), (10, .v .int)], [], [89], []⟩, false⟩, ⟨[4, 1, 0, 1, 14, 0, 0, 1, 4, 1, 1, 5, 4, 1, 0, 1, 1, 1, 1, 1, 1], [], [56, 55, 24, 5, 2], ⟨[.int, .lst 86], [(0, .kp 57), (10, .kp 61), (11, .kp 62), (12, .v .int)], [], [], [(54, .row 86)]⟩, false⟩]
def ct23 : Ct DD := ⟨23, [25, 3], [52, 3, 28], [[false], [false], [false]], false, fun x Φ => Z30 x.1 x.2.1 fun y => Φ (y.1, y.2.1, y.2.2, ())⟩
def pl23 : List PE := [⟨[4, 1, 0, 1, 1, 11, 0, 1, 1], [], [1, 0], ⟨[.int, .mp 3 89], [(3, .kp 7), (8, .kp 9), (9, .kp 10), (10, .v .int)], [], [], [(2, .map 3 89 false true)]⟩, false⟩]
def ct101 : Ct DD := ⟨101, [3, 3, 3], [4], [[false]], true, fun x Φ => q37 x.1 x.2.1 x.2.2.1 fun y => Φ (y, ())⟩
def pl101 : List PE := []
def ct155 : Ct DD := ⟨155, [3], [4], [[false]], true, fun x Φ => Z31 x.1 fun y => Φ (y, ())⟩
def pl155 : List PE := []
def ct102 : Ct DD := ⟨102, [22, 3], [28], [[false]], true, fun x Φ => Z33 x.1 x.2.1 fun y => Φ (y, ())⟩
def pl102 : List PE := [⟨[4, 1, 0, 1, 12, 0, 1, 11, 0, 0, 1, 1], [], [], ⟨[.int], [(0, .kp 0), (1, .kp 1), (7, .kp 4), (8, .v .int)], [], [], []⟩, false⟩]
def ct103 : Ct DD := ⟨103, [47, 22], [28], [[false]], true, fun x Φ => Z35 x.1 x.2.1 fun y => Φ (y, ())⟩
def pl103 : List PE := [⟨[4, 1, 0, 1, 12, 0, 1, 1, 1], [0], [1, 0], ⟨[.int], [(0, .kp 2), (1, .kp 3), (9, .kp 5), (10, .kp 6), (11, .v .int)], [], [], []⟩, false⟩]
def ct57 : Ct DD := ⟨57, [49, 22], [28], [[false]], true, fun x Φ => q168 x.1 x.2.1 fun y => Φ (y, ())⟩
def pl57 : List PE := [⟨[4, 0, 1, 1], [], [1, 0], ⟨[.bool], [(1, .kp 3), (2, .kp 4), (16, .v .bool)], [], [], []⟩, true⟩]
def ct21 : Ct DD := ⟨21, [25, 3, 3, 43], [25, 28], [[true, true], [false]], false, fun x Φ => Z42 x.1 x.2.1 x.2.2.1 x.2.2.2.1 fun y => Φ (y.1, y.2, ())⟩
def pl21 : List PE := [⟨[4, 1, 0, 1, 1, 11, 0, 1, 1], [], [2, 1, 0], ⟨[.int, .mp 3 89], [(3, .kp 8), (8, .kp 10), (9, .kp 11), (10, .v .int)], [], [], [(3, .map 3 89 false true)]⟩, false⟩, ⟨[4, 1, 0, 1, 1, 1, 1, 1, 1, 1, 1], [], [19, 3, 2, 0], ⟨[.int, .int, .lst 86], [(1, .kp 22), (2, .kp 23), (4, .kp 25), (8, .kp 26), (11, .kp 8), (14, .own 0), (16, .v .int), (60, .kp 64), (61, .kp 65), (62, .v .int)], [(1, 25, [.kp 15,.kp 16])], [86], []⟩, false⟩, ⟨[0, 1, 1, 1, 4, 0, 1, 1, 5, 4, 1, 0, 1, 1, 1, 1, 1, 1, 1, 1], [], [71, 1], ⟨[.int, .lst 86], [(1, .kp 22), (2, .kp 23), (4, .kp 25), (8, .kp 26), (11, .kp 8), (14, .own 0), (15, .v .int), (18, .kp 78), (60, .kp 64), (61, .kp 65), (62, .kp 74)], [], [86], []⟩, true⟩, ⟨[4, 1, 0, 1, 13, 0, 0, 1, 1, 1, 4, 0, 1, 1, 5, 4, 1, 0, 1, 1, 1, 1, 1, 1, 1, 1], [], [], ⟨[.int, .lst 86], [(0, .kp 72), (10, .kp 93), (11, .kp 96), (12, .v .int)], [], [], [(70, .row 86)]⟩, false⟩, ⟨[4, 1, 0, 1, 1, 14, 0, 1, 12, 0, 1, 1, 1, 1, 1, 1, 1, 1, 1, 1], [], [75, 74, 73, 72, 71, 1, 70, 19, 3, 2, 0], ⟨[.int, .lst 89], [(0, .kp 8), (3, .own 0), (8, .kp 79), (9, .kp 80), (10, .v .int)], [], [89], []⟩, false⟩]
def ct166 : Ct DD := ⟨166, [155], [3], [[false]], true, fun x Φ => Z43 x.1 fun y => Φ (y, ())⟩
def it164 : It DD := ⟨164, [86, 3], [3], fun x l => q84 x.1 x.2.1 l⟩
def pl164 : List PE := [⟨[4, 1, 1], [], [], ⟨[.int], [(0, .kp 0), (1, .kp 3), (2, .kp 4), (10, .kp 9), (11, .kp 10), (12, .v .int)], [], [], []⟩, false⟩, ⟨[4, 1, 1, 4, 0, 1, 1, 5, 4, 1, 1], [], [], ⟨[.word], [(0, .kp 0), (1, .kp 3), (2, .kp 4), (4, .kp 17), (5, .v .word), (10, .kp 9), (11, .kp 10), (12, .kp 12)], [], [], []⟩, false⟩]
def ct73 : Ct DD := ⟨73, [86], [93], [[true]], false, fun x Φ => Z47 x.1 fun y => Φ (y, ())⟩
def pl73 : List PE := [⟨[4, 1, 0, 1, 1], [2, 3], [3, 2, 0], ⟨[.lst 92], [], [(1, 93, [.own 0])], [92], []⟩, false⟩]
def ct84 : Ct DD := ⟨84, [93, 93], [4], [[false]], true, fun x Φ => Z49 x.1 x.2.1 fun y => Φ (y, ())⟩
def pl84 : List PE := [⟨[4, 1, 0, 1, 1], [], [], ⟨[.int], [(0, .kp 0), (1, .kp 1), (5, .v .int)], [], [], []⟩, false⟩]
def ct36 : Ct DD := ⟨36, [52, 156], [4], [[false]], true, fun x Φ => Z51 x.1 x.2.1 fun y => Φ (y, ())⟩
def pl36 : List PE := [⟨[4, 1, 0, 1, 1], [], [], ⟨[.int], [(0, .kp 0), (1, .kp 1), (5, .v .int)], [], [], []⟩, false⟩]
def ct124 : Ct DD := ⟨124, [64], [64], [[true]], false, fun x Φ => Z52 x.1 fun y => Φ (y, ())⟩
def pl124 : List PE := []
def ct71 : Ct DD := ⟨71, [64, 22], [64], [[true]], false, fun x Φ => Z58 x.1 x.2.1 fun y => Φ (y, ())⟩
def pl71 : List PE := [⟨[4, 0, 1, 1, 13, 0, 1, 13, 0, 1], [], [], ⟨[.int, .lst 5], [(0, .own 0), (1, .v .int)], [], [5], []⟩, false⟩, ⟨[4, 1, 0, 1, 1, 13, 0, 1], [], [6], ⟨[.int, .lst 5], [(0, .own 0), (2, .kp 10), (13, .kp 16), (14, .kp 17), (15, .v .int)], [], [5], []⟩, false⟩, ⟨[4, 0, 1, 1, 13, 1, 4, 0, 1, 1, 5, 4, 1, 0, 1, 1, 13, 0, 1], [], [], ⟨[.int, .lst 5], [(0, .own 0), (1, .v .int)], [], [5], []⟩, false⟩, ⟨[1, 13, 1, 4, 0, 1, 1, 5, 4, 1, 0, 1, 1, 13, 0, 1], [], [19], ⟨[.int], [(0, .kp 20), (1, .v .int)], [], [], []⟩, true⟩, ⟨[1, 13, 0, 1, 13, 0, 1], [], [0], ⟨[.int], [(0, .kp 1), (1, .v .int)], [], [], []⟩, true⟩]
def ct70 : Ct DD := ⟨70, [64, 3], [64], [[true]], false, fun x Φ => q95 x.1 x.2.1 fun y => Φ (y, ())⟩
def pl70 : List PE := [⟨[4, 0, 1, 1, 13, 0, 1], [], [], ⟨[.int, .lst 5], [(0, .own 0), (1, .v .int)], [], [5], []⟩, false⟩, ⟨[1, 13, 0, 1], [], [0], ⟨[.int], [(0, .kp 1), (1, .v .int)], [], [], []⟩, true⟩]
def ct72 : Ct DD := ⟨72, [64, 93], [64], [[true]], false, fun x Φ => Z68 x.1 x.2.1 fun y => Φ (y, ())⟩
def pl72 : List PE := [⟨[4, 0, 1, 1, 13, 0, 1, 13, 0, 1], [], [], ⟨[.int, .lst 5], [(0, .own 0), (1, .v .int)], [], [5], []⟩, false⟩, ⟨[4, 1, 0, 1, 1, 13, 0, 1], [], [6], ⟨[.int, .lst 5], [(0, .own 0), (2, .kp 10), (13, .kp 16), (14, .kp 17), (15, .v .int)], [], [5], []⟩, false⟩, ⟨[0, 1, 13, 1, 4, 0, 1, 1, 5, 4, 1, 0, 1, 1, 13, 0, 1], [21], [21], ⟨[], [(0, .kp 0), (1, .kp 0), (2, .kp 0), (4, .kp 0), (5, .kp 0)], [], [0, 0, 0, 1, 2, 4, 5, 3, 6, 7], []⟩, false⟩, ⟨[4, 0, 1, 1, 13, 0, 1, 13, 1, 4, 0, 1, 1, 5, 4, 1, 0, 1, 1, 13, 0, 1], [], [20], ⟨[.int, .lst 5], [(0, .own 0), (1, .v .int)], [], [5], []⟩, false⟩, ⟨[4, 0, 1, 1, 16, 0, 1, 13, 1, 4, 0, 1, 1, 5, 4, 1, 0, 1, 1, 13, 0, 1], [], [32, 20], ⟨[.int, .lst 5], [(0, .own 0), (1, .v .int)], [], [5], []⟩, false⟩, ⟨[1, 16, 0, 1, 13, 1, 4, 0, 1, 1, 5, 4, 1, 0, 1, 1, 13, 0, 1], [], [32, 33, 20], ⟨[.int], [(0, .kp 34), (1, .v .int)], [], [], []⟩, true⟩, ⟨[1, 13, 0, 1, 13, 1, 4, 0, 1, 1, 5, 4, 1, 0, 1, 1, 13, 0, 1], [], [20, 19], ⟨[.int], [(0, .kp 22), (1, .v .int)], [], [], []⟩, true⟩, ⟨[1, 13, 0, 1, 13, 0, 1], [], [0], ⟨[.int], [(0, .kp 1), (1, .v .int)], [], [], []⟩, true⟩]
def ct31 : Ct DD := ⟨31, [25], [64], [[true]], false, fun x Φ => Z71 x.1 fun y => Φ (y, ())⟩
def pl31 : List PE := [⟨[4, 1, 0, 1, 1, 1], [], [1, 0], ⟨[.int, .lst 5], [(3, .own 0), (19, .kp 18), (20, .kp 19), (21, .v .int)], [], [5], []⟩, false⟩, ⟨[4, 1, 1, 1, 4, 0, 1, 1, 5, 4, 1, 0, 1, 1, 1], [], [25, 23, 24], ⟨[.int, .lst 5], [(3, .own 0), (19, .kp 18), (20, .kp 19), (21, .kp 28), (33, .kp 41), (34, .kp 42), (35, .v .int)], [], [5], []⟩, false⟩]
def ct12 : Ct DD := ⟨12, [], [4], [[false]], true, fun _ Φ => q119 fun y => Φ (y, ())⟩
def pl12 : List PE := [⟨[1, 1, 1, 1, 1, 1, 1, 1, 1], [], [15, 16, 14, 13, 12, 10, 11, 9, 7, 8, 6, 5, 3, 4, 2, 1, 0], ⟨[], [(1, .kp 19)], [], [], []⟩, true⟩]
def ct34 : Ct DD := ⟨34, [], [22], [[true]], false, fun _ Φ => q44 fun y => Φ (y, ())⟩
def pl34 : List PE := []
def ct78 : Ct DD := ⟨78, [22, 3, 3], [143, 28], [[false, true, true, false, false], [false]], false, fun x Φ => q193 x.1 x.2.1 x.2.2.1 fun y => Φ (y.1, y.2, ())⟩
def pl78 : List PE := []
def ct79 : Ct DD := ⟨79, [147], [39], [[false, false, true]], false, fun x Φ => q194 x.1 fun y => Φ (y, ())⟩
def pl79 : List PE := [⟨[4, 1, 0, 1, 1, 1, 1], [], [2, 1, 0], ⟨[.int, .lst 82], [(1, .kp 5), (2, .kp 6), (3, .kp 13), (4, .kp 19), (5, .kp 26), (6, .v .int)], [(3, 39, [.kp 28,.kp 29,.own 0])], [82], []⟩, false⟩]
def ct168 : Ct DD := ⟨168, [37], [37], [[true]], false, fun x Φ => Z73 x.1 fun y => Φ (y, ())⟩
def pl168 : List PE := []
def ct80 : Ct DD := ⟨80, [73, 47], [73, 3, 28], [[true], [false], [false]], false, fun x Φ => q96 x.1 x.2.1 fun y => Φ (y.1, y.2.1, y.2.2, ())⟩
def ct137 : Ct DD := ⟨137, [39], [39], [[false, false, true]], false, fun x Φ => Z78 x.1 fun y => Φ (y, ())⟩
def pl137 : List PE := []
def ct136 : Ct DD := ⟨136, [143], [143], [[false, true, true, true, true]], false, fun x Φ => Z80 x.1 fun y => Φ (y, ())⟩
def pl136 : List PE := [⟨[4, 1, 0, 1, 1, 1], [], [4, 3, 2, 0, 1], ⟨[.int, .lst 39], [(1, .kp 6), (2, .kp 7), (3, .own 0), (19, .kp 22), (20, .kp 23), (21, .v .int)], [], [39], []⟩, false⟩]
def ct81 : Ct DD := ⟨81, [143, 3, 39], [143, 28], [[false, true, true, true, true], [false]], false, fun x Φ => q230 x.1 x.2.1 x.2.2.1 fun y => Φ (y.1, y.2, ())⟩
def pl81 : List PE := [⟨[0, 1, 1], [0, 1], [0, 1], ⟨[], [(0, .kp 0), (1, .kp 0), (3, .kp 0), (4, .kp 0)], [], [0, 0, 0, 1, 3, 4, 2, 5], []⟩, false⟩, ⟨[4, 1, 0, 1, 1, 1, 1, 1, 1, 12, 0, 1, 1], [19], [19, 18, 3, 2], ⟨[.int], [(1, .kp 21), (3, .kp 29), (38, .kp 56), (39, .kp 57), (40, .v .int)], [], [], []⟩, false⟩, ⟨[1, 4, 0, 1, 1, 5, 4, 1, 0, 1, 1, 1, 1, 1, 1, 12, 0, 1, 1], [], [], ⟨[], [], [], [8], []⟩, false⟩]
def ct169 : Ct DD := ⟨169, [3], [4], [[false]], true, fun x Φ => Z81 x.1 fun y => Φ (y, ())⟩
def pl169 : List PE := []
def it170 : It DD := ⟨170, [215, 4], [3, 39], fun x l => q20 x.1 x.2.1 l⟩
def pl170 : List PE := [⟨[4, 1], [], [], ⟨[.int], [(0, .kp 0), (1, .kp 3), (2, .kp 4), (8, .kp 7), (9, .kp 8), (10, .v .int)], [], [], []⟩, false⟩, ⟨[0, 1, 4, 0, 1, 1, 5, 4, 1], [], [], ⟨[], [(2, .kp 0), (5, .kp 0), (7, .kp 0), (8, .kp 0), (9, .kp 0)], [], [0, 0, 2, 5, 0, 1, 3, 4, 6, 7, 8, 9, 10, 11, 12, 13], []⟩, false⟩]
def ct171 : Ct DD := ⟨171, [39], [28], [[false]], true, fun x Φ => Z84 x.1 fun y => Φ (y, ())⟩
def pl171 : List PE := [⟨[4, 0, 1], [], [0], ⟨[.bool], [(1, .kp 2), (3, .v .bool)], [], [], []⟩, true⟩]
def ct184 : Ct DD := ⟨184, [269], [269], [[false, false]], true, fun x Φ => Z85 x.1 fun y => Φ (y, ())⟩
def pl184 : List PE := []
def ct206 : Ct DD := ⟨206, [3], [4], [[false]], true, fun x Φ => Z86 x.1 fun y => Φ (y, ())⟩
def pl206 : List PE := []
def ct200 : Ct DD := ⟨200, [3, 3], [3], [[false]], true, fun x Φ => Z87 x.1 x.2.1 fun y => Φ (y, ())⟩
def pl200 : List PE := []
def ct199 : Ct DD := ⟨199, [22], [3], [[false]], true, fun x Φ => q295 x.1 fun y => Φ (y, ())⟩
def pl199 : List PE := [⟨[4, 1, 0, 1, 1], [], [], ⟨[.int], [(3, .kp 2), (6, .kp 3), (7, .kp 4), (8, .v .int)], [], [], []⟩, false⟩]
def ct186 : Ct DD := ⟨186, [269, 269], [3], [[false]], true, fun x Φ => Z88 x.1 x.2.1 fun y => Φ (y, ())⟩
def pl186 : List PE := []
def tn185 : Tn DD := ⟨185, 269, [186], fun xs Φ => Z89 xs Φ⟩
def ct141 : Ct DD := ⟨141, [47], [47, 28], [[true], [false]], false, fun x Φ => Z96 x.1 fun y => Φ (y.1, y.2, ())⟩
def pl141 : List PE := [⟨[4, 1, 0, 1], [], [], ⟨[.int], [(0, .kp 0), (7, .kp 3), (8, .kp 4), (9, .v .int)], [], [], []⟩, false⟩, ⟨[4, 1, 0, 1, 1, 11, 0, 1, 1], [], [], ⟨[.int, .mp 269 82], [(3, .kp 9), (10, .kp 0), (11, .kp 10), (12, .v .int)], [], [], [(6, .map 269 82 true true)]⟩, false⟩, ⟨[4, 1, 1, 1, 4, 0, 1, 1, 5, 4, 1, 0, 1, 1, 11, 0, 1, 1], [], [12], ⟨[.int, .int, .int, .mp 269 82], [(3, .kp 9), (6, .kp 24), (10, .kp 0), (11, .kp 10), (12, .kp 14), (22, .kp 26), (23, .kp 27), (24, .v .int)], [(13, 269, [.v .int,.v .int])], [], [(6, .map 269 82 true true)]⟩, false⟩, ⟨[4, 1, 0, 1, 1, 12, 0, 1, 1], [], [6], ⟨[.itr, .lst 269], [(0, .kp 9), (3, .own 0), (14, .kp 18)], [], [269], [(13, .itr 6)]⟩, false⟩, ⟨[4, 1, 0, 1, 1, 1, 1, 1, 1, 12, 0, 1, 1], [], [13, 19, 6], ⟨[.int, .int, .int, .lst 39, .lst 82], [(0, .kp 9), (5, .own 0), (6, .kp 28), (26, .kp 29), (27, .kp 30), (28, .v .int)], [(20, 269, [.v .int,.v .int])], [300039, 82], []⟩, false⟩, ⟨[1, 4, 0, 1, 1, 5, 4, 1, 0, 1, 1, 1, 1, 1, 1, 12, 0, 1, 1], [], [36, 20], ⟨[.lst 39, .lst 82], [(0, .kp 9), (5, .own 0), (6, .kp 28), (8, .kp 42), (26, .kp 29), (27, .kp 30), (28, .kp 38)], [], [300039, 82], []⟩, true⟩]
def ct143 : Ct DD := ⟨143, [215, 3, 39], [39], [[false, false, true]], false, fun x Φ => Z100 x.1 x.2.1 x.2.2.1 fun y => Φ (y, ())⟩
def pl143 : List PE := [⟨[4, 1, 0, 1, 1], [5, 6], [6, 5, 3, 1, 0], ⟨[.lst 82], [], [(2, 39, [.kp 21,.kp 22,.own 0])], [82], []⟩, false⟩, ⟨[4, 1, 1, 4, 7, 4, 1, 0, 1, 1], [], [32], ⟨[.int, .lst 82], [(5, .kp 12), (8, .kp 36), (29, .kp 43), (30, .v .int)], [(2, 39, [.kp 21,.kp 22,.own 0])], [82], []⟩, false⟩, ⟨[0, 4, 7, 4, 1, 0, 1, 1], [], [32, 2, 31], ⟨[.bool], [(5, .kp 12), (8, .kp 36), (26, .v .bool)], [], [], []⟩, true⟩]
def ct82 : Ct DD := ⟨82, [143, 3, 22], [143, 49, 28], [[false, true, true, true, true], [false, false, false, true, true], [false]], false, fun x Φ => q57 x.1 x.2.1 x.2.2.1 fun y => Φ (y.1, y.2.1, y.2.2, ())⟩
def pl82 : List PE := [⟨[4, 1, 0, 1, 1, 1, 1, 1, 1, 11, 0, 1, 1], [5], [5, 4, 3, 2, 1, 0], ⟨[.int], [(1, .kp 7), (3, .kp 15), (38, .kp 42), (39, .kp 43), (40, .v .int)], [], [], []⟩, false⟩, ⟨[1, 4, 0, 1, 1, 5, 4, 1, 0, 1, 1, 1, 1, 1, 1, 11, 0, 1, 1], [], [], ⟨[], [], [], [8], []⟩, false⟩, ⟨[4, 1, 0, 1, 1, 12, 0, 1, 1, 1, 1, 1], [], [67, 66, 5, 4, 3, 2, 1, 0], ⟨[.int, .lst 3], [(2, .kp 71), (4, .kp 72), (5, .own 0), (14, .kp 77), (15, .kp 78), (16, .v .int)], [], [3], []⟩, false⟩, ⟨[4, 1, 0, 1, 1, 1, 1, 12, 0, 1, 1, 1, 1, 1], [], [67, 66, 5, 4, 3, 2, 1, 0], ⟨[.int, .lst 3, .lst 4], [(4, .kp 72), (5, .own 0), (8, .kp 98), (41, .kp 89), (42, .kp 100), (43, .v .int)], [(92, 215, [.kp 102,.kp 103,.kp 104,.kp 105,.kp 106,.own 1])], [3, 4], []⟩, false⟩, ⟨[4, 1, 0, 1, 12, 0, 1, 11, 0, 1, 1, 1, 1, 1, 12, 0, 1, 1, 1, 1, 1], [], [92, 108, 109, 67, 66, 5, 4, 3, 2, 1, 0], ⟨[.int], [(0, .kp 110), (1, .kp 111), (7, .kp 114), (8, .v .int)], [], [], []⟩, false⟩, ⟨[4, 1, 0, 1, 1, 1, 1, 1, 1, 1], [119, 109, 120], [120, 119, 117, 92, 108, 109, 67, 66, 5, 4, 3, 2, 1, 0], ⟨[.lst 39], [], [(118, 47, [.own 0])], [39], []⟩, false⟩, ⟨[4, 1, 0, 1, 1, 1, 1, 1, 1, 1, 1, 1, 1, 1, 1], [164, 165], [165, 164, 162, 163, 161, 160, 2, 118, 159, 120, 119, 117, 92, 108, 109, 67, 66, 5, 4, 3, 0], ⟨[.lst 3, .lst 39], [], [(1, 143, [.kp 187,.kp 188,.kp 189,.own 0,.own 1])], [3, 39], []⟩, false⟩, ⟨[4, 1, 0, 1, 1, 1, 1, 1, 1, 1], [119, 109, 120], [120, 119, 117, 92, 108, 109, 67, 66, 5, 4, 3, 2, 1, 0], ⟨[.lst 39], [], [(118, 47, [.own 0])], [39], []⟩, false⟩, ⟨[4, 1, 0, 1, 1, 1, 1, 1, 1, 1, 1, 1, 1, 1, 1], [164, 165], [165, 164, 162, 163, 161, 160, 2, 118, 159, 120, 119, 117, 92, 108, 109, 67, 66, 5, 4, 3, 0], ⟨[.lst 3, .lst 39], [], [(1, 143, [.kp 187,.kp 188,.kp 189,.own 0,.own 1])], [3, 39], []⟩, false⟩]
def ct33 : Ct DD := ⟨33, [71], [77, 4], [[false, false, false, true, true, true, false, false], [false]], false, fun x Φ => q136 x.1 fun y => Φ (y.1, y.2, ())⟩
def pl33 : List PE := [⟨[4, 1, 0, 1, 1, 1, 1, 1, 1, 1, 1], [53, 54, 3, 4], [53, 54, 52, 7, 6, 5, 3, 4, 2, 1], ⟨[.int, .int, .int, .lst 3, .lst 3, .lst 3, .lst 39, .lst 3, .lst 89, .lst 37, .int, .int, .lst 73, .lst 49, .lst 39], [(0, .kp 10), (2, .kp 11), (8, .kp 33), (9, .kp 62), (11, .v .int), (12, .v .int)], [(55, 143, [.v .int,.v (.lst 3),.v (.lst 3),.v (.lst 3),.v (.lst 39)]), (9, 77, [.v (.lst 3),.v (.lst 89),.v (.lst 37),.own 0,.own 1,.own 2,.v .int,.v .int]), (0, 77, [.kp 44,.kp 45,.kp 46,.kp 47,.kp 48,.kp 49,.kp 50,.kp 51])], [73, 49, 39], []⟩, false⟩, ⟨[0, 1, 1, 1, 1, 2, 1, 4, 4, 0, 1, 5, 4, 1, 0, 1, 1, 1, 1, 1, 1, 1, 1], [], [87, 83, 84, 85, 86, 82, 81, 80, 78, 79, 77, 76, 55, 9, 0, 73, 74, 75], ⟨[.bool], [(0, .kp 10), (2, .kp 11), (8, .kp 33), (9, .kp 62), (11, .kp 88), (12, .kp 89), (13, .kp 104), (14, .kp 112), (16, .kp 123), (19, .kp 132), (182, .v .bool)], [], [], []⟩, true⟩, ⟨[0, 1, 1, 1, 1, 1, 3, 1, 3, 1, 4, 4, 0, 1, 5, 4, 1, 0, 1, 1, 1, 1, 1, 1, 1, 1], [], [89, 90, 87, 83, 84, 88, 91, 86, 85, 79, 80, 81, 82, 78, 55, 9, 0, 73, 74, 75], ⟨[.bool], [(0, .kp 10), (2, .kp 11), (8, .kp 33), (9, .kp 62), (11, .kp 92), (12, .kp 93), (24, .kp 117), (25, .kp 138), (30, .kp 171), (130, .v .bool)], [], [], []⟩, true⟩, ⟨[0, 1, 1, 1, 1, 1, 3, 1, 3, 1, 4, 4, 0, 1, 5, 4, 1, 0, 1, 1, 1, 1, 1, 1, 1, 1], [], [89, 90, 87, 83, 84, 88, 91, 86, 85, 79, 80, 81, 82, 78, 55, 9, 0, 73, 74, 75], ⟨[.bool], [(0, .kp 10), (2, .kp 11), (8, .kp 33), (9, .kp 62), (11, .kp 92), (12, .kp 93), (24, .kp 117), (25, .kp 138), (30, .kp 171), (130, .v .bool)], [], [], []⟩, true⟩, ⟨[0, 1, 1, 1, 1, 1, 3, 1, 3, 1, 4, 4, 0, 1, 5, 4, 1, 0, 1, 1, 1, 1, 1, 1, 1, 1], [], [89, 90, 87, 83, 84, 88, 91, 86, 85, 79, 80, 81, 82, 78, 55, 9, 0, 73, 74, 75], ⟨[.bool], [(0, .kp 10), (2, .kp 11), (8, .kp 33), (9, .kp 62), (11, .kp 92), (12, .kp 93), (24, .kp 117), (25, .kp 138), (30, .kp 171), (130, .v .bool)], [], [], []⟩, true⟩, ⟨[0, 1, 1, 1, 1, 1, 3, 1, 3, 1, 4, 4, 0, 1, 5, 4, 1, 0, 1, 1, 1, 1, 1, 1, 1, 1], [], [89, 90, 87, 83, 84, 88, 91, 86, 85, 79, 80, 81, 82, 78, 55, 9, 0, 73, 74, 75], ⟨[.bool], [(0, .kp 10), (2, .kp 11), (8, .kp 33), (9, .kp 62), (11, .kp 92), (12, .kp 93), (24, .kp 117), (25, .kp 138), (30, .kp 171), (130, .v .bool)], [], [], []⟩, true⟩, ⟨[0, 1, 1, 1, 1], [], [9, 8, 7, 6, 5, 3, 4, 2, 1, 0], ⟨[.bool], [(0, .kp 10), (2, .kp 11), (8, .kp 33), (53, .v .bool)], [], [], []⟩, true⟩]
def ct35 : Ct DD := ⟨35, [86, 3], [4], [[false]], true, fun x Φ => q195 x.1 x.2.1 fun y => Φ (y, ())⟩
def pl35 : List PE := []
def ct10 : Ct DD := ⟨10, [71], [4], [[false]], true, fun x Φ => Z114 x.1 fun y => Φ (y, ())⟩
def pl10 : List PE := [⟨[4, 1, 0, 1, 1, 1, 1], [], [3, 0, 1, 2], ⟨[.int], [(3, .kp 14), (5, .v .int)], [], [], []⟩, false⟩, ⟨[4, 1, 0, 1, 1, 1, 4, 0, 1, 5, 4, 1, 0, 1, 1, 1, 1], [], [], ⟨[.int, .lst 39], [(3, .kp 14), (5, .kp 27), (6, .kp 39), (9, .own 0), (10, .v .int)], [], [39], []⟩, false⟩, ⟨[4, 1, 1, 1, 1, 1, 1, 4, 0, 1, 5, 4, 1, 0, 1, 1, 1, 1], [], [53], ⟨[.int], [(3, .kp 14), (5, .kp 27), (6, .kp 39), (9, .kp 54), (11, .v .int)], [], [], []⟩, false⟩, ⟨[4, 1, 4, 0, 1, 5, 4, 1, 1, 1, 1, 1, 1, 4, 0, 1, 5, 4, 1, 0, 1, 1, 1, 1], [], [], ⟨[.int], [(3, .kp 14), (5, .kp 27), (6, .kp 39), (9, .kp 54), (11, .kp 64), (12, .v .int)], [], [], []⟩, false⟩, ⟨[4, 1, 0, 1, 4, 0, 1, 5, 4, 1, 4, 0, 1, 5, 4, 1, 1, 1, 1, 1, 1, 4, 0, 1, 5, 4, 1, 0, 1, 1, 1, 1], [], [68], ⟨[.bool, .int], [(3, .kp 14), (5, .kp 27), (6, .kp 39), (9, .kp 54), (11, .kp 64), (12, .kp 69), (13, .v .bool), (14, .v .int)], [], [], []⟩, false⟩]
def Eqn (cs : List (Ct DD)) (pl : List PE) (S : List (List Nat × Nat)) (K : List (Sk DD)) (c : Ct DD) : Prop := ∀ x Φ, c.W x Φ = topF ⟨Tryz.prog, tab, cs, pl, [], gh, [], S, K⟩ 9 c.f c.ps c.rs c.own x Φ
theorem eq33 : Eqn [ct13, ct18, ct21, ct34, ct37, ct78, ct79, ct80, ct81, ct82] pl33 [([1, 1000078], 2), ([1, 1000091], 2), ([9, 16, 1, 1, 1, 1, 1, 1, 3, 1, 3, 1, 4, 4, 0, 1, 5, 4, 1, 0, 1, 1, 1, 1, 1, 1, 1, 1], 2)] [] ct33 := fun x Φ => by kernel_rfl
theorem eq47 : Eqn [ct93] pl47 [] [] ct47 := fun x Φ => by kernel_rfl
theorem eq102 : Eqn [ct101, ct155] pl102 [] [] ct102 := fun x Φ => by kernel_rfl
theorem eq150 : Eqn [ct179] pl150 [] [] ct150 := fun x Φ => by kernel_rfl
theorem eq186 : Eqn [ct199, ct200] pl186 [] [] ct186 := fun x Φ => by kernel_rfl
theorem eq124 : Eqn [] pl124 [] [] ct124 := fun x Φ => by kernel_rfl
theorem eq151 : Eqn [ct180] pl151 [] [] ct151 := fun x Φ => by kernel_rfl
theorem eq87 : Eqn [] pl87 [] [] ct87 := fun x Φ => by kernel_rfl
theorem eq179 : Eqn [] pl179 [] [] ct179 := fun x Φ => by kernel_rfl
theorem eq82 (x : TupD DD ct82.ps) (Φ : TupD DD ct82.rs → Prop) : ct82.W x Φ = topD ⟨Tryz.prog, tab, [ct37, ct41, ct49, ct101, ct102, ct141, ct143, ct169], pl82, [it170], gh, [], [([18, 0, 1, 4, 0, 1, 1, 5, 4, 1, 0, 1, 1, 12, 0, 1, 1, 1, 1, 1], 0)], []⟩ 9 ct82.f ct82.ps ct82.rs ct82.own x Φ := by kernel_rfl
theorem eqi164 (x : TupD DD it164.cs) (l : List (TupD DD it164.ts)) : it164.W x l = iterF ⟨Tryz.prog, tab, [ct83, ct165, ct166], pl164, [], gh, [], [], []⟩ it164.f it164.cs it164.ts x l := by kernel_rfl
theorem eq98 : Eqn [ct83, ct152, ct165, ct180, ct181] pl98 [] [] ct98 := fun x Φ => by kernel_rfl
theorem eq57 : Eqn [ct37, ct101, ct102, ct103] pl57 [] [] ct57 := fun x Φ => by kernel_rfl
theorem eq83 : Eqn [ct144] pl83 [] [] ct83 := fun x Φ => by kernel_rfl
theorem eq85 : Eqn [ct146] pl85 [] [] ct85 := fun x Φ => by kernel_rfl
theorem eq199 : Eqn [] pl199 [] [] ct199 := fun x Φ => by kernel_rfl
theorem eq137 : Eqn [ct168] pl137 [] [] ct137 := fun x Φ => by kernel_rfl
theorem eq95 : Eqn [ct85, ct150] pl95 [] [] ct95 := fun x Φ => by kernel_rfl
theorem eq34 : Eqn [] pl34 [] [] ct34 := fun x Φ => by kernel_rfl
theorem eq31 : Eqn [ct16, ct70, ct71, ct72, ct73] pl31 [] [] ct31 := fun x Φ => by kernel_rfl
theorem eq70 : Eqn [ct124] pl70 [] [] ct70 := fun x Φ => by kernel_rfl
theorem eq36 : Eqn [ct73, ct84] pl36 [] [] ct36 := fun x Φ => by kernel_rfl
theorem eq49 : Eqn [ct95, ct96] pl49 [] [] ct49 := fun x Φ => by kernel_rfl
theorem eq184 : Eqn [] pl184 [] [] ct184 := fun x Φ => by kernel_rfl
theorem eq146 : Eqn [] pl146 [] [] ct146 := fun x Φ => by kernel_rfl
theorem eq13 : Eqn [ct37, ct38, ct39, ct40, ct41] pl13 [] [sk89] ct13 := fun x Φ => by kernel_rfl
theorem eq103 : Eqn [ct37, ct49] pl103 [] [] ct103 := fun x Φ => by kernel_rfl
theorem eq96 : Eqn [] pl96 [] [] ct96 := fun x Φ => by kernel_rfl
theorem eq37 : Eqn [ct85, ct87] pl37 [] [] ct37 := fun x Φ => by kernel_rfl
theorem eq39 : Eqn [ct88] pl39 [] [] ct39 := fun x Φ => by kernel_rfl
theorem eq144 : Eqn [] pl144 [] [] ct144 := fun x Φ => by kernel_rfl
theorem eq38 : Eqn [ct40] pl38 [] [] ct38 := fun x Φ => by kernel_rfl
theorem eq18 : Eqn [ct16, ct37, ct41, ct49, ct97, ct98] pl18 [([10, 0, 1, 11, 0, 1, 1, 1, 1, 1], 86002), ([10, 0, 4, 1, 1, 5, 4, 1, 0, 1, 1, 1, 1, 1, 1], 86002), ([10, 0, 11, 0, 0, 1, 1, 14, 0, 1, 12, 0, 1, 1, 1, 1, 1, 1, 1], 86002), ([11, 0, 0, 1, 1, 1, 1, 1, 1], 86002), ([13, 1, 1, 4, 1, 1, 5, 4, 1, 0, 1, 1, 1, 1, 1, 1], 86002), ([14, 1, 1, 4, 0, 1, 1, 5, 4, 1, 0, 1, 1, 11, 0, 1, 1, 1, 1, 1], 86002)] [sk89] ct18 := fun x Φ => by kernel_rfl
theorem eq12 : Eqn [ct13, ct18, ct21, ct23, ct31, ct36] pl12 [] [] ct12 := fun x Φ => by kernel_rfl
theorem eq16 : Eqn [ct37, ct38, ct40, ct47] pl16 [] [] ct16 := fun x Φ => by kernel_rfl
theorem eq78 : Eqn [ct37, ct41, ct101] pl78 [] [] ct78 := fun x Φ => by kernel_rfl
theorem eqi170 (x : TupD DD it170.cs) (l : List (TupD DD it170.ts)) : it170.W x l = iterF ⟨Tryz.prog, tab, [], pl170, [], gh, [], [], []⟩ it170.f it170.cs it170.ts x l := by kernel_rfl
theorem eq88 : Eqn [ct144] pl88 [] [] ct88 := fun x Φ => by kernel_rfl
theorem eq180 : Eqn [] pl180 [] [] ct180 := fun x Φ => by kernel_rfl
theorem eq41 : Eqn [] pl41 [] [] ct41 := fun x Φ => by kernel_rfl
theorem eq101 : Eqn [] pl101 [] [] ct101 := fun x Φ => by kernel_rfl
theorem eq206 : Eqn [] pl206 [] [] ct206 := fun x Φ => by kernel_rfl
theorem eq21 : Eqn [ct16, ct39, ct40, ct41, ct57, ct97, ct98] pl21 [] [sk89] ct21 := fun x Φ => by kernel_rfl
theorem eq81 (x : TupD DD ct81.ps) (Φ : TupD DD ct81.rs → Prop) : ct81.W x Φ = topD ⟨Tryz.prog, tab, [ct37, ct49, ct101, ct102, ct136, ct137], pl81, [], gh, [], [], []⟩ 9 ct81.f ct81.ps ct81.rs ct81.own x Φ := by kernel_rfl
theorem eq143 (x : TupD DD ct143.ps) (Φ : TupD DD ct143.rs → Prop) : ct143.W x Φ = topF ⟨Tryz.prog, tab, [ct101, ct137], pl143, [it170], gh, [], [], []⟩ 9 ct143.f ct143.ps ct143.rs ct143.own x Φ := by kernel_rfl
theorem eq73 (x : TupD DD ct73.ps) (Φ : TupD DD ct73.rs → Prop) : ct73.W x Φ = topF ⟨Tryz.prog, tab, [], pl73, [it164], gh, [], [], []⟩ 9 ct73.f ct73.ps ct73.rs ct73.own x Φ := by kernel_rfl
theorem eq23 : Eqn [ct16, ct97] pl23 [] [] ct23 := fun x Φ => by kernel_rfl
theorem eq84 : Eqn [] pl84 [] [] ct84 := fun x Φ => by kernel_rfl
theorem eq181 : Eqn [] pl181 [] [] ct181 := fun x Φ => by kernel_rfl
theorem eq155 : Eqn [ct101] pl155 [] [] ct155 := fun x Φ => by kernel_rfl
theorem eq141 (x : TupD DD ct141.ps) (Φ : TupD DD ct141.rs → Prop) : ct141.W x Φ = topF ⟨Tryz.prog, tab, [ct171, ct184], pl141, [], gh, [tn185], [([11, 0, 1, 1, 1, 1, 1, 1, 1, 12, 0, 1, 1], 0), ([16, 2, 1, 0, 1, 4, 0, 1, 1, 5, 4, 1, 0, 1, 1, 1, 1, 1, 1, 12, 0, 1, 1], 82002), ([17, 2, 1, 0, 1, 4, 0, 1, 1, 5, 4, 1, 0, 1, 1, 1, 1, 1, 1, 12, 0, 1, 1], 0)], []⟩ 9 ct141.f ct141.ps ct141.rs ct141.own x Φ := by kernel_rfl
theorem eq10 : Eqn [ct12, ct23, ct33, ct34, ct35] pl10 [] [] ct10 := fun x Φ => by kernel_rfl
theorem eq79 : Eqn [ct34] pl79 [] [] ct79 := fun x Φ => by kernel_rfl
theorem eq165 : Eqn [] pl165 [] [] ct165 := fun x Φ => by kernel_rfl
theorem eq136 : Eqn [ct41, ct137] pl136 [] [] ct136 := fun x Φ => by kernel_rfl
theorem eq97 : Eqn [ct151] pl97 [] [] ct97 := fun x Φ => by kernel_rfl
theorem eq200 : Eqn [ct206] pl200 [] [] ct200 := fun x Φ => by kernel_rfl
theorem eq168 : Eqn [] pl168 [] [] ct168 := fun x Φ => by kernel_rfl
theorem eq40 : Eqn [] pl40 [] [] ct40 := fun x Φ => by kernel_rfl
theorem eq152 : Eqn [] pl152 [] [] ct152 := fun x Φ => by kernel_rfl
theorem eq72 : Eqn [ct124] pl72 [] [] ct72 := fun x Φ => by kernel_rfl
theorem eq71 : Eqn [ct124] pl71 [] [] ct71 := fun x Φ => by kernel_rfl
theorem eq171 : Eqn [] pl171 [] [] ct171 := fun x Φ => by kernel_rfl
theorem eq35 : Eqn [ct83] pl35 [] [] ct35 := fun x Φ => by kernel_rfl
theorem eq93 : Eqn [ct83] pl93 [] [] ct93 := fun x Φ => by kernel_rfl
theorem eq169 : Eqn [] pl169 [] [] ct169 := fun x Φ => by kernel_rfl
end Go.Proofs.YtgojhiknicmopaaGreatDoor
namespace Go.Proofs.YtgojhiknicmopaaGreatDoor
open Go
def rwd {α : Type} : Result α → World
  | .ok _ w => w
  | .halt _ w => w
theorem ask_up {α : Type} (a : Ask α) : ∀ w : World, w.drawn ≤ (w.ask a).2.drawn := by
  induction a with
  | done a => intro w; exact Nat.le_refl _
  | ask what range k ih =>
    intro w; simp only [World.ask]
    split
    · exact ih _ _
    · exact Nat.le_trans (Nat.le_succ _) (ih _ { w with drawn := w.drawn + 1 })
theorem q867 (w : World) (c : Sys) : w.drawn ≤ (w.sys c).2.drawn := by
  have h := ask_up (Kernel.perform c w.os) w; unfold World.sys; generalize w.ask (Kernel.perform c w.os) = r at h; obtain ⟨⟨r, os⟩, w'⟩ := r; cases r <;> first | exact h | exact Nat.le_refl _
theorem q489 {p : Program} {w w' : World} {a k : Addr} {u : TypeId} {v : Value} {b : Bool} {l : List Addr} (h : w.viewStore p a u k v b = .ok (w', l)) : w'.drawn = w.drawn := by
  unfold World.viewStore at h; simp only [bind, Except.bind, pure, Except.pure] at h
  (repeat' split at h) <;> first | contradiction | (simp only [Except.ok.injEq, Prod.mk.injEq] at h; obtain ⟨rfl, _⟩ := h; rfl)
theorem q535 {p : Program} {w w' : World} {a : Addr} {v : Value} {b : Bool} {l : List Addr} (h : w.farStore p a v b = .ok (w', l)) : w'.drawn = w.drawn := by
  unfold World.farStore at h
  split at h
  · split at h
    · rename_i r hr
      simp only [Except.ok.injEq] at h; subst h; exact q489 hr
    · contradiction
  · contradiction
theorem q490 (w : World) (a : Addr) (n : Nat) : (w.freeze a n).drawn = w.drawn := by
  unfold World.freeze; split <;> rfl
theorem q868 {α : Type} (p : Program) (s : Sem α) : ∀ w : World, w.drawn ≤ (rwd (s.run p w)).drawn := by
  induction s with
  | pure a => intro w; exact Nat.le_refl _
  | load m a k ih =>
    intro w; simp only [Sem.run]
    split
    · exact ih _ _
    · split
      · exact ih _ _
      · exact Nat.le_refl _
  | store m a v k ih =>
    intro w
    have hk : w.drawn ≤ (rwd (match w.cell? a with
      | some _ => if w.frozen? a then Result.halt (.unsupported (.unsafePointer "a write to bytes that a string shares")) w else k.run p (w.setCell a v)
      | none => match w.farStore p a v (m == .atomic) with
        | .ok (w, _) => k.run p w
        | .error h => .halt h w)).drawn := by
      split
      · split
        · exact Nat.le_refl _
        · exact ih (w.setCell a _)
      · split
        · rename_i hf
          exact Nat.le_trans (Nat.le_of_eq (q535 hf).symm) (ih _)
        · exact Nat.le_refl _
    cases v <;> simp only [Sem.run] <;> first | exact hk | exact Nat.le_refl _
  | new o k ih => intro w; exact ih _ { w with heap := w.heap.push o }
  | shape r k ih => intro w; exact ih _ _
  | freeze a n k ih => intro w; exact Nat.le_trans (Nat.le_of_eq (q490 w a n).symm) (ih (w.freeze a n))
  | frozen a k ih => intro w; exact ih _ _
  | getObj r k ih =>
    intro w; simp only [Sem.run]
    split
    · exact Nat.le_refl _
    · exact ih _ _
    · exact Nat.le_refl _
  | setObj r o k ih =>
    intro w; simp only [Sem.run]
    split
    · exact Nat.le_refl _
    · exact ih { w with heap := w.heap.setIfInBounds r o }
    · exact Nat.le_refl _
  | choose q k ih =>
    intro w; simp only [Sem.run]
    split
    · exact ih _ _
    · exact Nat.le_trans (Nat.le_succ _) (ih _ { w with drawn := w.drawn + 1 })
  | sys c k ih => intro w; exact Nat.le_trans (q867 w c) (ih _ _)
  | program k ih => intro w; exact ih _ _
  | mark m k ih => intro w; exact ih _
  | halt h => intro w; exact Nat.le_refl _
theorem q58 {α : Type} {p : Program} {s : Sem α} {w w' : World} {a : α} (h : s.run p w = .ok a w') : w.drawn ≤ w'.drawn := by
  have := q868 p s w; rw [h] at this; exact this
theorem q48 {α : Type} {p : Program} {s : Sem α} {w w' : World} {x : Halt} (h : s.run p w = .halt x w') : w.drawn ≤ w'.drawn := by
  have := q868 p s w; rw [h] at this; exact this
def gw : GStep → World
  | .go _ w _ => w
  | .comm _ _ _ _ w _ => w
  | .spawn _ _ w _ => w
  | .count _ w _ => w
  | .timer _ _ w _ => w
  | .alone _ _ w _ => w
  | .newcoro _ _ _ w _ => w
  | .coroswitch _ _ _ w _ => w
  | .collect _ w _ => w
  | .watch _ w _ => w
  | .ended _ w _ => w
theorem q62 (es : Array Event) (s : GStep) : gw (s.after es) = gw s := by cases s <;> rfl
theorem gw_go (g : Goroutine) (w : World) (es : Array Event) : gw (.go g w es) = w := rfl
theorem q114 (g : Goroutine) (c : Array CommCase) (b : Bool) (s : CommShape) (w : World) (es : Array Event) : gw (.comm g c b s w es) = w := rfl
theorem q73 (g c : Goroutine) (w : World) (es : Array Event) : gw (.spawn g c w es) = w := rfl
theorem q74 (g : Goroutine) (w : World) (es : Array Event) : gw (.count g w es) = w := rfl
theorem q75 (g : Goroutine) (o : TimerOp) (w : World) (es : Array Event) : gw (.timer g o w es) = w := rfl
theorem q76 (g : Goroutine) (o : Bool) (w : World) (es : Array Event) : gw (.alone g o w es) = w := rfl
theorem q42 (g : Goroutine) (c : Nat) (d : Deferred) (w : World) (es : Array Event) : gw (.newcoro g c d w es) = w := rfl
theorem q30 (g : Goroutine) (c : Nat) (x : Bool) (w : World) (es : Array Event) : gw (.coroswitch g c x w es) = w := rfl
theorem q43 (g : Goroutine) (w : World) (es : Array Event) : gw (.collect g w es) = w := rfl
theorem q77 (g : Goroutine) (w : World) (es : Array Event) : gw (.watch g w es) = w := rfl
theorem q78 (o : Outcome) (w : World) (es : Array Event) : gw (.ended o w es) = w := rfl
theorem q169 (fr : Frame) (m : String) (w : World) : gw (endThrow fr m w) = w := rfl
theorem q635 (w : World) (fd : Nat) (t : ByteArray) (o : Outcome) : w.drawn ≤ (gw (endWith w fd t o)).drawn := by
  have h := q867 w (.write fd t); unfold endWith; generalize w.sys (.write fd t) = r at h; obtain ⟨r, w'⟩ := r; cases r <;> simp only <;> (try split) <;> exact h
theorem q217 (p : Program) (fr : Frame) (v : Value) (w : World) : gw (endPrinting p fr v w) = w := by
  unfold endPrinting; simp only
  split <;> rfl
theorem q342 (p : Program) (fr : Frame) (cs : List Frame) (d : Option Dying) (m : String) (w : World) : w.drawn ≤ (gw (endFatal p fr cs d m w)).drawn := by
  unfold endFatal
  extract_lets chain raw shown
  clear_value shown
  split <;> (repeat (first | rw [q62] | rw [gw_go] | rw [q114] | rw [q73] | rw [q74] | rw [q75] | rw [q76] | rw [q42] | rw [q30] | rw [q43] | rw [q77] | rw [q78])) <;> (first | exact Nat.le_refl _ | exact q58 (by assumption) | exact q48 (by assumption))
theorem q636 (p : Program) (fr : Frame) (d : Dying) (f : Fatal) (w : World) : w.drawn ≤ (gw (writeOn p fr d f w)).drawn := by
  unfold writeOn
  extract_lets on
  split
  · exact Nat.le_refl _
  · extract_lets write
    clear_value write; simp only [Sem.runT_eq]
    split <;> rename_i h <;> simp only [Prod.mk.injEq] at h <;> (try simp only [on]) <;> (repeat (first | rw [q62] | rw [gw_go] | rw [q114] | rw [q73] | rw [q74] | rw [q75] | rw [q76] | rw [q42] | rw [q30] | rw [q43] | rw [q77] | rw [q78])) <;> first | exact q58 h.1 | exact q48 h.1
theorem die_up (p : Program) (fr : Frame) (d : Dying) (w : World) : w.drawn ≤ (gw (die p fr d w)).drawn := by
  unfold die
  split
  · exact q636 _ _ _ _ _
  · split
    · split
      · exact Nat.le_refl _
      · exact q635 _ _ _ _
    · simp only [Sem.runT_eq]
      (repeat' split) <;> (repeat (first | rw [q62] | rw [gw_go] | rw [q114] | rw [q73] | rw [q74] | rw [q75] | rw [q76] | rw [q42] | rw [q30] | rw [q43] | rw [q77] | rw [q78])) <;> (try simp only [q217]) <;> (first | exact Nat.le_refl _ | exact q58 (by assumption) | exact q48 (by assumption))
theorem q343 (p : Program) (main : Bool) (fr : Frame) (cs : List Frame) (d : Option Dying) (v : Value) (w : World) : gw (doReturn p main fr cs d v w) = w := by
  unfold doReturn
  (repeat' split) <;> rfl
theorem q344 (p : Program) (fr : Frame) (cs : List Frame) (dy : Option Dying) (d : Deferred) (w : World) : w.drawn ≤ (gw (callDeferred p fr cs dy d w)).drawn := by
  unfold callDeferred; simp only [Sem.runT_eq]
  (repeat' split) <;> (repeat (first | rw [q62] | rw [gw_go] | rw [q114] | rw [q73] | rw [q74] | rw [q75] | rw [q76] | rw [q42] | rw [q30] | rw [q43] | rw [q77] | rw [q78])) <;> (try simp only [q169]) <;> first | (first | exact Nat.le_refl _ | exact q58 (by assumption) | exact q48 (by assumption)) | exact Nat.le_trans (q48 (by assumption)) (q342 _ _ _ _ _ _)
theorem q724 (p : Program) (main : Bool) (fr : Frame) (cs : List Frame) (dy : Option Dying) (w : World) : w.drawn ≤ (gw (unwind p main fr cs dy w)).drawn := by
  unfold unwind; simp only [Sem.runT_eq]
  (repeat' split) <;> (repeat (first | rw [q62] | rw [gw_go] | rw [q114] | rw [q73] | rw [q74] | rw [q75] | rw [q76] | rw [q42] | rw [q30] | rw [q43] | rw [q77] | rw [q78])) <;> (try simp only [q343, q217]) <;> first | (first | exact Nat.le_refl _ | exact q58 (by assumption) | exact q48 (by assumption)) | exact q344 _ _ _ _ _ _
theorem q803 (p : Program) (fr : Frame) (cs : List Frame) (dy : Option Dying) (g : Nat) (w : World) : w.drawn ≤ (gw (early p fr cs dy g w)).drawn := by
  unfold early
  extract_lets refuse notYet
  have hn : ∀ w', w.drawn ≤ w'.drawn → w.drawn ≤ (gw (notYet w')).drawn := fun w' h => by
    simp only [notYet]
    (repeat' split) <;> (repeat (first | rw [q62] | rw [gw_go] | rw [q114] | rw [q73] | rw [q74] | rw [q75] | rw [q76] | rw [q42] | rw [q30] | rw [q43] | rw [q77] | rw [q78])) <;> exact h
  have hr : w.drawn ≤ (gw refuse).drawn := Nat.le_refl _; clear_value refuse notYet
  (repeat' split) <;> (repeat (first | rw [q62] | rw [gw_go] | rw [q114] | rw [q73] | rw [q74] | rw [q75] | rw [q76] | rw [q42] | rw [q30] | rw [q43] | rw [q77] | rw [q78])) <;> first | exact hr | exact hn _ (Nat.le_refl _) | exact hn _ (q58 (by assumption)) | (first | exact Nat.le_refl _ | exact q58 (by assumption) | exact q48 (by assumption))
theorem q315 (p : Program) (l : Bool) (fr : Frame) (cs : List Frame) (dy : Option Dying) (s : Sem Next) (w : World) : w.drawn ≤ (gw (stepG.apply p l fr cs dy s w)).drawn := by
  unfold stepG.apply
  have hs : (if l = true then s.runT p w #[] else (s.run p w, #[])).1 = s.run p w := by
    cases l <;> simp [Sem.runT_eq]
  generalize (if l = true then s.runT p w #[] else (s.run p w, #[])) = r at hs; obtain ⟨r, es⟩ := r; simp only at hs; subst hs; simp only [q62]
  (repeat' split) <;> (repeat (first | rw [q62] | rw [gw_go] | rw [q114] | rw [q73] | rw [q74] | rw [q75] | rw [q76] | rw [q42] | rw [q30] | rw [q43] | rw [q77] | rw [q78])) <;> (try simp only [q169]) <;> first | (first | exact Nat.le_refl _ | exact q58 (by assumption) | exact q48 (by assumption)) | exact Nat.le_trans (q48 (by assumption)) (q342 _ _ _ _ _ _) | exact Nat.le_trans (q48 (by assumption)) (q803 _ _ _ _ _ _)
theorem q725 (p : Program) (l : Bool) (fr : Frame) (cs : List Frame) (dy : Option Dying) (w : World) : w.drawn ≤ (gw (stepG.oper p l fr cs dy w)).drawn := by
  unfold stepG.oper
  (repeat' split) <;> (repeat (first | rw [q62] | rw [gw_go] | rw [q114] | rw [q73] | rw [q74] | rw [q75] | rw [q76] | rw [q42] | rw [q30] | rw [q43] | rw [q77] | rw [q78])) <;> first | (first | exact Nat.le_refl _ | exact q58 (by assumption) | exact q48 (by assumption)) | exact q315 _ _ _ _ _ _ _
theorem q726 {α : Type} (d : Nat) (o : Option α) (x : GStep) (f : α → GStep) (hx : d ≤ (gw x).drawn) (hf : ∀ a, d ≤ (gw (f a)).drawn) : d ≤ (gw (o.elim x f)).drawn := by
  cases o
  · exact hx
  · exact hf _
theorem exec_up (p : Program) (main l : Bool) (fr : Frame) (cs : List Frame) (dy : Option Dying) (w : World) : w.drawn ≤ (gw (stepG.exec p main l fr cs dy w)).drawn := by
  unfold stepG.exec
  extract_lets go to lost leave
  have hgo : ∀ fr w', w.drawn ≤ w'.drawn → w.drawn ≤ (gw (go fr w')).drawn := fun _ _ h => h; have hto : ∀ k, w.drawn ≤ (gw (to k)).drawn := fun _ => Nat.le_refl _; have hlost : ∀ s, w.drawn ≤ (gw (lost s)).drawn := fun _ => Nat.le_refl _
  have hleave : ∀ j, w.drawn ≤ (gw (leave j)).drawn := fun j => by
    simp only [leave]; clear_value go to lost leave
    split
    · split <;> first | exact hgo _ _ (Nat.le_refl _) | exact hlost _ | (split <;> first | exact hgo _ _ (Nat.le_refl _) | exact hlost _)
    · simp only [Sem.runT_eq, q62]
      split
      · rw [q343]; (first | exact Nat.le_refl _ | exact q58 (by assumption) | exact q48 (by assumption))
      · (repeat (first | rw [q62] | rw [gw_go] | rw [q114] | rw [q73] | rw [q74] | rw [q75] | rw [q76] | rw [q42] | rw [q30] | rw [q43] | rw [q77] | rw [q78])) <;> (first | exact Nat.le_refl _ | exact q58 (by assumption) | exact q48 (by assumption))
  clear_value go to lost leave; simp only [Sem.runT_eq]
  split
  all_goals first
    | exact hleave _
    | exact hto _
    | exact hlost _
    | exact q725 _ _ _ _ _ _
    | exact q315 _ _ _ _ _ _ _
    | exact q726 _ _ _ _ (hleave _) hto
    | exact q726 _ _ _ _ (hlost _) fun _ => q315 _ _ _ _ _ _ _
    | ((repeat' split) <;> (repeat (first | rw [q62] | rw [gw_go] | rw [q114] | rw [q73] | rw [q74] | rw [q75] | rw [q76] | rw [q42] | rw [q30] | rw [q43] | rw [q77] | rw [q78])) <;> (repeat' split) <;> (repeat (first | rw [q62] | rw [gw_go] | rw [q114] | rw [q73] | rw [q74] | rw [q75] | rw [q76] | rw [q42] | rw [q30] | rw [q43] | rw [q77] | rw [q78])) <;> first
        | exact hleave _
        | exact hto _
        | exact hlost _
        | (first | exact Nat.le_refl _ | exact q58 (by assumption) | exact q48 (by assumption))
        | exact q725 _ _ _ _ _ _
        | exact hgo _ _ (Nat.le_refl _)
        | exact hgo _ _ (q58 (by assumption))
        | exact hgo _ _ (q48 (by assumption))
        | exact Nat.le_trans (q58 (by assumption)) (q315 _ _ _ _ _ _ _))
theorem q804 (p : Program) (main : Bool) (g : Goroutine) (w : World) (l : Bool) : w.drawn ≤ (gw (stepG p main g w l)).drawn := by
  unfold stepG; obtain ⟨fr, cs, st, dy, of⟩ := g; simp only
  split
  · exact die_up _ _ _ _
  · exact exec_up _ _ _ _ _ _ _
  · exact q724 _ _ _ _ _ _
def upS (d : Nat) : Stepped → Prop
  | .next m => d ≤ m.world.drawn
  | .ended _ _ => True
theorem q45 {d : Nat} {m : Machine} (h : d ≤ m.world.drawn) : upS d (.next m) := h
theorem q25 {d : Nat} {o : Outcome} {w : World} : upS d (.ended o w) := trivial
theorem q345 {d d' : Nat} {s : Stepped} (h : d ≤ d') (hs : upS d' s) : upS d s := by
  cases s with
  | next m => exact Nat.le_trans h hs
  | ended o w => trivial
theorem q536 (p : Program) (gs : Array Goroutine) (rest : Rest) (w : World) : upS w.drawn (look p gs rest w) := by
  unfold look
  split
  · split
    extract_lets set
    split
    split
    · exact q25
    · split
      · exact q25
      · extract_lets pick
        clear_value pick
        split
        · rename_i h
          exact q45 (q58 h : w.drawn ≤ _)
        · exact q25
        · exact q25
  · exact q25
theorem q346 {rest : Rest} {cs : Array CommCase} {w w' : World} (h : waitingAt rest cs w = some w') : w'.drawn = w.drawn := by
  unfold waitingAt at h
  split at h
  · split at h
    · simp only [Option.some.injEq] at h; subst h; rfl
    · contradiction
  · simp only [Option.some.injEq] at h; subst h; rfl
theorem q370 (p : Program) (rest : Rest) (gs : Array Goroutine) (i : Nat) (g : Goroutine) (cs : Array CommCase) (b : Bool) (s : CommShape) (w : World) :
    upS w.drawn (communicate p rest gs i g cs b s w).1 := by
  unfold communicate
  extract_lets put illMade me other ready pick
  have hput : ∀ g gs w' ops, w.drawn ≤ w'.drawn → upS w.drawn (put g gs w' ops).1 := fun _ _ _ _ h => h; clear_value put illMade me other ready pick
  split
  · exact q25
  · split
    · split
      · split
        · rename_i h
          exact q45 (Nat.le_of_eq (q346 h).symm)
        · exact q25
      · exact hput _ _ _ _ (Nat.le_refl _)
    · split
      · exact q25
      · rename_i h1
        have hl := q58 h1; clear h1; simp only
        (repeat' split) <;> first
          | exact q25
          | exact hput _ _ _ _ hl
          | (refine hput _ _ _ _ (Nat.le_trans hl ?_); (try dsimp only); exact q58 (by assumption))
          | (refine hput _ _ _ _ (Nat.le_trans hl ?_); (try dsimp only); exact q48 (by assumption))
theorem q537 (w : World) (c : Nat) : (drain w c).2.drawn = w.drawn := by
  unfold drain
  split <;> rfl
theorem q296 (m : Machine) (k : Nat) (t : Timer) (a b : Nat) : (retime m k t a b).2.world.drawn = m.world.drawn := by
  unfold retime; cases t.chan with
  | none => rfl
  | some c => exact q537 m.world c
theorem q441 {m m' : Machine} {op : TimerOp} {v : Value} (h : timerOp m op = .ok (v, m')) : m'.world.drawn = m.world.drawn := by
  have hn : ∀ (n : Machine) var f, (∀ k t, (f k t).2.world.drawn = n.world.drawn) → timerOp.named m var f = .ok (v, m') → m'.world.drawn = n.world.drawn := fun n var f hf h => by
    unfold timerOp.named at h
    split at h
    · simp only [Except.ok.injEq] at h
      rw [← hf, h]
    · contradiction
  unfold timerOp at h
  split at h
  · split at h
    · simp only [Except.ok.injEq, Prod.mk.injEq] at h
      obtain ⟨_, rfl⟩ := h; rfl
    · split at h
      · split at h
        · contradiction
        · simp only [Except.ok.injEq, Prod.mk.injEq] at h
          obtain ⟨_, rfl⟩ := h; rfl
      · contradiction
  · exact hn m _ _ (fun k t => q296 _ _ _ _ _) h
  · split at h
    · rename_i m2 ho
      have h2 := hn m2 _ _ (fun k t => q296 _ _ _ _ _) h; rw [h2]; unfold timerOp.opened at ho
      (repeat' split at ho) <;> first | contradiction | (simp only [Option.some.injEq] at ho; subst ho; rfl)
    · contradiction
  · simp only [Except.ok.injEq, Prod.mk.injEq] at h
    obtain ⟨_, rfl⟩ := h; rfl
theorem q805 (p : Program) (m : Machine) (k : Nat) : upS m.world.drawn (serve p m k) := by
  unfold serve
  split
  · exact q25
  · exact q45 (Nat.le_refl _)
  · simp only
    split
    · exact q25
    · exact q45 (Nat.le_refl _)
def upM (d : Nat) : Move → Prop
  | .goroutine m _ => d ≤ m.world.drawn
  | .machine s _ => upS d s
theorem q600 {d : Nat} {m : Machine} {i : Nat} (h : d ≤ m.world.drawn) : upM d (.goroutine m i) := h
theorem q149 {d : Nat} {s : Stepped} {o : Array MemOp} (h : upS d s) : upM d (.machine s o) := h
theorem q442 (p : Program) (m : Machine) : upM m.world.drawn (askOn p m) := by
  unfold askOn
  extract_lets mono rs ds pick
  have hp : ∀ m' : Machine, upM m'.world.drawn (pick m') := fun m' => by
    simp only [pick]
    split
    · exact q149 q25
    · rename_i h1
      have h1 := q58 h1
      split
      · exact q600 h1
      · split
        · exact q149 q25
        · rename_i h2
          exact q600 (Nat.le_trans h1 (q58 h2))
  have hp' : ∀ m' : Machine, m.world.drawn ≤ m'.world.drawn → upM m.world.drawn (pick m') := fun m' h => by
    have := hp m'; generalize pick m' = r at this; cases r with
    | goroutine m i => exact Nat.le_trans h this
    | machine s o => exact q345 h this
  clear_value pick; clear hp; clear_value rs ds mono
  split
  · exact q149 q25
  · rename_i h1
    have hl := q58 h1; clear h1; simp only
    split
    · exact q149 (q345 hl (q805 _ _ _))
    · split
      · split
        · exact q149 (q45 hl)
        · split
          · exact q149 (q45 hl)
          · split
            · exact q149 q25
            · exact q149 q25
      · split
        · exact hp' _ hl
        · split
          · exact q149 q25
          · rename_i h2
            have h2 := q58 h2; exact hp' _ (Nat.le_trans hl h2)
          · rename_i h2
            have h2 := q58 h2; exact q149 (q45 (Nat.le_trans hl h2))
          · rename_i h2
            have h2 := q58 h2; exact hp' _ (Nat.le_trans hl h2)
theorem q869 {d d' : Nat} {s : Move} (h : d ≤ d') (hs : upM d' s) : upM d s := by
  cases s with
  | goroutine m i => exact Nat.le_trans h hs
  | machine s o => exact q345 h hs
theorem q727 (p : Program) (m : Machine) : upM m.world.drawn (ask p m) := by
  unfold ask
  split
  · split
    · exact q149 q25
    · rename_i h1
      have h1 := q58 h1
      split
      · rename_i w' _ _ m' h2
        have h3 := q536 p m.gs m.rest w'; rw [h2] at h3; exact q869 (Nat.le_trans h1 h3) (q442 _ _)
      · rename_i w' _ _ _
        exact q149 (q345 h1 (q536 _ _ _ _))
    · rename_i h1
      have h1 := q58 h1; exact q869 h1 (q442 _ _)
  · exact q442 _ _
theorem move_up (p : Program) (m : Machine) : upM m.world.drawn (move p m) := by
  unfold move
  split
  · split
    · exact q600 (Nat.le_refl _)
    · exact q149 q25
  · split
    · split
      · exact q600 (Nat.le_refl _)
      · exact q727 _ _
    · exact q727 _ _
theorem runT_up (p : Program) (m : Machine) (i : Nat) (l : Bool) : upS m.world.drawn (runT p m i l).1 := by
  unfold runT
  extract_lets rest world
  split
  extract_lets wake fn pos s ops done
  have hs : m.world.drawn ≤ (gw s).drawn := q804 _ _ _ _ _; clear_value s; cases s <;> simp only [done] <;> simp only [gw] at hs
  case ended => exact q25
  case comm => exact q345 hs (q370 _ _ _ _ _ _ _ _ _)
  case go => exact q45 hs
  case spawn => exact q45 hs
  case count =>
    split
    · exact q25
    · exact q45 hs
  case alone => exact q45 hs
  case collect => exact q345 hs (q536 _ _ _ _)
  case watch => exact q45 hs
  case newcoro => exact q45 hs
  case coroswitch =>
    split
    · exact q45 hs
    · split
      · rename_i g w es he
        have h := congrArg gw he; rw [q169] at h; simp only [gw] at h; exact q45 (h ▸ hs)
      · exact q25
    · exact q25
  case timer =>
    split
    · rename_i ht
      exact q45 (Nat.le_trans hs (Nat.le_of_eq (q441 ht).symm))
    · split
      · rename_i g w es he
        have h := congrArg gw he; rw [q169] at h; simp only [gw] at h; exact q45 (h ▸ hs)
      · exact q25
    · exact q25
    · exact q25
theorem step_up (p : Program) (m : Machine) : upS m.world.drawn (step p m) := by
  unfold step stepT; have h := move_up p m; generalize move p m = r at h; cases r with
  | goroutine m' i => exact q345 h (runT_up _ _ _ _)
  | machine s o => exact h
theorem step_le {P : Program} {m m' : Machine} (h : step P m = .next m') : m.world.drawn ≤ m'.world.drawn := by
  have h1 := step_up P m; rw [h] at h1; exact h1
theorem q601 {P : Program} {m m' : Machine} (h : Steps P m m') : m.world.drawn ≤ m'.world.drawn := by
  have h2 := StepsIn.of_steps h; clear h
  induction h2 with
  | refl => exact Nat.le_refl _
  | head _ hs _ ih => exact Nat.le_trans (step_le hs) ih
theorem Calls.grows {P : Program} {f : FuncId} {args : Array Value} {w : World} {R : Ending → World → Prop} (h : Calls P f args w R) (ho : ∀ w', ¬ R .outgrown w') :
    Calls P f args w fun e w' => R e w' ∧ w.drawn ≤ w'.drawn := fun cs => by
  obtain ⟨e, w', fr, hR, hc, hf, hl⟩ := h cs; refine ⟨e, w', fr, ⟨hR, ?_⟩, hc, hf, hl⟩; cases e with
  | returned v => exact q601 hc
  | panicked c => exact q601 hc
  | outgrown => exact absurd hR (ho w')
end Go.Proofs.YtgojhiknicmopaaGreatDoor
namespace Go.Proofs.YtgojhiknicmopaaGreatDoor
open Go.RowKit
def R0 (_ : Value) : Option (DataW Unit × List MemPlace) := some (.nil, [])
theorem EsR.keysZ {ν : Type} [Dt ν] {H : Hp} {va : Bool} : ∀ {l : List (Int × ν)} {i : Nat} {es : List MapEntry}, EsR (κ := Int) (ν := ν) H false va i es l → (es.map fun x => x.key) = l.map fun p => Value.int .i64 p.1
  | [], _, _, h => by
    have h : _ = [] := h; rw [h]; rfl
  | p :: l, _, _, ⟨e, r, h1, h2, ⟨ss, f, h3, h4⟩, h5, h6⟩ => by
    cases h3; rw [h1, List.map_cons, List.map_cons, EsR.keysZ h6, h4]; rfl
theorem wfZ {a : Int} (h : inI a) : (Lit.int .i64 a).wf = true := by
  obtain ⟨h1, h2⟩ := h; simp only [Lit.wf, Bool.and_eq_true, decide_eq_true_eq]; exact ⟨h1, h2⟩
theorem owns_of {P : Program} {K : TypeId} (hK : P.underlying K = some (.int .i64)) {ν : Type} [Dt ν] {H : Hp} {va : Bool} {w : World} {m : Nat} {es : List MapEntry} {l : List (Int × ν)} (hm : w.heap[m]? = some (.map es.toArray es.length)) (he : EsR (κ := Int) (ν := ν) H false va 0 es l) (hnd : (l.map fun p => p.1).Nodup) (hok : ∀ p, p ∈ l → inI p.1) (hlen : l.length ≤ maxLen) :
    ∃ D : DataW Unit, w.ownsMap P K R0 m l.length D ∧ Maps.size D = l.length ∧ (intKeys D).Perm (l.map fun p => p.1) := by
  have hk := he.keysZ; have hl := he.len; have hb := he.born
  have hrd : ∀ x ∈ es, ∃ a, inI a ∧ x.key = .int .i64 a := fun x hx => by
    have : x.key ∈ l.map fun p => Value.int .i64 p.1 := by rw [← hk]; exact List.mem_map_of_mem hx
    obtain ⟨p, hp, e⟩ := List.mem_map.1 this; exact ⟨p.1, hok p hp, e.symm⟩
  have hrg : (es.map (Go.WideElems.rg P K R0)).map (fun p => Go.intOf p.1) = l.map fun p => p.1 := by
    have h1 : (es.map (Go.WideElems.rg P K R0)).map (fun p => Go.intOf p.1) = (es.map fun x => x.key).map fun v => match v with | .int _ a => a | _ => 0 := by
      rw [List.map_map, List.map_map]; refine List.map_congr_left fun x hx => ?_; obtain ⟨a, h1, h2⟩ := hrd x hx; have h3 : Go.WideElems.rd P K R0 x = some (.int .i64 a, (.nil : DataW Unit)) := Go.WideElems.rd_mk (key := x.key) (val := x.val) (born := x.born) (yv := (.nil, [])) (by rw [h2]; exact Maps.keyOf_int_mk hK (wfZ h1)) rfl; have h4 : Go.WideElems.rg P K R0 x = (.int .i64 a, .nil) := Go.WideElems.rg_of h3; simp only [Function.comp, h4, h2, Go.intOf]
    rw [h1, hk, List.map_map]; rfl
  refine ⟨_, ⟨es.toArray, es.length, hm, ⟨by simpa [hl] using hlen, ⟨fun x hx => ?_, ?_, ?_⟩, fun x hx => ?_⟩, by simp [hl], rfl⟩, ?_, ?_⟩
  · have : x.born ∈ es.map (·.born) := List.mem_map_of_mem (by simpa using hx)
    rw [hb, List.mem_range'_1] at this; omega
  · show (es.map (·.born)).Nodup
    rw [hb]; exact List.nodup_range'
  · show (es.map fun x => x.key).Nodup
    rw [hk]; have : (l.map fun p => Value.int .i64 p.1) = (l.map fun p => p.1).map fun a => Value.int .i64 a := by rw [List.map_map]; rfl
    rw [this]; exact List.pairwise_map.2 (hnd.imp fun h e => h (by cases e; rfl))
  · obtain ⟨a, h1, h2⟩ := hrd x (by simpa using hx)
    exact ⟨_, Go.WideElems.rd_mk (key := x.key) (val := x.val) (born := x.born) (by rw [h2]; exact Maps.keyOf_int_mk hK (wfZ h1)) rfl⟩
  · show (((es.map (Go.WideElems.rg P K R0)).foldr DataW.insert []).length) = l.length
    rw [(Go.WideShapes.sorted_perm _).length_eq, List.length_map, hl]
  · show (((es.map (Go.WideElems.rg P K R0)).foldr DataW.insert []).map fun p => Go.intOf p.1).Perm _
    rw [← hrg]; exact (Go.WideShapes.sorted_perm _).map _
theorem q637 {l l' : List Int} (h : l.Perm l') : l.mergeSort (fun x y => decide (x ≤ y)) = sortZ l' := by
  refine List.Perm.eq_of_pairwise (le := fun a b => a ≤ b) (fun a b _ _ h1 h2 => Int.le_antisymm h1 h2) ?_ (q191 l') (((List.mergeSort_perm l _).trans h).trans (q210 l').symm); have := List.pairwise_mergeSort (le := fun x y : Int => decide (x ≤ y)) (fun a b c h1 h2 => by simp only [decide_eq_true_eq] at *; exact Int.le_trans h1 h2) (fun a b => by simp only [Bool.or_eq_true, decide_eq_true_eq]; exact Int.le_total a b) l; exact this.imp fun h => by simpa using h
theorem DtL.ofZ {H : Hp} : ∀ l : List Int, DtL (α := Int) H (l.map encZ) l
  | [] => rfl
  | x :: l => ⟨[encZ x], l.map encZ, rfl, rfl, DtL.ofZ l⟩
end Go.Proofs.YtgojhiknicmopaaGreatDoor
namespace Go.Proofs.YtgojhiknicmopaaGreatDoor
open Go.RowKit Go.Maps Go.Sort Go.Shelf
def Tryz.keysA89_ren : Go.Shelf.Ren := ⟨fun | 7 => 90 | 10 => 149 | n => n, fun | 23 => 98 | 26 => 3 | 3 => 89 | 28 => 165 | 0 => 0 | 27 => 164 | 33 => 96 | 4 => 4 | n => n, fun | n => n⟩
theorem Tryz.keysA89 : Go.Proofs.SlLaysZI.n7 Tryz.prog Tryz.keysA89_ren := {
  mixed := by kernel_rfl
  f7 := ⟨Tryz.f90.name, by decide, Tryz.func90.trans (congrArg some (by kernel_rfl))⟩
  f10 := ⟨Tryz.f149.name, by decide, Tryz.func149.trans (congrArg some (by kernel_rfl))⟩
  t0 := Tryz.underlying0
  a0 := Tryz.isAgg0
  z0 := Tryz.sizeOf0
  v0 := Tryz.zeroValue0
  t4 := Tryz.underlying4
  a4 := Tryz.isAgg4
  z4 := Tryz.sizeOf4
  v4 := Tryz.zeroValue4
  t23 := Tryz.underlying98
  a23 := Tryz.isAgg98
  z23 := Tryz.sizeOf98
  v23 := Tryz.zeroValue98
  t26 := Tryz.underlying3
  a26 := Tryz.isAgg3
  z26 := Tryz.sizeOf3
  v26 := Tryz.zeroValue3
  t27 := Tryz.underlying164
  a27 := Tryz.isAgg164
  z27 := Tryz.sizeOf164
  v27 := Tryz.zeroValue164
  t28 := Tryz.underlying165
  a28 := Tryz.isAgg165
  z28 := Tryz.sizeOf165
  v28 := Tryz.zeroValue165
  t33 := Tryz.underlying96
  a33 := Tryz.isAgg96
  z33 := Tryz.sizeOf96
  v33 := Tryz.zeroValue96 }
def Tryz.sortedA89_ren : Go.Shelf.Ren := ⟨fun | 6 => 89 | 8 => 147 | 9 => 148 | 11 => 175 | 13 => 177 | 12 => 176 | 23 => 196 | 24 => 197 | 14 => 187 | 15 => 188 | 16 => 189 | 17 => 190 | 18 => 191 | 19 => 192 | 20 => 193 | 21 => 194 | 22 => 195 | 25 => 201 | 26 => 202 | 27 => 203 | 28 => 204 | 29 => 205 | 30 => 206 | 31 => 215 | n => n, fun | 26 => 3 | 28 => 165 | 24 => 22 | 0 => 0 | 3 => 3 | 37 => 246 | 48 => 285 | 50 => 155 | 4 => 4 | 40 => 277 | 39 => 276 | 45 => 282 | 5 => 5 | 9 => 9 | 51 => 289 | 55 => 293 | 57 => 300 | 58 => 118 | 33 => 96 | n => n, fun | n => n⟩
theorem Tryz.sortedA89 : Go.Proofs.SlLaysZI.n6 Tryz.prog Tryz.sortedA89_ren := {
  mixed := by kernel_rfl
  f6 := ⟨Tryz.f89.name, by decide, Tryz.func89.trans (congrArg some (by kernel_rfl))⟩
  f8 := ⟨Tryz.f147.name, by decide, Tryz.func147.trans (congrArg some (by kernel_rfl))⟩
  f11 := ⟨Tryz.f175.name, by decide, Tryz.func175.trans (congrArg some (by kernel_rfl))⟩
  t0 := Tryz.underlying0
  a0 := Tryz.isAgg0
  z0 := Tryz.sizeOf0
  v0 := Tryz.zeroValue0
  t24 := Tryz.underlying22
  a24 := Tryz.isAgg22
  z24 := Tryz.sizeOf22
  v24 := Tryz.zeroValue22
  t26 := Tryz.underlying3
  a26 := Tryz.isAgg3
  z26 := Tryz.sizeOf3
  v26 := Tryz.zeroValue3
  t28 := Tryz.underlying165
  a28 := Tryz.isAgg165
  z28 := Tryz.sizeOf165
  v28 := Tryz.zeroValue165
  i26 := by kernel_rfl }
def Tryz.sortA89_ren : Go.Shelf.Ren := ⟨fun | 5 => 148 | 8 => 177 | 7 => 176 | 19 => 196 | 20 => 197 | 10 => 187 | 11 => 188 | 12 => 189 | 13 => 190 | 14 => 191 | 15 => 192 | 16 => 193 | 17 => 194 | 18 => 195 | 30 => 201 | 31 => 202 | 32 => 203 | 33 => 204 | 34 => 205 | 35 => 206 | 40 => 215 | n => n, fun | 23 => 22 | 25 => 3 | 3 => 3 | 32 => 246 | 22 => 22 | 0 => 0 | 44 => 285 | 46 => 155 | 4 => 4 | 36 => 277 | 35 => 276 | 41 => 282 | 5 => 5 | 9 => 9 | 53 => 289 | 57 => 293 | 63 => 300 | 64 => 118 | n => n, fun | n => n⟩
theorem Tryz.sortA89 : Go.Proofs.SlLaysM.n5 Tryz.prog Tryz.sortA89_ren := {
  mixed := by kernel_rfl
  f5 := ⟨Tryz.f148.name, by decide, Tryz.func148.trans (congrArg some (by kernel_rfl))⟩
  f7 := ⟨Tryz.f176.name, by decide, Tryz.func176.trans (congrArg some (by kernel_rfl))⟩
  f8 := Tryz.func177.trans (congrArg some (by kernel_rfl))
  f10 := ⟨Tryz.f187.name, by decide, Tryz.func187.trans (congrArg some (by kernel_rfl))⟩
  f11 := ⟨Tryz.f188.name, by decide, Tryz.func188.trans (congrArg some (by kernel_rfl))⟩
  f12 := ⟨Tryz.f189.name, by decide, Tryz.func189.trans (congrArg some (by kernel_rfl))⟩
  f13 := ⟨Tryz.f190.name, by decide, Tryz.func190.trans (congrArg some (by kernel_rfl))⟩
  f14 := ⟨Tryz.f191.name, by decide, Tryz.func191.trans (congrArg some (by kernel_rfl))⟩
  f15 := ⟨Tryz.f192.name, by decide, Tryz.func192.trans (congrArg some (by kernel_rfl))⟩
  f16 := ⟨Tryz.f193.name, by decide, Tryz.func193.trans (congrArg some (by kernel_rfl))⟩
  f17 := ⟨Tryz.f194.name, by decide, Tryz.func194.trans (congrArg some (by kernel_rfl))⟩
  f18 := ⟨Tryz.f195.name, by decide, Tryz.func195.trans (congrArg some (by kernel_rfl))⟩
  f19 := Tryz.func196.trans (congrArg some (by kernel_rfl))
  f20 := Tryz.func197.trans (congrArg some (by kernel_rfl))
  f30 := ⟨Tryz.f201.name, by decide, Tryz.func201.trans (congrArg some (by kernel_rfl))⟩
  f31 := Tryz.func202.trans (congrArg some (by kernel_rfl))
  f32 := Tryz.func203.trans (congrArg some (by kernel_rfl))
  f33 := ⟨Tryz.f204.name, by decide, Tryz.func204.trans (congrArg some (by kernel_rfl))⟩
  f34 := ⟨Tryz.f205.name, by decide, Tryz.func205.trans (congrArg some (by kernel_rfl))⟩
  f35 := ⟨Tryz.f206.name, by decide, Tryz.func206.trans (congrArg some (by kernel_rfl))⟩
  f40 := ⟨Tryz.f215.name, by decide, Tryz.func215.trans (congrArg some (by kernel_rfl))⟩
  t0 := Tryz.underlying0
  a0 := Tryz.isAgg0
  z0 := Tryz.sizeOf0
  v0 := Tryz.zeroValue0
  t3 := Tryz.underlying3
  a3 := Tryz.isAgg3
  z3 := Tryz.sizeOf3
  v3 := Tryz.zeroValue3
  t4 := Tryz.underlying4
  a4 := Tryz.isAgg4
  z4 := Tryz.sizeOf4
  v4 := Tryz.zeroValue4
  t5 := Tryz.underlying5
  a5 := Tryz.isAgg5
  z5 := Tryz.sizeOf5
  v5 := Tryz.zeroValue5
  t9 := Tryz.underlying9
  a9 := Tryz.isAgg9
  z9 := Tryz.sizeOf9
  v9 := Tryz.zeroValue9
  t22 := Tryz.underlying22
  a22 := Tryz.isAgg22
  z22 := Tryz.sizeOf22
  v22 := Tryz.zeroValue22
  t23 := Tryz.underlying22
  a23 := Tryz.isAgg22
  z23 := Tryz.sizeOf22
  v23 := Tryz.zeroValue22
  t25 := Tryz.underlying3
  a25 := Tryz.isAgg3
  z25 := Tryz.sizeOf3
  v25 := Tryz.zeroValue3
  t32 := Tryz.underlying246
  a32 := Tryz.isAgg246
  z32 := Tryz.sizeOf246
  v32 := Tryz.zeroValue246
  t35 := Tryz.underlying276
  a35 := Tryz.isAgg276
  z35 := Tryz.sizeOf276
  v35 := Tryz.zeroValue276
  t36 := Tryz.underlying277
  a36 := Tryz.isAgg277
  z36 := Tryz.sizeOf277
  v36 := Tryz.zeroValue277
  t41 := Tryz.underlying282
  a41 := Tryz.isAgg282
  z41 := Tryz.sizeOf282
  v41 := Tryz.zeroValue282
  t44 := Tryz.underlying285
  a44 := Tryz.isAgg285
  z44 := Tryz.sizeOf285
  v44 := Tryz.zeroValue285
  t46 := Tryz.underlying155
  a46 := Tryz.isAgg155
  z46 := Tryz.sizeOf155
  v46 := Tryz.zeroValue155
  t53 := Tryz.underlying289
  a53 := Tryz.isAgg289
  z53 := Tryz.sizeOf289
  v53 := Tryz.zeroValue289
  t57 := Tryz.underlying293
  a57 := Tryz.isAgg293
  z57 := Tryz.sizeOf293
  v57 := Tryz.zeroValue293
  t63 := Tryz.underlying300
  a63 := Tryz.isAgg300
  z63 := Tryz.sizeOf300
  v63 := Tryz.zeroValue300
  t64 := Tryz.underlying118
  a64 := Tryz.isAgg118
  z64 := Tryz.sizeOf118
  v64 := Tryz.zeroValue118 }
theorem sorts89 (m : Nat) : AnyZI.SortsIn Tryz.prog Tryz.sortedA89_ren Fence.wide m :=
  ⟨fun blk off cap ss W hH hblk hsz => callsIn_wide.2 (AnyM.slices_Sort_int Tryz.sortA89 blk off cap ss W hH hblk hsz), fun p cap W => callsIn_wide.2 (AnyM.slices_Sort_int_none Tryz.sortA89 p cap W)⟩
theorem skh89 {ν : Type} [Dt ν] {H : Hp} {va : Bool} {w : World} {bx m T : Nat} {es : List MapEntry} {l : List (Int × ν)} (hbx : w.heap[bx]? = some (.cells #[.map (some m)] T (0, 0))) (hm : w.heap[m]? = some (.map es.toArray es.length)) (he : EsR (κ := Int) (ν := ν) H false va 0 es l) (hnd : (l.map fun p => p.1).Nodup) (hok : ∀ p, p ∈ l → inI p.1) (hlen : lenOk l.length 8) :
    Calls Tryz.prog 89 #[.func (.func 149) #[] #[.pointer (some ⟨bx, 0, none⟩)]] w fun e w' => ∃ v s, e = .returned v ∧ Below w.heap.size w w' ∧ w'.ownsRow w.heap.size 3 1 v (sortZ (l.map fun p => p.1)).length s ∧ DtL (α := Int) H s (sortZ (l.map fun p => p.1)) := by
  obtain ⟨D0, hown, hsz, hperm⟩ := owns_of (P := Tryz.prog) (K := 3) (by kernel_rfl) hm he hnd hok hlen.2; have hcell : w.cell? ⟨bx, 0, none⟩ = some (.map (some m)) := by simp [World.cell?, hbx]
  have hseq : SeqGives Fence.wide 2 Tryz.prog 149 #[.pointer (some ⟨bx, 0, none⟩)] encZ (fun ss => ss.Perm (intKeys D0)) (Maps.size D0) w :=
    AnyZI.keys_gives (ρ := Tryz.keysA89_ren) { Tryz.keysA89 with } Fence.wide _ trivial rfl (by omega) bx m l.length D0 _ (q31 hbx) hcell hown
  have cS := AnyZI.sorted_in Tryz.sortedA89 Fence.wide 5 trivial trivial trivial trivial rfl (by omega) (sorts89 _) (enters_of Tryz.func148 (by kernel_rfl) rfl) 149 #[.pointer (some ⟨bx, 0, none⟩)] trivial (enters_of Tryz.func149 (by kernel_rfl) rfl) _ _ (by rw [hsz]; exact hlen.2) (by rw [hsz]; exact hlen.1) _ hseq; change CallsIn _ _ Tryz.prog 89 _ _ _ at cS; have cG := Calls.grows (callsIn_wide.1 cS) fun w' ⟨_, _, h, _⟩ => by cases h
  refine cG.mono fun e w' ⟨⟨v, ss, h1, h2, h3, h4, h5⟩, hd⟩ => ?_; have hs := q637 (h2.trans hperm); have hn : ss.length = (sortZ (l.map fun p => p.1)).length := by rw [← hs, List.length_mergeSort]
  rw [hs, hn] at h3; exact ⟨v, _, h1, ⟨h5, hd⟩, h3, DtL.ofZ _⟩
theorem q728 : sk89.Ok Tryz.prog := fun _ _ _ _ _ _ _ hbx hm he hnd hok hlen => skh89 hbx hm he hnd hok hlen
end Go.Proofs.YtgojhiknicmopaaGreatDoor
namespace Go.Proofs.YtgojhiknicmopaaGreatDoor
open Go.RowKit
section
section
variable {α : Type} [Inhabited α]
theorem q729 (enc : α → Value) {w : World} {g : Nat} (off : Nat) (d : Array α) {cur : Array Value} {e : TypeId} {fr : Nat × Nat} (h : w.heap[g]? = some (.cells cur e fr)) : (Sort.putRow enc w g off d).heap[g]? = some (.cells (Sort.putCells enc off d cur) e fr) := by
  simp [Sort.putRow, Sort.mapBlock, Array.getElem?_modify, h, Sort.onCells]
theorem q730 (enc : α → Value) {w : World} {g : Nat} (off m : Nat) (d : Array α) (os : Array Obj) {cur : Array Value} {e : TypeId} {fr : Nat × Nat} (h : w.heap[g]? = some (.cells cur e fr)) : (Sort.grow (Sort.putRow enc (Sort.ahead w m) g off d) os).heap[g]? = some (.cells (Sort.putCells enc off d cur) e fr) := by
  have h1 := q729 enc (w := Sort.ahead w m) off d h; rw [Sort.heap_grow_old _ _ (q31 h1)]; exact h1
theorem q394 (enc : α → Value) {w : World} {g k : Nat} (off m : Nat) (d : Array α) (os : Array Obj) (hk : k < w.heap.size) (hne : k ≠ g) : (Sort.grow (Sort.putRow enc (Sort.ahead w m) g off d) os).heap[k]? = w.heap[k]? := by
  have hs : k < (Sort.putRow enc (Sort.ahead w m) g off d).heap.size := by simpa [Sort.putRow, Sort.mapBlock, Sort.ahead] using hk
  rw [Sort.heap_grow_old _ _ hs]; simp [Sort.putRow, Sort.mapBlock, Array.getElem?_modify, Sort.ahead, hne.symm]
theorem q491 (enc : α → Value) {w : World} {g : Nat} (off m : Nat) (d : Array α) (os : Array Obj) : w.grownBy (Sort.grow (Sort.putRow enc (Sort.ahead w m) g off d) os) (some g) :=
  ⟨rfl, rfl, rfl, by simp [Sort.grow, Sort.putRow, Sort.mapBlock, Sort.ahead], fun k hk hne => q394 enc off m d os hk (fun e => hne (by rw [e]))⟩
theorem q443 (enc : α → Value) (d : Array α) (cur : Array Value) (h : d.size ≤ cur.size) : (Sort.putCells enc 0 d cur).toList.take d.size = d.toList.map enc := by
  apply List.ext_getElem?
  intro i; by_cases hi : i < d.size
  · rw [List.getElem?_take_of_lt hi]
    have hc : i < cur.size := by omega
    simp [Sort.putCells, hi, hc]
  · rw [List.getElem?_eq_none, List.getElem?_eq_none]
    · simpa using hi
    · simp; omega
theorem q538 (enc : α → Value) {w : World} {base : Nat} {e : TypeId} {k g n cap : Nat} {s : List Value} (m : Nat) (d : Array α) (os : Array Obj) (ho : w.ownsRow base e k (.slice (some ⟨g, 0, none⟩) n cap) n s) (hd : d.size = n * k) :
    (Sort.grow (Sort.putRow enc (Sort.ahead w m) g 0 d) os).ownsRow base e k (.slice (some ⟨g, 0, none⟩) n cap) n (d.toList.map enc) := by
  obtain ⟨h1, ⟨h2, _⟩ | ⟨g', cap', cur, h2, h3, h4, h5, h6, h7, h8⟩⟩ := ho
  · cases h2
  · cases h2
    refine ⟨by simp [hd], .inr ⟨g, cap, Sort.putCells enc 0 d cur, rfl, h3, q730 enc 0 m d os h4, h5, h6, by simp [Sort.putCells, h7], ?_⟩⟩; rw [← hd]; exact q443 enc d cur (by rw [hd, h7]; exact Nat.mul_le_mul_right _ h5)
theorem q638 {enc : α → Value} {w : World} {base : Nat} {e : TypeId} {k g n cap : Nat} {s : List Value} {d : Array α} (ho : w.ownsRow base e k (.slice (some ⟨g, 0, none⟩) n cap) n s) (hs : s = d.toList.map enc) : Sort.Holds enc w g 0 d ∧ g < w.heap.size := by
  obtain ⟨h1, ⟨h2, _⟩ | ⟨g', cap', cur, h2, h3, h4, h5, h6, h7, h8⟩⟩ := ho
  · cases h2
  · cases h2
    refine ⟨fun j hj => ?_, q31 h4⟩; have hn : d.size = n * k := by rw [← h1, hs]; simp
    have hc : cur[j]? = some (enc d[j]!) := by
      have h9 : (cur.toList.take (n * k))[j]? = some (enc d[j]!) := by
        rw [h8, hs, List.getElem?_map]; simp [hj]
      rw [List.getElem?_take_of_lt (by omega)] at h9; simpa using h9
    refine ⟨?_, ?_⟩
    · simp [World.cell?, h4, hc]
    · simp only [World.frozen?, h4]; simp
end
end
section
theorem Below.grow {w w' : World} (h : Below w.heap.size w w') : ∃ q os, w' = Sort.grow (w.drewN q) os := by
  refine ⟨w'.drawn - w.drawn, w'.heap.extract w.heap.size w'.heap.size, ?_⟩; have hs := h.size; have hd := h.dr
  have e1 : w'.heap = w.heap ++ w'.heap.extract w.heap.size w'.heap.size := by
    apply Array.ext_getElem?
    intro i; by_cases hi : i < w.heap.size
    · rw [h.block i hi, Array.getElem?_append_left hi]
    · rw [Array.getElem?_append_right (by omega)]
      by_cases hj : i < w'.heap.size
      · rw [Array.getElem?_eq_getElem hj, Array.getElem?_eq_getElem (by simp; omega)]
        congr 1
        simp only [Array.getElem_extract]
        congr 1
        omega
      · rw [Array.getElem?_eq_none (by omega), Array.getElem?_eq_none (by simp; omega)]
  have e2 : w'.drawn = w.drawn + (w'.drawn - w.drawn) := by omega
  obtain ⟨heap, tape, drawn, os, output⟩ := w'; have h1 : os = w.os := h.os; have h2 : tape = w.tape := h.tape; have h3 : output = w.output := h.output; subst h1 h2 h3; unfold Sort.grow World.drewN; simp only at e1 e2 ⊢; rw [← e1, ← e2]
section
variable {α : Type} (le : α → α → Bool)
theorem q347 (x : α) : ∀ l : List α, (insG le x l).Perm (x :: l)
  | [] => List.Perm.refl _
  | y :: r => by
    unfold insG; cases le x y with
    | true => exact List.Perm.refl _
    | false => exact ((q347 x r).cons y).trans (List.Perm.swap x y r)
theorem q50 : ∀ l : List α, (sortG le l).Perm l
  | [] => List.Perm.refl _
  | x :: r => (q347 le x (sortG le r)).trans ((q50 r).cons x)
variable {le}
theorem q348 (ht : ∀ a b, le a b = true ∨ le b a = true) (htr : ∀ a b c, le a b = true → le b c = true → le a c = true) (x : α) : ∀ l : List α, l.Pairwise (fun a b => le a b = true) → (insG le x l).Pairwise (fun a b => le a b = true)
  | [], _ => by simp [insG]
  | y :: r, h => by
    have h1 := List.pairwise_cons.1 h; unfold insG; cases hxy : le x y with
    | true =>
      refine List.pairwise_cons.2 ⟨fun z hz => ?_, h⟩; rcases List.mem_cons.1 hz with rfl | hz
      · exact hxy
      · exact htr _ _ _ hxy (h1.1 z hz)
    | false =>
      refine List.pairwise_cons.2 ⟨fun z hz => ?_, q348 ht htr x r h1.2⟩; rcases List.mem_cons.1 ((q347 le x r).mem_iff.1 hz) with rfl | hz
      · exact (ht z y).resolve_left (by rw [hxy]; simp)
      · exact h1.1 z hz
theorem q137 (ht : ∀ a b, le a b = true ∨ le b a = true) (htr : ∀ a b c, le a b = true → le b c = true → le a c = true) : ∀ l : List α, (sortG le l).Pairwise (fun a b => le a b = true)
  | [] => List.Pairwise.nil
  | x :: r => q348 ht htr x _ (q137 ht htr r)
theorem q602 (ht : ∀ a b, le a b = true ∨ le b a = true) (htr : ∀ a b c, le a b = true → le b c = true → le a c = true) (ha : ∀ a b, le a b = true → le b a = true → a = b) {l m : List α} (hp : m.Perm l) (hs : m.Pairwise (fun a b => le a b = true)) : m = sortG le l :=
  List.Perm.eq_of_pairwise (le := fun a b => le a b = true) (fun _ _ _ _ h1 h2 => ha _ _ h1 h2) hs (q137 ht htr l) (hp.trans (q50 le l).symm)
end
section
variable {α : Type}
theorem q218 {enc : α → List Value} {k : Nat} (hk : ∀ x, (enc x).length = k) : ∀ l : List α, (l.flatMap enc).length = l.length * k
  | [] => by simp
  | x :: l => by rw [List.flatMap_cons, List.length_append, hk, q218 hk l, List.length_cons, Nat.succ_mul, Nat.add_comm]
theorem q349 {enc : α → List Value} {k : Nat} (hk : ∀ x, (enc x).length = k) : ∀ (l : List α) (t : Nat) (_ : t < l.length * k), (l.flatMap enc)[t]? = (l[t / k]?).bind fun x => (enc x)[t % k]?
  | [], t, h => by simp at h
  | x :: l, t, h => by
    have k0 : 0 < k := by rcases Nat.eq_zero_or_pos k with h0 | h0; · subst h0; simp at h
                          · exact h0
    rw [List.flatMap_cons]; by_cases ht : t < k
    · rw [List.getElem?_append_left (by rw [hk]; exact ht), Nat.div_eq_of_lt ht, Nat.mod_eq_of_lt ht]
      rfl
    · have e1 : t / k = (t - k) / k + 1 := by rw [Nat.div_eq_sub_div k0 (by omega)]
      have e2 : t % k = (t - k) % k := by rw [Nat.mod_eq_sub_mod (by omega)]
      rw [List.getElem?_append_right (by rw [hk]; omega), hk, q349 hk l (t - k) (by rw [List.length_cons, Nat.succ_mul] at h; omega), e1, e2]; rfl
variable [Inhabited α]
theorem q395 {enc : α → List Value} {k : Nat} (hk : ∀ x, (enc x).length = k) (d : Array α) : (Sort.flatK enc k d).toList = d.toList.flatMap enc := by
  have hl := q218 hk d.toList
  apply List.ext_getElem?
  intro t; by_cases ht : t < d.size * k
  · have k0 : 0 < k := by rcases Nat.eq_zero_or_pos k with h0 | h0; · subst h0; simp at ht
                          · exact h0
    have hd : t / k < d.size := (Nat.div_lt_iff_lt_mul k0).2 ht; have hm : t % k < k := Nat.mod_lt _ k0; rw [q349 hk _ t (by rw [Array.length_toList]; exact ht)]; have e1 := Sort.get_flatK enc k d t ht; have e2 : t < (Sort.flatK enc k d).size := by rw [Sort.size_flatK]; exact ht
    rw [getElem!_pos (Sort.flatK enc k d) t e2] at e1; rw [Array.getElem?_toList, Array.getElem?_eq_getElem e2, e1, Array.getElem?_toList, Array.getElem?_eq_getElem hd]; have e3 : d[t / k]! = d[t / k] := getElem!_pos d _ hd; rw [e3]; have e4 : t % k < (enc d[t / k]).length := by rw [hk]; exact hm
    show some ((enc d[t / k])[t % k]!) = (enc d[t / k])[t % k]?; rw [getElem!_pos (enc d[t / k]) _ e4, List.getElem?_eq_getElem e4]
  · rw [List.getElem?_eq_none, List.getElem?_eq_none]
    · rw [hl, Array.length_toList]; omega
    · rw [Array.length_toList, Sort.size_flatK]; omega
end
theorem DtL.enc {α : Type} [Dt α] {enc : α → List Value} (he : ∀ H cs (x : α), Dt.rd H cs x → cs = enc x) {H : Hp} : ∀ {xs : List α} {cs : List Value}, DtL H cs xs → cs = xs.flatMap enc
  | [], _, h => h
  | _ :: _, _, ⟨_, _, h, h1, h2⟩ => by rw [h, he _ _ _ h1, DtL.enc he h2]; rfl
theorem DtL.ofEnc {α : Type} [Dt α] {enc : α → List Value} (he : ∀ H (x : α), Dt.rd H (enc x) x) {H : Hp} : ∀ (xs : List α), DtL H (xs.flatMap enc) xs
  | [] => rfl
  | x :: xs => ⟨enc x, xs.flatMap enc, rfl, he H x, DtL.ofEnc he xs⟩
end
def cmpI (a b : Int) : Int := if a < b then -1 else if b < a then 1 else 0
def cmpP (a b : q9) : Int := if cmpI a.volume b.volume ≠ 0 then cmpI a.volume b.volume else cmpI a.sector b.sector
theorem q870 (a b : Int) {Φ : Int → Prop} (h : Φ (cmpI a b)) : Z87 a b Φ := by
  unfold cmpI at h; unfold Z87 Z86; refine ⟨fun e => absurd e (by simp), fun _ => ⟨fun e => absurd e (by simp), fun _ => ⟨fun e => ?_, fun e => ⟨fun e2 => ?_, fun e2 => ?_⟩⟩⟩⟩
  · rw [if_pos e] at h; exact h
  · rw [if_neg e, if_pos e2] at h; exact h
  · rw [if_neg e, if_neg e2] at h; exact h
theorem q731 (x y : q9) : Z88 x y fun v => v = cmpP x y := by
  unfold Z88; refine ⟨(cmpI x.volume y.volume, ()), q870 _ _ rfl, (cmpI x.sector y.sector, ()), q870 _ _ rfl, (cmpP x y, ()), ?_, rfl⟩; refine ⟨3, ⟨fun _ => ⟨⟨by decide, by simp⟩, fun h => ?_, fun h => ⟨by unfold inI; decide, ⟨fun _ => ⟨⟨by decide, by simp⟩, fun h2 => ?_, fun h2 => ⟨by unfold inI; decide, ⟨fun h3 => absurd h3 (by simp), fun _ => ?_⟩⟩⟩, fun h2 => absurd (show (0 + 1 : Int) < _ by simp) h2⟩⟩⟩, fun h => absurd (show (0 : Int) < _ by simp) h⟩⟩
  · have h : cmpI x.volume y.volume ≠ 0 := h
    show (cmpI x.volume y.volume, ()) = (cmpP x y, ())
    unfold cmpP; rw [if_pos h]
  · have h : ¬ (cmpI x.volume y.volume ≠ 0) := h
    show (cmpI x.sector y.sector, ()) = (cmpP x y, ())
    unfold cmpP; rw [if_neg h]
  · have h : ¬ (cmpI x.volume y.volume ≠ 0) := h
    have h2 : ¬ (cmpI x.sector y.sector ≠ 0) := h2; show ((0 : Int), ()) = (cmpP x y, ())
    unfold cmpP; rw [if_neg h, Decidable.not_not.1 h2]
theorem q732 {a b : Int} : cmpI a b < 0 ↔ a < b := by unfold cmpI; split <;> (try split) <;> omega
theorem cmpI_eq {a b : Int} : cmpI a b = 0 ↔ a = b := by unfold cmpI; split <;> (try split) <;> omega
theorem cmpP_lt {a b : q9} : cmpP a b < 0 ↔ a.volume < b.volume ∨ a.volume = b.volume ∧ a.sector < b.sector := by
  have h1 := q732 (a := a.volume) (b := b.volume); have h2 := cmpI_eq (a := a.volume) (b := b.volume); have h3 := q732 (a := a.sector) (b := b.sector); unfold cmpP
  split <;> omega
theorem ltP (a b : q9) : ltOf cmpP a b = decide (a.volume < b.volume ∨ a.volume = b.volume ∧ a.sector < b.sector) := by
  unfold ltOf; exact decide_eq_decide.2 cmpP_lt
theorem swoP : Sort.SWO (ltOf cmpP) where
  irrefl x := by rw [ltP]; simp
  trans x y z h1 h2 := by rw [ltP] at *; simp only [decide_eq_true_eq] at *; omega
  ntrans x y z h1 h2 := by rw [ltP] at *; simp only [decide_eq_false_iff_not] at *; omega
theorem q97 {x y : q9} (h1 : x.volume = y.volume) (h2 : x.sector = y.sector) : x = y := by
  cases x; cases y; simp only at h1 h2; subst h1 h2; rfl
theorem q639 : ∀ x y : q9, ltOf cmpP x y = false → ltOf cmpP y x = false → x = y := fun x y h1 h2 => by
  rw [ltP] at *; simp only [decide_eq_false_iff_not] at *; exact q97 (by omega) (by omega)
theorem q196 (a b : q9) : pleB a b = true ∨ pleB b a = true := by unfold pleB; simp only [decide_eq_true_eq]; omega
theorem q197 (a b c : q9) (h : pleB a b = true) (k : pleB b c = true) : pleB a c = true := by unfold pleB at *; simp only [decide_eq_true_eq] at *; omega
theorem q603 (a b : q9) (h : pleB a b = true) (k : pleB b a = true) : a = b := by unfold pleB at *; simp only [decide_eq_true_eq] at *; exact q97 (by omega) (by omega)
theorem mergeP (l : List q9) : (l.mergeSort fun x y => !(ltOf cmpP) y x) = sortG pleB l := by
  have e : (fun x y : q9 => !(ltOf cmpP) y x) = pleB := by
    funext x y
    rw [ltP]; unfold pleB; by_cases h : y.volume < x.volume ∨ y.volume = x.volume ∧ y.sector < x.sector
    · rw [decide_eq_true h, decide_eq_false (by omega)]; rfl
    · rw [decide_eq_false h, decide_eq_true (by omega)]; rfl
  rw [e]; exact q602 q196 q197 q603 (List.mergeSort_perm l _) (List.pairwise_mergeSort (fun a b c h k => q197 a b c h k) (fun a b => by have := q196 a b; simpa using this) l)
end Go.Proofs.YtgojhiknicmopaaGreatDoor
