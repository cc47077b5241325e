/- Part 5 of the proof of the statement CycleComposesSaid: lemmas. No condition of its own. -/
import Derived.Lib.TrailingZeros
import Derived.ProofKit
import Derived.Test.YtbnfefbhalpceaaGreatRows
import Derived.Test.YtbnfefbhalpceaaGreatProg
import Derived.Test.YtbnfefbhalpceaaGreatM4
namespace Go.Proofs.YtbnfefbhalpceaaGreat
open Go.RowKit
structure api_Write where
  Volume : Int
  Start : Int
  Data : List Sec
  deriving DecidableEq
instance dt_api_Write : Dt api_Write where
  default := ⟨0, 0, []⟩
  sz := 3
  rd H cs x := ∃ A0 n0 c0 s0, cs = [.int .i64 (x.Volume), .int .i64 (x.Start), .slice A0 n0 c0] ∧ Fz H A0 n0 c0 x.Data s0
  len := fun ⟨A0, n0, c0, s0, h, h0⟩ => by rw [h]; rfl
  mono := fun ⟨A0, n0, c0, s0, h, h0⟩ hle => ⟨A0, n0, c0, s0, h, h0.mono hle⟩
  one := fun ⟨A0, n0, c0, s0, h, h0⟩ => by rw [h]; exact oneAll ⟨rfl, rfl, rfl, trivial⟩
structure api_Cycle where
  Base : Int
  Number : Int
  Time : Int
  Positions : List Int
  Writes : List api_Write
  deriving DecidableEq
instance dt_api_Cycle : Dt api_Cycle where
  default := ⟨0, 0, 0, [], []⟩
  sz := 5
  rd H cs x := ∃ A0 n0 c0 s0, ∃ A1 n1 c1 s1, cs = [.int .i64 (x.Base), .int .i64 (x.Number), .int .i64 (x.Time), .slice A0 n0 c0, .slice A1 n1 c1] ∧ Fz H A0 n0 c0 x.Positions s0 ∧ Fz H A1 n1 c1 x.Writes s1
  len := fun ⟨A0, n0, c0, s0, A1, n1, c1, s1, h, h0, h1⟩ => by rw [h]; rfl
  mono := fun ⟨A0, n0, c0, s0, A1, n1, c1, s1, h, h0, h1⟩ hle => ⟨A0, n0, c0, s0, A1, n1, c1, s1, h, h0.mono hle, h1.mono hle⟩
  one := fun ⟨A0, n0, c0, s0, A1, n1, c1, s1, h, h0, h1⟩ => by rw [h]; exact oneAll ⟨rfl, rfl, rfl, rfl, rfl, trivial⟩
structure api_Capture where
  Number : Int
  Sizes : List Int
  Positions : List Int
  Nodes : List Int
  Writes : List api_Write
  deriving DecidableEq
instance dt_api_Capture : Dt api_Capture where
  default := ⟨0, [], [], [], []⟩
  sz := 5
  rd H cs x := ∃ A0 n0 c0 s0, ∃ A1 n1 c1 s1, ∃ A2 n2 c2 s2, ∃ A3 n3 c3 s3, cs = [.int .i64 (x.Number), .slice A0 n0 c0, .slice A1 n1 c1, .slice A2 n2 c2, .slice A3 n3 c3] ∧ Fz H A0 n0 c0 x.Sizes s0 ∧ Fz H A1 n1 c1 x.Positions s1 ∧ Fz H A2 n2 c2 x.Nodes s2 ∧ Fz H A3 n3 c3 x.Writes s3
  len := fun ⟨A0, n0, c0, s0, A1, n1, c1, s1, A2, n2, c2, s2, A3, n3, c3, s3, h, h0, h1, h2, h3⟩ => by rw [h]; rfl
  mono := fun ⟨A0, n0, c0, s0, A1, n1, c1, s1, A2, n2, c2, s2, A3, n3, c3, s3, h, h0, h1, h2, h3⟩ hle => ⟨A0, n0, c0, s0, A1, n1, c1, s1, A2, n2, c2, s2, A3, n3, c3, s3, h, h0.mono hle, h1.mono hle, h2.mono hle, h3.mono hle⟩
  one := fun ⟨A0, n0, c0, s0, A1, n1, c1, s1, A2, n2, c2, s2, A3, n3, c3, s3, h, h0, h1, h2, h3⟩ => by rw [h]; exact oneAll ⟨rfl, rfl, rfl, rfl, rfl, trivial⟩
structure cycle_division where
  c : api_Capture
  part : List Bool
  deriving DecidableEq
instance dt_cycle_division : Dt cycle_division where
  default := ⟨default, []⟩
  sz := 6
  rd H cs x := ∃ A0 n0 c0 s0, ∃ A1 n1 c1 s1, ∃ A2 n2 c2 s2, ∃ A3 n3 c3 s3, ∃ A4 n4 c4 s4, cs = [.int .i64 (x.c.Number), .slice A0 n0 c0, .slice A1 n1 c1, .slice A2 n2 c2, .slice A3 n3 c3, .slice A4 n4 c4] ∧ Fz H A0 n0 c0 x.c.Sizes s0 ∧ Fz H A1 n1 c1 x.c.Positions s1 ∧ Fz H A2 n2 c2 x.c.Nodes s2 ∧ Fz H A3 n3 c3 x.c.Writes s3 ∧ Fz H A4 n4 c4 x.part s4
  len := fun ⟨A0, n0, c0, s0, A1, n1, c1, s1, A2, n2, c2, s2, A3, n3, c3, s3, A4, n4, c4, s4, h, h0, h1, h2, h3, h4⟩ => by rw [h]; rfl
  mono := fun ⟨A0, n0, c0, s0, A1, n1, c1, s1, A2, n2, c2, s2, A3, n3, c3, s3, A4, n4, c4, s4, h, h0, h1, h2, h3, h4⟩ hle => ⟨A0, n0, c0, s0, A1, n1, c1, s1, A2, n2, c2, s2, A3, n3, c3, s3, A4, n4, c4, s4, h, h0.mono hle, h1.mono hle, h2.mono hle, h3.mono hle, h4.mono hle⟩
  one := fun ⟨A0, n0, c0, s0, A1, n1, c1, s1, A2, n2, c2, s2, A3, n3, c3, s3, A4, n4, c4, s4, h, h0, h1, h2, h3, h4⟩ => by rw [h]; exact oneAll ⟨rfl, rfl, rfl, rfl, rfl, rfl, trivial⟩
structure coalesce_place where
  volume : Int
  sector : Int
  deriving DecidableEq
instance dt_coalesce_place : Dt coalesce_place where
  default := ⟨0, 0⟩
  sz := 2
  rd H cs x := cs = [.int .i64 (x.volume), .int .i64 (x.sector)]
  len h := by rw [h]; rfl
  mono h _ := h
  one h := by rw [h]; exact oneAll ⟨rfl, rfl, trivial⟩
  ks := some ([.i .i64, .i .i64], fun x => [.i .i64 x.volume, .i .i64 x.sector])
  ksOk := fun _ _ h => by
    cases h
    refine ⟨fun _ _ _ => Iff.rfl, fun _ => rfl, fun a b h => ?_⟩
    obtain ⟨a_0, a_1⟩ := a
    obtain ⟨b_0, b_1⟩ := b
    simp only [List.cons.injEq, Sc.i.injEq, true_and, and_true] at h
    obtain ⟨e0, e1⟩ := h
    subst e0
    subst e1
    rfl
structure api_Extent where
  Start : Int
  Count : Int
  deriving DecidableEq
instance dt_api_Extent : Dt api_Extent where
  default := ⟨0, 0⟩
  sz := 2
  rd H cs x := cs = [.int .i64 (x.Start), .int .i64 (x.Count)]
  len h := by rw [h]; rfl
  mono h _ := h
  one h := by rw [h]; exact oneAll ⟨rfl, rfl, trivial⟩
instance dtUnit : Dt Unit where
  default := ()
  sz := 0
  rd _ cs _ := cs = []
  len h := by rw [h]; rfl
  mono h _ := h
  one h := by rw [h]; intro u hu; cases hu
structure TyR where
  α : Type
  inst : Dt α
def tyOf (t : Nat) : TyR := bif Nat.beq t 4 then ⟨Bool, inferInstance⟩ else bif Nat.beq t 3 then ⟨Int, inferInstance⟩ else bif Nat.beq t 130 then ⟨Sec, inferInstance⟩ else bif Nat.beq t 70 then ⟨api_Write, inferInstance⟩ else bif Nat.beq t 29 then ⟨api_Cycle, inferInstance⟩ else bif Nat.beq t 68 then ⟨List Sec, inferInstance⟩ else bif Nat.beq t 39 then ⟨List (List Sec), inferInstance⟩ else bif Nat.beq t 23 then ⟨List api_Write, inferInstance⟩ else bif Nat.beq t 25 then ⟨api_Capture, inferInstance⟩ else bif Nat.beq t 30 then ⟨Int, inferInstance⟩ else bif Nat.beq t 22 then ⟨List Int, inferInstance⟩ else bif Nat.beq t 38 then ⟨List (List Sec), inferInstance⟩ else bif Nat.beq t 5 then ⟨BitVec 8, inferInstance⟩ else bif Nat.beq t 52 then ⟨List (BitVec 8), inferInstance⟩ else bif Nat.beq t 79 then ⟨cycle_division, inferInstance⟩ else bif Nat.beq t 186 then ⟨coalesce_place, inferInstance⟩ else bif Nat.beq t 198 then ⟨BitVec 64, inferInstance⟩ else bif Nat.beq t 222 then ⟨BitVec 64, inferInstance⟩ else bif Nat.beq t 151 then ⟨List (List api_Write), inferInstance⟩ else bif Nat.beq t 195 then ⟨api_Extent, inferInstance⟩ else bif Nat.beq t 148 then ⟨List api_Extent, inferInstance⟩ else bif Nat.beq t 77 then ⟨List Bool, inferInstance⟩ else ⟨Unit, dtUnit⟩
abbrev DD (t : Nat) : Type := (tyOf t).α
instance dtDD (t : Nat) : Dt (DD t) := (tyOf t).inst
def xI : SV DD → Option Int
 | .i .i64 n => some n
 | _ => none
def xW : SV DD → Option (BitVec 64)
 | .w x => some x
 | _ => none
def xY : SV DD → Option (BitVec 8)
 | .y x => some x
 | _ => none
def xT : SV DD → Option ByteArray
 | .st x => some x
 | _ => none
def xS (e : Nat) : SV DD → Option (List (DD e))
 | .fsl e' xs => castL e' e xs
 | .nil => some []
 | _ => none
theorem xI_cq {a : SV DD} {n : Int} (h : xI a = some n) : CQ a (.i .i64 n) := by
  unfold xI at h
  split at h
  · cases h; exact .inr ⟨rfl, rfl, fun _ _ _ h => h⟩
  · cases h
theorem xW_cq {a : SV DD} {n : BitVec 64} (h : xW a = some n) : CQ a (.w n) := by
  unfold xW at h
  split at h
  · cases h; exact .inr ⟨rfl, rfl, fun _ _ _ h => h⟩
  · cases h
theorem xY_cq {a : SV DD} {n : BitVec 8} (h : xY a = some n) : CQ a (.y n) := by
  unfold xY at h
  split at h
  · cases h; exact .inr ⟨rfl, rfl, fun _ _ _ h => h⟩
  · cases h
theorem xB_cq {a : SV DD} {n : Bool} (h : boolOf a = some n) : CQ a (.b n) := by
  cases a <;> first | (cases h; exact .inr ⟨rfl, rfl, fun _ _ _ h => h⟩) | cases h
theorem xS_cq {e : Nat} {a : SV DD} {n : List (DD e)} (h : xS e a = some n) : CQ a (.fsl e n) := by
  unfold xS at h
  split at h
  · obtain ⟨he, h1⟩ := castL_ok h
    subst he
    subst h1
    exact .inl ⟨_, _, rfl, .inl rfl⟩
  · cases h; exact .inl ⟨_, _, rfl, .inr ⟨rfl, rfl⟩⟩
  · cases h
theorem bindS {α β : Type} {o : Option α} {f : α → Option β} {x : β} (h : o.bind f = some x) : ∃ v, o = some v ∧ f v = some x := Option.bind_eq_some_iff.1 h
def ofc4 : List (SV DD) → Option (DD 4)
 | [a0] => (boolOf a0).bind fun v0 => some v0
 | _ => none
def ce4 : CE DD := ⟨4, fun x => [.b (x)], ofc4, none⟩
theorem ceOk4 : ce4.Ok where
  rdi := @fun H ρ cs x => ⟨fun h => by
    obtain h := (show Dt.rd (α := Bool) H cs x from h)
    subst h
    exact ⟨_, _, rfl, rfl, rfl⟩, fun h => by
    obtain ⟨v0, r0, e0, p0, e⟩ := h
    have e : r0 = [] := e
    subst e
    subst e0
    have p0 : v0 = _ := p0
    subst p0
    exact (show Dt.rd (α := Bool) H _ x from rfl)⟩
  cq := @fun l x h => by
    change ofc4 l = some x at h
    unfold ofc4 at h
    split at h
    · obtain ⟨v0, h0, h⟩ := bindS h
      cases h
      exact ⟨_, _, rfl, xB_cq h0, rfl⟩
    · cases h
  eqc := fun d a b c1 c2 hd h1 h2 => by cases hd
def ofc3 : List (SV DD) → Option (DD 3)
 | [a0] => (xI a0).bind fun v0 => some v0
 | _ => none
def ce3 : CE DD := ⟨3, fun x => [.i .i64 (x)], ofc3, none⟩
theorem ceOk3 : ce3.Ok where
  rdi := @fun H ρ cs x => ⟨fun h => by
    obtain h := (show Dt.rd (α := Int) H cs x from h)
    subst h
    exact ⟨_, _, rfl, rfl, rfl⟩, fun h => by
    obtain ⟨v0, r0, e0, p0, e⟩ := h
    have e : r0 = [] := e
    subst e
    subst e0
    have p0 : v0 = _ := p0
    subst p0
    exact (show Dt.rd (α := Int) H _ x from rfl)⟩
  cq := @fun l x h => by
    change ofc3 l = some x at h
    unfold ofc3 at h
    split at h
    · obtain ⟨v0, h0, h⟩ := bindS h
      cases h
      exact ⟨_, _, rfl, xI_cq h0, rfl⟩
    · cases h
  eqc := fun d a b c1 c2 hd h1 h2 => by cases hd
def ofc130 : List (SV DD) → Option (DD 130)
 | [a0, a1, a2, a3, a4, a5, a6, a7] => (xY a0).bind fun v0 => (xY a1).bind fun v1 => (xY a2).bind fun v2 => (xY a3).bind fun v3 => (xY a4).bind fun v4 => (xY a5).bind fun v5 => (xY a6).bind fun v6 => (xY a7).bind fun v7 => some ⟨v0, v1, v2, v3, v4, v5, v6, v7⟩
 | _ => none
def ce130 : CE DD := ⟨130, fun x => [.y (x.b0), .y (x.b1), .y (x.b2), .y (x.b3), .y (x.b4), .y (x.b5), .y (x.b6), .y (x.b7)], ofc130, some (inferInstanceAs (DecidableEq Sec))⟩
theorem sc130 (a b : Sec) : (([.i .u8 ((a.b0).toNat : Int), .i .u8 ((a.b1).toNat : Int), .i .u8 ((a.b2).toNat : Int), .i .u8 ((a.b3).toNat : Int), .i .u8 ((a.b4).toNat : Int), .i .u8 ((a.b5).toNat : Int), .i .u8 ((a.b6).toNat : Int), .i .u8 ((a.b7).toNat : Int)] : List Sc) = [.i .u8 ((b.b0).toNat : Int), .i .u8 ((b.b1).toNat : Int), .i .u8 ((b.b2).toNat : Int), .i .u8 ((b.b3).toNat : Int), .i .u8 ((b.b4).toNat : Int), .i .u8 ((b.b5).toNat : Int), .i .u8 ((b.b6).toNat : Int), .i .u8 ((b.b7).toNat : Int)]) ↔ a = b := by
  cases a; cases b; simp [← BitVec.toNat_inj]; omega
theorem ceOk130 : ce130.Ok where
  rdi := @fun H ρ cs x => ⟨fun h => by
    obtain h := (show Dt.rd (α := Sec) H cs x from h)
    subst h
    exact ⟨_, _, rfl, rfl, _, _, rfl, rfl, _, _, rfl, rfl, _, _, rfl, rfl, _, _, rfl, rfl, _, _, rfl, rfl, _, _, rfl, rfl, _, _, rfl, rfl, rfl⟩, fun h => by
    obtain ⟨v0, r0, e0, p0, v1, r1, e1, p1, v2, r2, e2, p2, v3, r3, e3, p3, v4, r4, e4, p4, v5, r5, e5, p5, v6, r6, e6, p6, v7, r7, e7, p7, e⟩ := h
    have e : r7 = [] := e
    subst e
    subst e7
    subst e6
    subst e5
    subst e4
    subst e3
    subst e2
    subst e1
    subst e0
    have p0 : v0 = _ := p0
    subst p0
    have p1 : v1 = _ := p1
    subst p1
    have p2 : v2 = _ := p2
    subst p2
    have p3 : v3 = _ := p3
    subst p3
    have p4 : v4 = _ := p4
    subst p4
    have p5 : v5 = _ := p5
    subst p5
    have p6 : v6 = _ := p6
    subst p6
    have p7 : v7 = _ := p7
    subst p7
    exact (show Dt.rd (α := Sec) H _ x from rfl)⟩
  cq := @fun l x h => by
    change ofc130 l = some x at h
    unfold ofc130 at h
    split at h
    · obtain ⟨v0, h0, h⟩ := bindS h
      obtain ⟨v1, h1, h⟩ := bindS h
      obtain ⟨v2, h2, h⟩ := bindS h
      obtain ⟨v3, h3, h⟩ := bindS h
      obtain ⟨v4, h4, h⟩ := bindS h
      obtain ⟨v5, h5, h⟩ := bindS h
      obtain ⟨v6, h6, h⟩ := bindS h
      obtain ⟨v7, h7, h⟩ := bindS h
      cases h
      exact ⟨_, _, rfl, xY_cq h0, _, _, rfl, xY_cq h1, _, _, rfl, xY_cq h2, _, _, rfl, xY_cq h3, _, _, rfl, xY_cq h4, _, _, rfl, xY_cq h5, _, _, rfl, xY_cq h6, _, _, rfl, xY_cq h7, rfl⟩
    · cases h
  eqc := fun d a b c1 c2 hd h1 h2 => by
    cases h1; cases h2
    exact sc130 a b
def ofc70 : List (SV DD) → Option (DD 70)
 | [a0, a1, a2] => (xI a0).bind fun v0 => (xI a1).bind fun v1 => (xS 130 a2).bind fun v2 => some ⟨v0, v1, v2⟩
 | _ => none
def ce70 : CE DD := ⟨70, fun x => [.i .i64 (x.Volume), .i .i64 (x.Start), .fsl 130 (x.Data)], ofc70, none⟩
theorem ceOk70 : ce70.Ok where
  rdi := @fun H ρ cs x => ⟨fun h => by
    obtain ⟨A0, n0, c0, s0, h, h0⟩ := (show Dt.rd (α := api_Write) H cs x from h)
    subst h
    exact ⟨_, _, rfl, rfl, _, _, rfl, rfl, _, _, rfl, ⟨A0, n0, c0, s0, rfl, h0⟩, rfl⟩, fun h => by
    obtain ⟨v0, r0, e0, p0, v1, r1, e1, p1, v2, r2, e2, ⟨A0, n0, c0, s0, p2, h0⟩, e⟩ := h
    have e : r2 = [] := e
    subst e
    subst e2
    subst e1
    subst e0
    have p0 : v0 = _ := p0
    subst p0
    have p1 : v1 = _ := p1
    subst p1
    subst p2
    exact (show Dt.rd (α := api_Write) H _ x from ⟨A0, n0, c0, s0, rfl, h0⟩)⟩
  cq := @fun l x h => by
    change ofc70 l = some x at h
    unfold ofc70 at h
    split at h
    · obtain ⟨v0, h0, h⟩ := bindS h
      obtain ⟨v1, h1, h⟩ := bindS h
      obtain ⟨v2, h2, h⟩ := bindS h
      cases h
      exact ⟨_, _, rfl, xI_cq h0, _, _, rfl, xI_cq h1, _, _, rfl, xS_cq h2, rfl⟩
    · cases h
  eqc := fun d a b c1 c2 hd h1 h2 => by cases hd
def ofc29 : List (SV DD) → Option (DD 29)
 | [a0, a1, a2, a3, a4] => (xI a0).bind fun v0 => (xI a1).bind fun v1 => (xI a2).bind fun v2 => (xS 3 a3).bind fun v3 => (xS 70 a4).bind fun v4 => some ⟨v0, v1, v2, v3, v4⟩
 | _ => none
def ce29 : CE DD := ⟨29, fun x => [.i .i64 (x.Base), .i .i64 (x.Number), .i .i64 (x.Time), .fsl 3 (x.Positions), .fsl 70 (x.Writes)], ofc29, none⟩
theorem ceOk29 : ce29.Ok where
  rdi := @fun H ρ cs x => ⟨fun h => by
    obtain ⟨A0, n0, c0, s0, A1, n1, c1, s1, h, h0, h1⟩ := (show Dt.rd (α := api_Cycle) H cs x from h)
    subst h
    exact ⟨_, _, rfl, rfl, _, _, rfl, rfl, _, _, rfl, rfl, _, _, rfl, ⟨A0, n0, c0, s0, rfl, h0⟩, _, _, rfl, ⟨A1, n1, c1, s1, rfl, h1⟩, rfl⟩, fun h => by
    obtain ⟨v0, r0, e0, p0, v1, r1, e1, p1, v2, r2, e2, p2, v3, r3, e3, ⟨A0, n0, c0, s0, p3, h0⟩, v4, r4, e4, ⟨A1, n1, c1, s1, p4, h1⟩, e⟩ := h
    have e : r4 = [] := e
    subst e
    subst e4
    subst e3
    subst e2
    subst e1
    subst e0
    have p0 : v0 = _ := p0
    subst p0
    have p1 : v1 = _ := p1
    subst p1
    have p2 : v2 = _ := p2
    subst p2
    subst p3
    subst p4
    exact (show Dt.rd (α := api_Cycle) H _ x from ⟨A0, n0, c0, s0, A1, n1, c1, s1, rfl, h0, h1⟩)⟩
  cq := @fun l x h => by
    change ofc29 l = some x at h
    unfold ofc29 at h
    split at h
    · obtain ⟨v0, h0, h⟩ := bindS h
      obtain ⟨v1, h1, h⟩ := bindS h
      obtain ⟨v2, h2, h⟩ := bindS h
      obtain ⟨v3, h3, h⟩ := bindS h
      obtain ⟨v4, h4, h⟩ := bindS h
      cases h
      exact ⟨_, _, rfl, xI_cq h0, _, _, rfl, xI_cq h1, _, _, rfl, xI_cq h2, _, _, rfl, xS_cq h3, _, _, rfl, xS_cq h4, rfl⟩
    · cases h
  eqc := fun d a b c1 c2 hd h1 h2 => by cases hd
def ofc68 : List (SV DD) → Option (DD 68)
 | [a0] => (xS 130 a0).bind fun v0 => some v0
 | _ => none
def ce68 : CE DD := ⟨68, fun x => [.fsl 130 (x)], ofc68, none⟩
theorem ceOk68 : ce68.Ok where
  rdi := @fun H ρ cs x => ⟨fun h => by
    obtain ⟨A0, n0, c0, s0, h, h0⟩ := (show Dt.rd (α := List Sec) H cs x from h)
    subst h
    exact ⟨_, _, rfl, ⟨A0, n0, c0, s0, rfl, h0⟩, rfl⟩, fun h => by
    obtain ⟨v0, r0, e0, ⟨A0, n0, c0, s0, p0, h0⟩, e⟩ := h
    have e : r0 = [] := e
    subst e
    subst e0
    subst p0
    exact (show Dt.rd (α := List Sec) H _ x from ⟨A0, n0, c0, s0, rfl, h0⟩)⟩
  cq := @fun l x h => by
    change ofc68 l = some x at h
    unfold ofc68 at h
    split at h
    · obtain ⟨v0, h0, h⟩ := bindS h
      cases h
      exact ⟨_, _, rfl, xS_cq h0, rfl⟩
    · cases h
  eqc := fun d a b c1 c2 hd h1 h2 => by cases hd
def ofc39 : List (SV DD) → Option (DD 39)
 | [a0] => (xS 68 a0).bind fun v0 => some v0
 | _ => none
def ce39 : CE DD := ⟨39, fun x => [.fsl 68 (x)], ofc39, none⟩
theorem ceOk39 : ce39.Ok where
  rdi := @fun H ρ cs x => ⟨fun h => by
    obtain ⟨A0, n0, c0, s0, h, h0⟩ := (show Dt.rd (α := List (List Sec)) H cs x from h)
    subst h
    exact ⟨_, _, rfl, ⟨A0, n0, c0, s0, rfl, h0⟩, rfl⟩, fun h => by
    obtain ⟨v0, r0, e0, ⟨A0, n0, c0, s0, p0, h0⟩, e⟩ := h
    have e : r0 = [] := e
    subst e
    subst e0
    subst p0
    exact (show Dt.rd (α := List (List Sec)) H _ x from ⟨A0, n0, c0, s0, rfl, h0⟩)⟩
  cq := @fun l x h => by
    change ofc39 l = some x at h
    unfold ofc39 at h
    split at h
    · obtain ⟨v0, h0, h⟩ := bindS h
      cases h
      exact ⟨_, _, rfl, xS_cq h0, rfl⟩
    · cases h
  eqc := fun d a b c1 c2 hd h1 h2 => by cases hd
def ofc23 : List (SV DD) → Option (DD 23)
 | [a0] => (xS 70 a0).bind fun v0 => some v0
 | _ => none
def ce23 : CE DD := ⟨23, fun x => [.fsl 70 (x)], ofc23, none⟩
theorem ceOk23 : ce23.Ok where
  rdi := @fun H ρ cs x => ⟨fun h => by
    obtain ⟨A0, n0, c0, s0, h, h0⟩ := (show Dt.rd (α := List api_Write) H cs x from h)
    subst h
    exact ⟨_, _, rfl, ⟨A0, n0, c0, s0, rfl, h0⟩, rfl⟩, fun h => by
    obtain ⟨v0, r0, e0, ⟨A0, n0, c0, s0, p0, h0⟩, e⟩ := h
    have e : r0 = [] := e
    subst e
    subst e0
    subst p0
    exact (show Dt.rd (α := List api_Write) H _ x from ⟨A0, n0, c0, s0, rfl, h0⟩)⟩
  cq := @fun l x h => by
    change ofc23 l = some x at h
    unfold ofc23 at h
    split at h
    · obtain ⟨v0, h0, h⟩ := bindS h
      cases h
      exact ⟨_, _, rfl, xS_cq h0, rfl⟩
    · cases h
  eqc := fun d a b c1 c2 hd h1 h2 => by cases hd
def ofc25 : List (SV DD) → Option (DD 25)
 | [a0, a1, a2, a3, a4] => (xI a0).bind fun v0 => (xS 3 a1).bind fun v1 => (xS 3 a2).bind fun v2 => (xS 3 a3).bind fun v3 => (xS 70 a4).bind fun v4 => some ⟨v0, v1, v2, v3, v4⟩
 | _ => none
def ce25 : CE DD := ⟨25, fun x => [.i .i64 (x.Number), .fsl 3 (x.Sizes), .fsl 3 (x.Positions), .fsl 3 (x.Nodes), .fsl 70 (x.Writes)], ofc25, none⟩
theorem ceOk25 : ce25.Ok where
  rdi := @fun H ρ cs x => ⟨fun h => by
    obtain ⟨A0, n0, c0, s0, A1, n1, c1, s1, A2, n2, c2, s2, A3, n3, c3, s3, h, h0, h1, h2, h3⟩ := (show Dt.rd (α := api_Capture) H cs x from h)
    subst h
    exact ⟨_, _, rfl, rfl, _, _, rfl, ⟨A0, n0, c0, s0, rfl, h0⟩, _, _, rfl, ⟨A1, n1, c1, s1, rfl, h1⟩, _, _, rfl, ⟨A2, n2, c2, s2, rfl, h2⟩, _, _, rfl, ⟨A3, n3, c3, s3, rfl, h3⟩, rfl⟩, fun h => by
    obtain ⟨v0, r0, e0, p0, v1, r1, e1, ⟨A0, n0, c0, s0, p1, h0⟩, v2, r2, e2, ⟨A1, n1, c1, s1, p2, h1⟩, v3, r3, e3, ⟨A2, n2, c2, s2, p3, h2⟩, v4, r4, e4, ⟨A3, n3, c3, s3, p4, h3⟩, e⟩ := h
    have e : r4 = [] := e
    subst e
    subst e4
    subst e3
    subst e2
    subst e1
    subst e0
    have p0 : v0 = _ := p0
    subst p0
    subst p1
    subst p2
    subst p3
    subst p4
    exact (show Dt.rd (α := api_Capture) H _ x from ⟨A0, n0, c0, s0, A1, n1, c1, s1, A2, n2, c2, s2, A3, n3, c3, s3, rfl, h0, h1, h2, h3⟩)⟩
  cq := @fun l x h => by
    change ofc25 l = some x at h
    unfold ofc25 at h
    split at h
    · obtain ⟨v0, h0, h⟩ := bindS h
      obtain ⟨v1, h1, h⟩ := bindS h
      obtain ⟨v2, h2, h⟩ := bindS h
      obtain ⟨v3, h3, h⟩ := bindS h
      obtain ⟨v4, h4, h⟩ := bindS h
      cases h
      exact ⟨_, _, rfl, xI_cq h0, _, _, rfl, xS_cq h1, _, _, rfl, xS_cq h2, _, _, rfl, xS_cq h3, _, _, rfl, xS_cq h4, rfl⟩
    · cases h
  eqc := fun d a b c1 c2 hd h1 h2 => by cases hd
def ofc30 : List (SV DD) → Option (DD 30)
 | [a0] => (xI a0).bind fun v0 => some v0
 | _ => none
def ce30 : CE DD := ⟨30, fun x => [.i .i64 (x)], ofc30, none⟩
theorem ceOk30 : ce30.Ok where
  rdi := @fun H ρ cs x => ⟨fun h => by
    obtain h := (show Dt.rd (α := Int) H cs x from h)
    subst h
    exact ⟨_, _, rfl, rfl, rfl⟩, fun h => by
    obtain ⟨v0, r0, e0, p0, e⟩ := h
    have e : r0 = [] := e
    subst e
    subst e0
    have p0 : v0 = _ := p0
    subst p0
    exact (show Dt.rd (α := Int) H _ x from rfl)⟩
  cq := @fun l x h => by
    change ofc30 l = some x at h
    unfold ofc30 at h
    split at h
    · obtain ⟨v0, h0, h⟩ := bindS h
      cases h
      exact ⟨_, _, rfl, xI_cq h0, rfl⟩
    · cases h
  eqc := fun d a b c1 c2 hd h1 h2 => by cases hd
def ofc22 : List (SV DD) → Option (DD 22)
 | [a0] => (xS 3 a0).bind fun v0 => some v0
 | _ => none
def ce22 : CE DD := ⟨22, fun x => [.fsl 3 (x)], ofc22, none⟩
theorem ceOk22 : ce22.Ok where
  rdi := @fun H ρ cs x => ⟨fun h => by
    obtain ⟨A0, n0, c0, s0, h, h0⟩ := (show Dt.rd (α := List Int) H cs x from h)
    subst h
    exact ⟨_, _, rfl, ⟨A0, n0, c0, s0, rfl, h0⟩, rfl⟩, fun h => by
    obtain ⟨v0, r0, e0, ⟨A0, n0, c0, s0, p0, h0⟩, e⟩ := h
    have e : r0 = [] := e
    subst e
    subst e0
    subst p0
    exact (show Dt.rd (α := List Int) H _ x from ⟨A0, n0, c0, s0, rfl, h0⟩)⟩
  cq := @fun l x h => by
    change ofc22 l = some x at h
    unfold ofc22 at h
    split at h
    · obtain ⟨v0, h0, h⟩ := bindS h
      cases h
      exact ⟨_, _, rfl, xS_cq h0, rfl⟩
    · cases h
  eqc := fun d a b c1 c2 hd h1 h2 => by cases hd
def ofc38 : List (SV DD) → Option (DD 38)
 | [a0] => (xS 68 a0).bind fun v0 => some v0
 | _ => none
def ce38 : CE DD := ⟨38, fun x => [.fsl 68 (x)], ofc38, none⟩
theorem ceOk38 : ce38.Ok where
  rdi := @fun H ρ cs x => ⟨fun h => by
    obtain ⟨A0, n0, c0, s0, h, h0⟩ := (show Dt.rd (α := List (List Sec)) H cs x from h)
    subst h
    exact ⟨_, _, rfl, ⟨A0, n0, c0, s0, rfl, h0⟩, rfl⟩, fun h => by
    obtain ⟨v0, r0, e0, ⟨A0, n0, c0, s0, p0, h0⟩, e⟩ := h
    have e : r0 = [] := e
    subst e
    subst e0
    subst p0
    exact (show Dt.rd (α := List (List Sec)) H _ x from ⟨A0, n0, c0, s0, rfl, h0⟩)⟩
  cq := @fun l x h => by
    change ofc38 l = some x at h
    unfold ofc38 at h
    split at h
    · obtain ⟨v0, h0, h⟩ := bindS h
      cases h
      exact ⟨_, _, rfl, xS_cq h0, rfl⟩
    · cases h
  eqc := fun d a b c1 c2 hd h1 h2 => by cases hd
def ofc5 : List (SV DD) → Option (DD 5)
 | [a0] => (xY a0).bind fun v0 => some v0
 | _ => none
def ce5 : CE DD := ⟨5, fun x => [.y (x)], ofc5, none⟩
theorem ceOk5 : ce5.Ok where
  rdi := @fun H ρ cs x => ⟨fun h => by
    obtain h := (show Dt.rd (α := BitVec 8) H cs x from h)
    subst h
    exact ⟨_, _, rfl, rfl, rfl⟩, fun h => by
    obtain ⟨v0, r0, e0, p0, e⟩ := h
    have e : r0 = [] := e
    subst e
    subst e0
    have p0 : v0 = _ := p0
    subst p0
    exact (show Dt.rd (α := BitVec 8) H _ x from rfl)⟩
  cq := @fun l x h => by
    change ofc5 l = some x at h
    unfold ofc5 at h
    split at h
    · obtain ⟨v0, h0, h⟩ := bindS h
      cases h
      exact ⟨_, _, rfl, xY_cq h0, rfl⟩
    · cases h
  eqc := fun d a b c1 c2 hd h1 h2 => by cases hd
def ofc52 : List (SV DD) → Option (DD 52)
 | [a0] => (xS 5 a0).bind fun v0 => some v0
 | _ => none
def ce52 : CE DD := ⟨52, fun x => [.fsl 5 (x)], ofc52, none⟩
theorem ceOk52 : ce52.Ok where
  rdi := @fun H ρ cs x => ⟨fun h => by
    obtain ⟨A0, n0, c0, s0, h, h0⟩ := (show Dt.rd (α := List (BitVec 8)) H cs x from h)
    subst h
    exact ⟨_, _, rfl, ⟨A0, n0, c0, s0, rfl, h0⟩, rfl⟩, fun h => by
    obtain ⟨v0, r0, e0, ⟨A0, n0, c0, s0, p0, h0⟩, e⟩ := h
    have e : r0 = [] := e
    subst e
    subst e0
    subst p0
    exact (show Dt.rd (α := List (BitVec 8)) H _ x from ⟨A0, n0, c0, s0, rfl, h0⟩)⟩
  cq := @fun l x h => by
    change ofc52 l = some x at h
    unfold ofc52 at h
    split at h
    · obtain ⟨v0, h0, h⟩ := bindS h
      cases h
      exact ⟨_, _, rfl, xS_cq h0, rfl⟩
    · cases h
  eqc := fun d a b c1 c2 hd h1 h2 => by cases hd
def ofc79 : List (SV DD) → Option (DD 79)
 | [a0, a1, a2, a3, a4, a5] => (xI a0).bind fun v0 => (xS 3 a1).bind fun v1 => (xS 3 a2).bind fun v2 => (xS 3 a3).bind fun v3 => (xS 70 a4).bind fun v4 => (xS 4 a5).bind fun v5 => some ⟨⟨v0, v1, v2, v3, v4⟩, v5⟩
 | _ => none
def ce79 : CE DD := ⟨79, fun x => [.i .i64 (x.c.Number), .fsl 3 (x.c.Sizes), .fsl 3 (x.c.Positions), .fsl 3 (x.c.Nodes), .fsl 70 (x.c.Writes), .fsl 4 (x.part)], ofc79, none⟩
theorem ceOk79 : ce79.Ok where
  rdi := @fun H ρ cs x => ⟨fun h => by
    obtain ⟨A0, n0, c0, s0, A1, n1, c1, s1, A2, n2, c2, s2, A3, n3, c3, s3, A4, n4, c4, s4, h, h0, h1, h2, h3, h4⟩ := (show Dt.rd (α := cycle_division) H cs x from h)
    subst h
    exact ⟨_, _, rfl, rfl, _, _, rfl, ⟨A0, n0, c0, s0, rfl, h0⟩, _, _, rfl, ⟨A1, n1, c1, s1, rfl, h1⟩, _, _, rfl, ⟨A2, n2, c2, s2, rfl, h2⟩, _, _, rfl, ⟨A3, n3, c3, s3, rfl, h3⟩, _, _, rfl, ⟨A4, n4, c4, s4, rfl, h4⟩, rfl⟩, fun h => by
    obtain ⟨v0, r0, e0, p0, v1, r1, e1, ⟨A0, n0, c0, s0, p1, h0⟩, v2, r2, e2, ⟨A1, n1, c1, s1, p2, h1⟩, v3, r3, e3, ⟨A2, n2, c2, s2, p3, h2⟩, v4, r4, e4, ⟨A3, n3, c3, s3, p4, h3⟩, v5, r5, e5, ⟨A4, n4, c4, s4, p5, h4⟩, e⟩ := h
    have e : r5 = [] := e
    subst e
    subst e5
    subst e4
    subst e3
    subst e2
    subst e1
    subst e0
    have p0 : v0 = _ := p0
    subst p0
    subst p1
    subst p2
    subst p3
    subst p4
    subst p5
    exact (show Dt.rd (α := cycle_division) H _ x from ⟨A0, n0, c0, s0, A1, n1, c1, s1, A2, n2, c2, s2, A3, n3, c3, s3, A4, n4, c4, s4, rfl, h0, h1, h2, h3, h4⟩)⟩
  cq := @fun l x h => by
    change ofc79 l = some x at h
    unfold ofc79 at h
    split at h
    · obtain ⟨v0, h0, h⟩ := bindS h
      obtain ⟨v1, h1, h⟩ := bindS h
      obtain ⟨v2, h2, h⟩ := bindS h
      obtain ⟨v3, h3, h⟩ := bindS h
      obtain ⟨v4, h4, h⟩ := bindS h
      obtain ⟨v5, h5, h⟩ := bindS h
      cases h
      exact ⟨_, _, rfl, xI_cq h0, _, _, rfl, xS_cq h1, _, _, rfl, xS_cq h2, _, _, rfl, xS_cq h3, _, _, rfl, xS_cq h4, _, _, rfl, xS_cq h5, rfl⟩
    · cases h
  eqc := fun d a b c1 c2 hd h1 h2 => by cases hd
def ofc186 : List (SV DD) → Option (DD 186)
 | [a0, a1] => (xI a0).bind fun v0 => (xI a1).bind fun v1 => some ⟨v0, v1⟩
 | _ => none
def ce186 : CE DD := ⟨186, fun x => [.i .i64 (x.volume), .i .i64 (x.sector)], ofc186, some (inferInstanceAs (DecidableEq coalesce_place))⟩
theorem sc186 (a b : coalesce_place) : (([.i .i64 (a.volume), .i .i64 (a.sector)] : List Sc) = [.i .i64 (b.volume), .i .i64 (b.sector)]) ↔ a = b := by
  cases a; cases b; simp
theorem ceOk186 : ce186.Ok where
  rdi := @fun H ρ cs x => ⟨fun h => by
    obtain h := (show Dt.rd (α := coalesce_place) H cs x from h)
    subst h
    exact ⟨_, _, rfl, rfl, _, _, rfl, rfl, rfl⟩, fun h => by
    obtain ⟨v0, r0, e0, p0, v1, r1, e1, p1, e⟩ := h
    have e : r1 = [] := e
    subst e
    subst e1
    subst e0
    have p0 : v0 = _ := p0
    subst p0
    have p1 : v1 = _ := p1
    subst p1
    exact (show Dt.rd (α := coalesce_place) H _ x from rfl)⟩
  cq := @fun l x h => by
    change ofc186 l = some x at h
    unfold ofc186 at h
    split at h
    · obtain ⟨v0, h0, h⟩ := bindS h
      obtain ⟨v1, h1, h⟩ := bindS h
      cases h
      exact ⟨_, _, rfl, xI_cq h0, _, _, rfl, xI_cq h1, rfl⟩
    · cases h
  eqc := fun d a b c1 c2 hd h1 h2 => by
    cases h1; cases h2
    exact sc186 a b
def ofc198 : List (SV DD) → Option (DD 198)
 | [a0] => (xW a0).bind fun v0 => some v0
 | _ => none
def ce198 : CE DD := ⟨198, fun x => [.w (x)], ofc198, none⟩
theorem ceOk198 : ce198.Ok where
  rdi := @fun H ρ cs x => ⟨fun h => by
    obtain h := (show Dt.rd (α := BitVec 64) H cs x from h)
    subst h
    exact ⟨_, _, rfl, rfl, rfl⟩, fun h => by
    obtain ⟨v0, r0, e0, p0, e⟩ := h
    have e : r0 = [] := e
    subst e
    subst e0
    have p0 : v0 = _ := p0
    subst p0
    exact (show Dt.rd (α := BitVec 64) H _ x from rfl)⟩
  cq := @fun l x h => by
    change ofc198 l = some x at h
    unfold ofc198 at h
    split at h
    · obtain ⟨v0, h0, h⟩ := bindS h
      cases h
      exact ⟨_, _, rfl, xW_cq h0, rfl⟩
    · cases h
  eqc := fun d a b c1 c2 hd h1 h2 => by cases hd
def ofc222 : List (SV DD) → Option (DD 222)
 | [a0] => (xW a0).bind fun v0 => some v0
 | _ => none
def ce222 : CE DD := ⟨222, fun x => [.w (x)], ofc222, none⟩
theorem ceOk222 : ce222.Ok where
  rdi := @fun H ρ cs x => ⟨fun h => by
    obtain h := (show Dt.rd (α := BitVec 64) H cs x from h)
    subst h
    exact ⟨_, _, rfl, rfl, rfl⟩, fun h => by
    obtain ⟨v0, r0, e0, p0, e⟩ := h
    have e : r0 = [] := e
    subst e
    subst e0
    have p0 : v0 = _ := p0
    subst p0
    exact (show Dt.rd (α := BitVec 64) H _ x from rfl)⟩
  cq := @fun l x h => by
    change ofc222 l = some x at h
    unfold ofc222 at h
    split at h
    · obtain ⟨v0, h0, h⟩ := bindS h
      cases h
      exact ⟨_, _, rfl, xW_cq h0, rfl⟩
    · cases h
  eqc := fun d a b c1 c2 hd h1 h2 => by cases hd
def ofc151 : List (SV DD) → Option (DD 151)
 | [a0] => (xS 23 a0).bind fun v0 => some v0
 | _ => none
def ce151 : CE DD := ⟨151, fun x => [.fsl 23 (x)], ofc151, none⟩
theorem ceOk151 : ce151.Ok where
  rdi := @fun H ρ cs x => ⟨fun h => by
    obtain ⟨A0, n0, c0, s0, h, h0⟩ := (show Dt.rd (α := List (List api_Write)) H cs x from h)
    subst h
    exact ⟨_, _, rfl, ⟨A0, n0, c0, s0, rfl, h0⟩, rfl⟩, fun h => by
    obtain ⟨v0, r0, e0, ⟨A0, n0, c0, s0, p0, h0⟩, e⟩ := h
    have e : r0 = [] := e
    subst e
    subst e0
    subst p0
    exact (show Dt.rd (α := List (List api_Write)) H _ x from ⟨A0, n0, c0, s0, rfl, h0⟩)⟩
  cq := @fun l x h => by
    change ofc151 l = some x at h
    unfold ofc151 at h
    split at h
    · obtain ⟨v0, h0, h⟩ := bindS h
      cases h
      exact ⟨_, _, rfl, xS_cq h0, rfl⟩
    · cases h
  eqc := fun d a b c1 c2 hd h1 h2 => by cases hd
def ofc195 : List (SV DD) → Option (DD 195)
 | [a0, a1] => (xI a0).bind fun v0 => (xI a1).bind fun v1 => some ⟨v0, v1⟩
 | _ => none
def ce195 : CE DD := ⟨195, fun x => [.i .i64 (x.Start), .i .i64 (x.Count)], ofc195, some (inferInstanceAs (DecidableEq api_Extent))⟩
theorem sc195 (a b : api_Extent) : (([.i .i64 (a.Start), .i .i64 (a.Count)] : List Sc) = [.i .i64 (b.Start), .i .i64 (b.Count)]) ↔ a = b := by
  cases a; cases b; simp
theorem ceOk195 : ce195.Ok where
  rdi := @fun H ρ cs x => ⟨fun h => by
    obtain h := (show Dt.rd (α := api_Extent) H cs x from h)
    subst h
    exact ⟨_, _, rfl, rfl, _, _, rfl, rfl, rfl⟩, fun h => by
    obtain ⟨v0, r0, e0, p0, v1, r1, e1, p1, e⟩ := h
    have e : r1 = [] := e
    subst e
    subst e1
    subst e0
    have p0 : v0 = _ := p0
    subst p0
    have p1 : v1 = _ := p1
    subst p1
    exact (show Dt.rd (α := api_Extent) H _ x from rfl)⟩
  cq := @fun l x h => by
    change ofc195 l = some x at h
    unfold ofc195 at h
    split at h
    · obtain ⟨v0, h0, h⟩ := bindS h
      obtain ⟨v1, h1, h⟩ := bindS h
      cases h
      exact ⟨_, _, rfl, xI_cq h0, _, _, rfl, xI_cq h1, rfl⟩
    · cases h
  eqc := fun d a b c1 c2 hd h1 h2 => by
    cases h1; cases h2
    exact sc195 a b
def ofc148 : List (SV DD) → Option (DD 148)
 | [a0] => (xS 195 a0).bind fun v0 => some v0
 | _ => none
def ce148 : CE DD := ⟨148, fun x => [.fsl 195 (x)], ofc148, none⟩
theorem ceOk148 : ce148.Ok where
  rdi := @fun H ρ cs x => ⟨fun h => by
    obtain ⟨A0, n0, c0, s0, h, h0⟩ := (show Dt.rd (α := List api_Extent) H cs x from h)
    subst h
    exact ⟨_, _, rfl, ⟨A0, n0, c0, s0, rfl, h0⟩, rfl⟩, fun h => by
    obtain ⟨v0, r0, e0, ⟨A0, n0, c0, s0, p0, h0⟩, e⟩ := h
    have e : r0 = [] := e
    subst e
    subst e0
    subst p0
    exact (show Dt.rd (α := List api_Extent) H _ x from ⟨A0, n0, c0, s0, rfl, h0⟩)⟩
  cq := @fun l x h => by
    change ofc148 l = some x at h
    unfold ofc148 at h
    split at h
    · obtain ⟨v0, h0, h⟩ := bindS h
      cases h
      exact ⟨_, _, rfl, xS_cq h0, rfl⟩
    · cases h
  eqc := fun d a b c1 c2 hd h1 h2 => by cases hd
def ofc77 : List (SV DD) → Option (DD 77)
 | [a0] => (xS 4 a0).bind fun v0 => some v0
 | _ => none
def ce77 : CE DD := ⟨77, fun x => [.fsl 4 (x)], ofc77, none⟩
theorem ceOk77 : ce77.Ok where
  rdi := @fun H ρ cs x => ⟨fun h => by
    obtain ⟨A0, n0, c0, s0, h, h0⟩ := (show Dt.rd (α := List Bool) H cs x from h)
    subst h
    exact ⟨_, _, rfl, ⟨A0, n0, c0, s0, rfl, h0⟩, rfl⟩, fun h => by
    obtain ⟨v0, r0, e0, ⟨A0, n0, c0, s0, p0, h0⟩, e⟩ := h
    have e : r0 = [] := e
    subst e
    subst e0
    subst p0
    exact (show Dt.rd (α := List Bool) H _ x from ⟨A0, n0, c0, s0, rfl, h0⟩)⟩
  cq := @fun l x h => by
    change ofc77 l = some x at h
    unfold ofc77 at h
    split at h
    · obtain ⟨v0, h0, h⟩ := bindS h
      cases h
      exact ⟨_, _, rfl, xS_cq h0, rfl⟩
    · cases h
  eqc := fun d a b c1 c2 hd h1 h2 => by cases hd
def tab : Tb DD := [ce4, ce3, ce130, ce70, ce29, ce68, ce39, ce23, ce25, ce30, ce22, ce38, ce5, ce52, ce79, ce186, ce198, ce222, ce151, ce195, ce148, ce77]
theorem tabOk : TbOk tab := ⟨ceOk4, ceOk3, ceOk130, ceOk70, ceOk29, ceOk68, ceOk39, ceOk23, ceOk25, ceOk30, ceOk22, ceOk38, ceOk5, ceOk52, ceOk79, ceOk186, ceOk198, ceOk222, ceOk151, ceOk195, ceOk148, ceOk77, trivial⟩
theorem rd3 : ReadsD Tryz.prog 3 (Int) := ReadsD.int Tryz.underlying3 (by kernel_rfl)
theorem rd22 : ReadsD Tryz.prog 22 (List Int) := ReadsD.slice Tryz.underlying22 (by kernel_rfl) rd3 (by decide)
theorem rd130 : ReadsD Tryz.prog 130 (Sec) := ReadsD.sec Tryz.underlying130 Tryz.underlying5 (by kernel_rfl) (by kernel_rfl)
theorem rd68 : ReadsD Tryz.prog 68 (List Sec) := ReadsD.slice Tryz.underlying68 (by kernel_rfl) rd130 (by decide)
instance rg_api_Write : Rg api_Write := ⟨fun x => Rg.rg x.Volume ∧ Rg.rg x.Start ∧ Rg.rg x.Data⟩
theorem rd70 : ReadsD Tryz.prog 70 (api_Write) := (@Reads.struct Tryz.prog 70 _ (Int × Int × List Sec × Unit) (@datProd _ _ (datD (Int)) (@datProd _ _ (datD (Int)) (@datProd _ _ (datD (List Sec)) datUnit))) Tryz.underlying70 (by kernel_rfl) (@Fields.cons _ _ _ _ _ _ (datD (Int)) _ rfl rd3 (@Fields.cons _ _ _ _ _ _ (datD (Int)) _ rfl rd3 (@Fields.cons _ _ _ _ _ _ (datD (List Sec)) _ rfl rd68 (.nil _))))).map rfl fun {H cs a} h => by
  obtain ⟨a0, a1, a2, _⟩ := a
  obtain ⟨_, _, rfl, ⟨rfl, r0⟩, _, _, rfl, ⟨rfl, r1⟩, _, _, rfl, ⟨⟨A3, n3, c3, s3, rfl, hF3⟩, r2⟩, hz⟩ := h
  cases hz
  exact ⟨⟨a0, a1, a2⟩, ⟨A3, n3, c3, s3, rfl, hF3⟩, r0, r1, r2⟩
theorem rd23 : ReadsD Tryz.prog 23 (List api_Write) := ReadsD.slice Tryz.underlying23 (by kernel_rfl) rd70 (by decide)
instance rg_api_Cycle : Rg api_Cycle := ⟨fun x => Rg.rg x.Base ∧ Rg.rg x.Number ∧ Rg.rg x.Time ∧ Rg.rg x.Positions ∧ Rg.rg x.Writes⟩
theorem rd29 : ReadsD Tryz.prog 29 (api_Cycle) := (@Reads.struct Tryz.prog 29 _ (Int × Int × Int × List Int × List api_Write × Unit) (@datProd _ _ (datD (Int)) (@datProd _ _ (datD (Int)) (@datProd _ _ (datD (Int)) (@datProd _ _ (datD (List Int)) (@datProd _ _ (datD (List api_Write)) datUnit))))) Tryz.underlying29 (by kernel_rfl) (@Fields.cons _ _ _ _ _ _ (datD (Int)) _ rfl rd3 (@Fields.cons _ _ _ _ _ _ (datD (Int)) _ rfl rd3 (@Fields.cons _ _ _ _ _ _ (datD (Int)) _ rfl rd3 (@Fields.cons _ _ _ _ _ _ (datD (List Int)) _ rfl rd22 (@Fields.cons _ _ _ _ _ _ (datD (List api_Write)) _ rfl rd23 (.nil _))))))).map rfl fun {H cs a} h => by
  obtain ⟨a0, a1, a2, a3, a4, _⟩ := a
  obtain ⟨_, _, rfl, ⟨rfl, r0⟩, _, _, rfl, ⟨rfl, r1⟩, _, _, rfl, ⟨rfl, r2⟩, _, _, rfl, ⟨⟨A8, n8, c8, s8, rfl, hF8⟩, r3⟩, _, _, rfl, ⟨⟨A10, n10, c10, s10, rfl, hF10⟩, r4⟩, hz⟩ := h
  cases hz
  exact ⟨⟨a0, a1, a2, a3, a4⟩, ⟨A8, n8, c8, s8, A10, n10, c10, s10, rfl, hF8, hF10⟩, r0, r1, r2, r3, r4⟩
theorem rd39 : ReadsD Tryz.prog 39 (List (List Sec)) := ReadsD.slice Tryz.underlying39 (by kernel_rfl) rd68 (by decide)
end Go.Proofs.YtbnfefbhalpceaaGreat
namespace Go.Proofs.YtbnfefbhalpceaaGreat
open Go.RowKit Go.ChangeShapes Go.WideShapes Go.ChangeAt
theorem Tryz.own : ownKnob Tryz.prog.godebug = none := by kernel_rfl
theorem Tryz.laidOut : laidOutB Tryz.prog = true := by kernel_rfl
theorem lawRes (y : TupD DD [4]) (hy : y.1 = true) {H : Hp} {v : Value} {L : List Ent} (hr : ResR Tryz.prog tab [4] [[false]] y H v L) : ∃ z, z = true ∧ v = .bool z ∧ L = [] := by
  obtain ⟨ρ, _, _, _, _, h1, h2⟩ := hr 0 (fun _ => none) (fun _ _ => rfl) _ _ _ (show resE Tryz.prog tab _ _ y 0 = some (.b y.1, [], 0) by kernel_rfl)
  exact ⟨y.1, hy, h1, h2⟩
theorem pkw29 (v : Value) (cs : List Value) : PkR Tryz.prog 29 v cs = (v = .agg cs.toArray) := by kernel_rfl
theorem pkw39 (v : Value) (cs : List Value) : PkR Tryz.prog 39 v cs = (cs = [v]) := by kernel_rfl
end Go.Proofs.YtbnfefbhalpceaaGreat
namespace Go.Proofs.YtbnfefbhalpceaaGreat
open Go.RowKit
def ref22_Few_J2 (x0 : List api_Write) (v1 : Int) (rec1 : (Int) → Prop) (Φ : Bool → Prop) : Bool → Prop
 | v2 =>
 (v2 = true →
 inX v1 x0.length ∧
 (24 < (((ix x0 v1).Data).length : Int) →
 Φ false) ∧
 (¬ (24 < (((ix x0 v1).Data).length : Int)) →
 inI (v1 + 1) ∧
 rec1 (v1 + 1))) ∧
 (¬ (v2 = true) →
 Φ (decide ((x0.length : Int) ≤ 40)))
def ref22_Few_L1 (x0 : List api_Write) (Φ : Bool → Prop) : (Int) → ((Int) → Prop) → Prop
 | v1, rec1 =>
 Join (ref22_Few_J2 x0 v1 rec1 Φ) fun J2 =>
 (v1 < (x0.length : Int) →
 J2 (decide (v1 < 60))) ∧
 (¬ (v1 < (x0.length : Int)) →
 J2 false)
def ref22_Few_W (x0 : List api_Write) (Φ : Bool → Prop) : Prop :=
 LoopW (ref22_Few_L1 x0 Φ) 0
def ref23_Few_W (x0 : api_Cycle) (Φ : Bool → Prop) : Prop :=
 ((x0.Positions.length : Int) ≤ 40 →
 ref22_Few_W x0.Writes fun v1 =>
 Φ v1) ∧
 (¬ ((x0.Positions.length : Int) ≤ 40) →
 Φ false)
def ref07_Few_L1 (x0 : List (List Sec)) (Φ : Bool → Prop) : (Int) → ((Int) → Prop) → Prop
 | v1, rec1 =>
 (v1 < (x0.length : Int) →
 inX v1 x0.length ∧
 (24 < ((ix x0 v1).length : Int) →
 Φ false) ∧
 (¬ (24 < ((ix x0 v1).length : Int)) →
 inI (v1 + 1) ∧
 rec1 (v1 + 1))) ∧
 (¬ (v1 < (x0.length : Int)) →
 Φ true)
def ref07_Few_W (x0 : List (List Sec)) (Φ : Bool → Prop) : Prop :=
 (9 < (x0.length : Int) →
 Φ false) ∧
 (¬ (9 < (x0.length : Int)) →
 LoopW (ref07_Few_L1 x0 Φ) 0)
def Z0 (x0 : Int) (Φ : Bool → Prop) : Prop :=
 (x0 < 1 →
 Φ true) ∧
 (¬ (x0 < 1) →
 Φ (decide (4096 < x0)))
def Z1 (x0 : List Int) (Φ : Int → Prop) : (Int) → ((Int) → Prop) → Prop
 | v1, rec1 =>
 (v1 < (x0.length : Int) →
 inX v1 x0.length ∧
 Z0 (ix x0 v1) fun v2 =>
 (v2 = true →
 (0 ≤ v1 →
 Φ 2) ∧
 (¬ (0 ≤ v1) →
 Φ 0)) ∧
 (¬ (v2 = true) →
 inI (v1 + 1) ∧
 rec1 (v1 + 1))) ∧
 (¬ (v1 < (x0.length : Int)) →
 (0 ≤ ((-1) : Int) →
 Φ 2) ∧
 (¬ (0 ≤ ((-1) : Int)) →
 Φ 0))
def Z2 (x0 : List Int) (Φ : Int → Prop) : Prop :=
 ((x0.length : Int) < 1 →
 Φ 6) ∧
 (¬ ((x0.length : Int) < 1) →
 (8 < (x0.length : Int) →
 Φ 6) ∧
 (¬ (8 < (x0.length : Int)) →
 LoopW (Z1 x0 Φ) 0))
def image_New_1_W (x0 : Int) (Φ : List Sec → Prop) : Prop :=
 0 ≤ x0 ∧
 lenOk x0.toNat 8 ∧
 Φ (List.replicate x0.toNat (sec0 : Sec))
def image_New_L1 (x0 : List Int) (Φ : List (List Sec) × Int → Prop) : (Int × List (List Sec)) → ((Int × List (List Sec)) → Prop) → Prop
 | (v2, v3), rec1 =>
 (v2 < (x0.length : Int) →
 inX v2 x0.length ∧
 image_New_1_W (ix x0 v2) fun v4 =>
 lenOk (v3 ++ ([v4] : List (List Sec))).length 24 ∧
 inI (v2 + 1) ∧
 rec1 ((v2 + 1), (v3 ++ ([v4] : List (List Sec))))) ∧
 (¬ (v2 < (x0.length : Int)) →
 Φ (v3, 0))
def image_New_W (x0 : List Int) (Φ : List (List Sec) × Int → Prop) : Prop :=
 Z2 x0 fun v1 =>
 (v1 ≠ 0 →
 Φ (([] : List (List Sec)), v1)) ∧
 (¬ (v1 ≠ 0) →
 0 ≤ (x0.length : Int) ∧
 lenOk (x0.length : Int).toNat 24 ∧
 LoopW (image_New_L1 x0 Φ) (0, ([] : List (List Sec))))
def cycle_in_W (x0 : Int) (x1 : Int) (x2 : Int) (Φ : Bool → Prop) : Prop :=
 (x1 ≤ x0 →
 Φ (decide (x0 ≤ x2))) ∧
 (¬ (x1 ≤ x0) →
 Φ false)
def Z3 (x0 : List Int) (Φ : List Int → Prop) : Prop :=
 (x0 = [] →
 Φ ([] : List Int)) ∧
 (
 lenOk (([] : List Int) ++ x0).length 8 ∧
 Φ (([] : List Int) ++ x0))
def cycle_Open_W (x0 : List Int) (x1 : Int) (x2 : Int) (Φ : api_Capture × Int → Prop) : Prop :=
 image_New_W x0 fun v1 =>
 (v1.2 ≠ 0 →
 Φ ((api_Capture.mk 0 ([] : List Int) ([] : List Int) ([] : List Int) ([] : List api_Write)), v1.2)) ∧
 (¬ (v1.2 ≠ 0) →
 cycle_in_W x1 1 8 fun v2 =>
 (¬ (v2 = true) →
 Φ ((api_Capture.mk 0 ([] : List Int) ([] : List Int) ([] : List Int) ([] : List api_Write)), 6)) ∧
 (¬ (¬ (v2 = true)) →
 cycle_in_W x2 0 1073741823 fun v3 =>
 (¬ (v3 = true) →
 Φ ((api_Capture.mk 0 ([] : List Int) ([] : List Int) ([] : List Int) ([] : List api_Write)), 2)) ∧
 (¬ (¬ (v3 = true)) →
 ∃ v4 : List Int × Unit, Z3 x0 (fun z => (z, ()) = v4) ∧
 0 ≤ x1 ∧
 lenOk x1.toNat 8 ∧
 Φ ((api_Capture.mk x2 v4.1 (List.replicate x1.toNat (0 : Int)) ([] : List Int) ([] : List api_Write)), 0))))
def Z4 (x0 : Int) (x1 : Int) (x2 : List (BitVec 8)) (Φ : api_Write → Prop) : (Int × List Sec) → ((Int × List Sec) → Prop) → Prop
 | (v1, v2), rec1 =>
 (v1 < (x2.length : Int) →
 inX v1 x2.length ∧
 lenOk (v2 ++ ([(Sec.mk (ix x2 v1) (0#8) (0#8) (0#8) (0#8) (0#8) (0#8) (0#8))] : List Sec)).length 8 ∧
 inI (v1 + 1) ∧
 rec1 ((v1 + 1), (v2 ++ ([(Sec.mk (ix x2 v1) (0#8) (0#8) (0#8) (0#8) (0#8) (0#8) (0#8))] : List Sec)))) ∧
 (¬ (v1 < (x2.length : Int)) →
 Φ (api_Write.mk x0 x1 v2))
def law23_write_W (x0 : Int) (x1 : Int) (x2 : List (BitVec 8)) (Φ : api_Write → Prop) : Prop :=
 LoopW (Z4 x0 x1 x2 Φ) (0, ([] : List Sec))
def Z5 (x0 : Int) (Φ : Bool → Prop) : Prop :=
 cycle_in_W x0 0 1073741824 fun v1 =>
 Φ (decide (¬ (v1 = true)))
def Z6 (x0 : List Int) (Φ : Int → Prop) : (Int) → ((Int) → Prop) → Prop
 | v2, rec1 =>
 (v2 < (x0.length : Int) →
 inX v2 x0.length ∧
 Z5 (ix x0 v2) fun v3 =>
 (v3 = true →
 (0 ≤ v2 →
 Φ 2) ∧
 (¬ (0 ≤ v2) →
 Φ 0)) ∧
 (¬ (v3 = true) →
 inI (v2 + 1) ∧
 rec1 (v2 + 1))) ∧
 (¬ (v2 < (x0.length : Int)) →
 (0 ≤ ((-1) : Int) →
 Φ 2) ∧
 (¬ (0 ≤ ((-1) : Int)) →
 Φ 0))
def Z7 (x0 : List Int) (x1 : Int) (Φ : Int → Prop) : Prop :=
 cycle_in_W (x0.length : Int) x1 8 fun v1 =>
 (¬ (v1 = true) →
 Φ 6) ∧
 (¬ (¬ (v1 = true)) →
 LoopW (Z6 x0 Φ) 0)
def Z8 (x0 : List Sec) (Φ : Int → Prop) : Prop :=
 Φ (x0.length : Int)
def Z9 (x0 : List (List Sec)) (Φ : List Int → Prop) : (Int × List Int) → ((Int × List Int) → Prop) → Prop
 | (v1, v2), rec1 =>
 (v1 < (x0.length : Int) →
 inX v1 x0.length ∧
 Z8 (ix x0 v1) fun v3 =>
 lenOk (v2 ++ ([v3] : List Int)).length 8 ∧
 inI (v1 + 1) ∧
 rec1 ((v1 + 1), (v2 ++ ([v3] : List Int)))) ∧
 (¬ (v1 < (x0.length : Int)) →
 Φ v2)
def image_sizes_W (x0 : List (List Sec)) (Φ : List Int → Prop) : Prop :=
 0 ≤ (x0.length : Int) ∧
 lenOk (x0.length : Int).toNat 8 ∧
 LoopW (Z9 x0 Φ) (0, ([] : List Int))
def image_Check_W (x0 : List (List Sec)) (Φ : Int → Prop) : Prop :=
 image_sizes_W x0 fun v1 =>
 Z2 v1 fun v2 =>
 Φ v2
def image_fits_J1 (x0 : List (List Sec)) (x1 : api_Write) (Φ : Int → Prop) : Bool → Prop
 | v1 =>
 (v1 = true →
 Φ 7) ∧
 (¬ (v1 = true) →
 ((x1.Data.length : Int) = 0 →
 Φ 1) ∧
 (¬ ((x1.Data.length : Int) = 0) →
 (x1.Start < 0 →
 Φ 2) ∧
 (¬ (x1.Start < 0) →
 inX x1.Volume x0.length ∧
 inI (((ix x0 x1.Volume).length : Int) - (x1.Data.length : Int)) ∧
 ((((ix x0 x1.Volume).length : Int) - (x1.Data.length : Int)) < x1.Start →
 Φ 2) ∧
 (¬ ((((ix x0 x1.Volume).length : Int) - (x1.Data.length : Int)) < x1.Start) →
 Φ 0))))
def image_fits_W (x0 : List (List Sec)) (x1 : api_Write) (Φ : Int → Prop) : Prop :=
 Join (image_fits_J1 x0 x1 Φ) fun J1 =>
 (x1.Volume < 0 →
 J1 true) ∧
 (¬ (x1.Volume < 0) →
 J1 (decide ((x0.length : Int) ≤ x1.Volume)))
def image_Fits_W (x0 : List (List Sec)) (x1 : api_Write) (Φ : Int → Prop) : Prop :=
 image_Check_W x0 fun v1 =>
 (v1 ≠ 0 →
 Φ v1) ∧
 (¬ (v1 ≠ 0) →
 image_fits_W x0 x1 fun v2 =>
 Φ v2)
def Z10 (x0 : List Sec) (Φ : List Sec → Prop) : Prop :=
 (x0 = [] →
 Φ ([] : List Sec)) ∧
 (
 lenOk (([] : List Sec) ++ x0).length 8 ∧
 Φ (([] : List Sec) ++ x0))
def Z11 (x0 : api_Write) (Φ : api_Write → Prop) : Prop :=
 Z10 x0.Data fun v1 =>
 Φ (api_Write.mk x0.Volume x0.Start v1)
def Z12 (x0 : api_Capture) (v1 : List Int × Unit) (v2 : List Int × Unit) (v3 : List Int × Unit) (Φ : api_Capture → Prop) : (Int × List api_Write) → ((Int × List api_Write) → Prop) → Prop
 | (v4, v5), rec1 =>
 (v4 < (x0.Writes.length : Int) →
 inX v4 x0.Writes.length ∧
 Z11 (ix x0.Writes v4) fun v6 =>
 lenOk (v5 ++ ([v6] : List api_Write)).length 40 ∧
 inI (v4 + 1) ∧
 rec1 ((v4 + 1), (v5 ++ ([v6] : List api_Write)))) ∧
 (¬ (v4 < (x0.Writes.length : Int)) →
 Φ (api_Capture.mk x0.Number v1.1 v2.1 v3.1 v5))
def Z13 (x0 : api_Capture) (Φ : api_Capture → Prop) : Prop :=
 ∃ v1 : List Int × Unit, Z3 x0.Sizes (fun z => (z, ()) = v1) ∧
 ∃ v2 : List Int × Unit, Z3 x0.Positions (fun z => (z, ()) = v2) ∧
 ∃ v3 : List Int × Unit, Z3 x0.Nodes (fun z => (z, ()) = v3) ∧
 LoopW (Z12 x0 v1 v2 v3 Φ) (0, ([] : List api_Write))
def cycle_Add_L1 (x0 : api_Capture) (x1 : Int) (x2 : api_Write) (v1 : List (List Sec) × Int) (Φ : api_Capture × Int → Prop) : (Int) → ((Int) → Prop) → Prop
 | v4, rec1 =>
 (v4 < (x0.Writes.length : Int) →
 inX v4 x0.Writes.length ∧
 inX v4 x0.Nodes.length ∧
 inI ((x0.Positions.length : Int) - 1) ∧
 cycle_in_W (ix x0.Nodes v4) 0 ((x0.Positions.length : Int) - 1) fun v5 =>
 (¬ (v5 = true) →
 Φ ((api_Capture.mk 0 ([] : List Int) ([] : List Int) ([] : List Int) ([] : List api_Write)), 7)) ∧
 (¬ (¬ (v5 = true)) →
 image_Fits_W v1.1 (ix x0.Writes v4) fun v6 =>
 (¬ (v6 = 0) →
 Φ ((api_Capture.mk 0 ([] : List Int) ([] : List Int) ([] : List Int) ([] : List api_Write)), v6)) ∧
 (¬ (¬ (v6 = 0)) →
 inI (v4 + 1) ∧
 rec1 (v4 + 1)))) ∧
 (¬ (v4 < (x0.Writes.length : Int)) →
 inI ((x0.Positions.length : Int) - 1) ∧
 cycle_in_W x1 0 ((x0.Positions.length : Int) - 1) fun v7 =>
 (¬ (v7 = true) →
 Φ ((api_Capture.mk 0 ([] : List Int) ([] : List Int) ([] : List Int) ([] : List api_Write)), 7)) ∧
 (¬ (¬ (v7 = true)) →
 image_Fits_W v1.1 x2 fun v8 =>
 (¬ (v8 = 0) →
 Φ ((api_Capture.mk 0 ([] : List Int) ([] : List Int) ([] : List Int) ([] : List api_Write)), v8)) ∧
 (¬ (¬ (v8 = 0)) →
 (¬ ((x0.Writes.length : Int) < 4096) →
 Φ ((api_Capture.mk 0 ([] : List Int) ([] : List Int) ([] : List Int) ([] : List api_Write)), 11)) ∧
 (¬ (¬ ((x0.Writes.length : Int) < 4096)) →
 Z13 x0 fun v9 =>
 lenOk (v9.Nodes ++ ([x1] : List Int)).length 8 ∧
 ∃ v10 : api_Write × Unit, Z11 x2 (fun z => (z, ()) = v10) ∧
 lenOk (v9.Writes ++ ([v10.1] : List api_Write)).length 40 ∧
 Φ ((api_Capture.mk v9.Number v9.Sizes v9.Positions (v9.Nodes ++ ([x1] : List Int)) (v9.Writes ++ ([v10.1] : List api_Write))), 0)))))
def cycle_Add_W (x0 : api_Capture) (x1 : Int) (x2 : api_Write) (Φ : api_Capture × Int → Prop) : Prop :=
 image_New_W x0.Sizes fun v1 =>
 (¬ (v1.2 = 0) →
 Φ ((api_Capture.mk 0 ([] : List Int) ([] : List Int) ([] : List Int) ([] : List api_Write)), v1.2)) ∧
 (¬ (¬ (v1.2 = 0)) →
 cycle_in_W x0.Number 0 1073741823 fun v2 =>
 (¬ (v2 = true) →
 Φ ((api_Capture.mk 0 ([] : List Int) ([] : List Int) ([] : List Int) ([] : List api_Write)), 2)) ∧
 (¬ (¬ (v2 = true)) →
 Z7 x0.Positions 1 fun v3 =>
 (¬ (v3 = 0) →
 Φ ((api_Capture.mk 0 ([] : List Int) ([] : List Int) ([] : List Int) ([] : List api_Write)), v3)) ∧
 (¬ (¬ (v3 = 0)) →
 ((x0.Nodes.length : Int) = (x0.Writes.length : Int) →
 (¬ ((x0.Writes.length : Int) ≤ 4096) →
 Φ ((api_Capture.mk 0 ([] : List Int) ([] : List Int) ([] : List Int) ([] : List api_Write)), 6)) ∧
 (¬ (¬ ((x0.Writes.length : Int) ≤ 4096)) →
 LoopW (cycle_Add_L1 x0 x1 x2 v1 Φ) 0)) ∧
 (¬ ((x0.Nodes.length : Int) = (x0.Writes.length : Int)) →
 Φ ((api_Capture.mk 0 ([] : List Int) ([] : List Int) ([] : List Int) ([] : List api_Write)), 6)))))
def Z14 (x0 : Int) (Φ : Bool → Prop) : Prop :=
 Φ (decide (0 < x0))
def Z15 (x0 : cycle_division) (x1 : Bool) : (List (Int × api_Write × Unit) × Int) → ((List (Int × api_Write × Unit) × Int) → Prop) → Prop
 | (l1, v1), rec1 =>
 (v1 < (x0.c.Writes.length : Int) →
 inX v1 x0.c.Writes.length ∧
 inX v1 x0.part.length ∧
 ((ix x0.part v1) = x1 →
 Yl l1 fun v2 r3 => (v1, (ix x0.c.Writes v1), ()) = v2 ∧ (
 inI (v1 + 1) ∧
 rec1 (r3, (v1 + 1))) ∧ (
 True)) ∧
 (¬ ((ix x0.part v1) = x1) →
 inI (v1 + 1) ∧
 rec1 (l1, (v1 + 1)))) ∧
 (¬ (v1 < (x0.c.Writes.length : Int)) →
 l1 = [])
def cycle_division_writes_1_I (x0 : cycle_division) (x1 : Bool) (l : List (Int × api_Write × Unit)) : Prop :=
 LoopW (Z15 x0 x1) (l, 0)
def Z16 (x0 : api_Write) (Φ : Int → Prop) : Bool → Prop
 | v1 =>
 (v1 = true →
 Φ 7) ∧
 (¬ (v1 = true) →
 ((x0.Data.length : Int) = 0 →
 Φ 1) ∧
 (¬ ((x0.Data.length : Int) = 0) →
 (x0.Start < 0 →
 Φ 2) ∧
 (¬ (x0.Start < 0) →
 inI (4096 - (x0.Data.length : Int)) ∧
 ((4096 - (x0.Data.length : Int)) < x0.Start →
 Φ 2) ∧
 (¬ ((4096 - (x0.Data.length : Int)) < x0.Start) →
 Φ 0))))
def Z17 (x0 : api_Write) (Φ : Int → Prop) : Prop :=
 Join (Z16 x0 Φ) fun J1 =>
 (x0.Volume < 0 →
 J1 true) ∧
 (¬ (x0.Volume < 0) →
 J1 (decide (8 ≤ x0.Volume)))
def Z18 (x0 : coalesce_place) (Φ : coalesce_place → Prop) : Prop :=
 inI (x0.sector + 1) ∧
 Φ (coalesce_place.mk x0.volume (x0.sector + 1))
def Z19 (x0 : Int) (Φ : Bool → Prop) : Prop :=
 Φ (decide (x0 ≠ x0))
def Z20 (x0 : Int) (x1 : Int) (Φ : Int → Prop) : Prop :=
 Z19 x0 fun v1 =>
 Z19 x1 fun v2 =>
 (v1 = true →
 (v2 = true →
 Φ 0) ∧
 (¬ (v2 = true) →
 Φ (-1))) ∧
 (¬ (v1 = true) →
 (v2 = true →
 Φ 1) ∧
 (¬ (v2 = true) →
 (x0 < x1 →
 Φ (-1)) ∧
 (¬ (x0 < x1) →
 (x1 < x0 →
 Φ 1) ∧
 (¬ (x1 < x0) →
 Φ 0))))
def cmp_Or_int_L1 (x0 : List Int) (Φ : Int → Prop) : (Int) → ((Int) → Prop) → Prop
 | v1, rec1 =>
 (v1 < (x0.length : Int) →
 inX v1 x0.length ∧
 ((ix x0 v1) ≠ 0 →
 Φ (ix x0 v1)) ∧
 (¬ ((ix x0 v1) ≠ 0) →
 inI (v1 + 1) ∧
 rec1 (v1 + 1))) ∧
 (¬ (v1 < (x0.length : Int)) →
 Φ 0)
def cmp_Or_int_W (x0 : List Int) (Φ : Int → Prop) : Prop :=
 LoopW (cmp_Or_int_L1 x0 Φ) 0
def Z21 (x0 : coalesce_place) (x1 : coalesce_place) (Φ : Int → Prop) : Prop :=
 ∃ v1 : Int × Unit, Z20 x0.volume x1.volume (fun z => (z, ()) = v1) ∧
 ∃ v2 : Int × Unit, Z20 x0.sector x1.sector (fun z => (z, ()) = v2) ∧
 ∃ v3 : Int × Unit, cmp_Or_int_W ([v1.1, v2.1] : List Int) (fun z => (z, ()) = v3) ∧
 Φ v3.1
def pleB (a b : coalesce_place) : Bool := decide (a.volume < b.volume ∨ a.volume = b.volume ∧ a.sector ≤ b.sector)
def Z22 (xs : List coalesce_place) (Φ : List coalesce_place → Prop) : Prop := xs.length ≤ 1099511627776 ∧ Φ (sortG pleB xs)
def Z23 (x0 : List api_Write) (v3 : Int) (rec2 : (Int × (List (coalesce_place × Sec))) → Prop) (_ : List api_Write × Int → Prop) : (Int × Int × Int × (List (coalesce_place × Sec))) → ((Int × Int × Int × (List (coalesce_place × Sec))) → Prop) → Prop
 | (v5, v6, v7, v8), rec3 =>
 (v5 < (((ix x0 v3).Data).length : Int) →
 inX v5 ((ix x0 v3).Data).length ∧
 Z18 (coalesce_place.mk v6 v7) fun v9 =>
 inI (v5 + 1) ∧
 rec3 ((v5 + 1), v9.volume, v9.sector, (mput v8 (coalesce_place.mk v6 v7) (ix ((ix x0 v3).Data) v5)))) ∧
 (¬ (v5 < (((ix x0 v3).Data).length : Int)) →
 inI (v3 + 1) ∧
 rec2 ((v3 + 1), v8))
def Z24 (v4 : List (coalesce_place × Sec)) (v13 : List coalesce_place) (v14 : Int) (rec5 : (Int × Int × Int × List api_Write × List Sec) → Prop) (_ : List api_Write × Int → Prop) : List api_Write × List Sec → Prop
 | (v19, v20) =>
 inI ((v19.length : Int) - 1) ∧
 inX ((v19.length : Int) - 1) v19.length ∧
 ((v19.length : Int) - 1) + 1 = (v19.length : Int) ∧
 lenOk (v20 ++ ([(mget v4 (ix v13 v14) sec0)] : List Sec)).length 8 ∧
 Z18 (ix v13 v14) fun v21 =>
 inI (v14 + 1) ∧
 rec5 ((v14 + 1), v21.volume, v21.sector, v19, (v20 ++ ([(mget v4 (ix v13 v14) sec0)] : List Sec)))
def Z25 (v4 : List (coalesce_place × Sec)) (v13 : List coalesce_place) (Φ : List api_Write × Int → Prop) : (Int × Int × Int × List api_Write × List Sec) → ((Int × Int × Int × List api_Write × List Sec) → Prop) → Prop
 | (v14, v15, v16, v17, v18), rec5 =>
 (v14 < (v13.length : Int) →
 inX v14 v13.length ∧
 Join (Z24 v4 v13 v14 rec5 Φ) fun J6 =>
 ((ix v13 v14) ≠ (coalesce_place.mk v15 v16) →
 lenOk ((put v17 ((v17.length : Int) - 1) (api_Write.mk ((ix v17 ((v17.length : Int) - 1)).Volume) ((ix v17 ((v17.length : Int) - 1)).Start) v18)) ++ ([(api_Write.mk ((ix v13 v14).volume) ((ix v13 v14).sector) ([] : List Sec))] : List api_Write)).length 40 ∧
 J6 (((put v17 ((v17.length : Int) - 1) (api_Write.mk ((ix v17 ((v17.length : Int) - 1)).Volume) ((ix v17 ((v17.length : Int) - 1)).Start) v18)) ++ ([(api_Write.mk ((ix v13 v14).volume) ((ix v13 v14).sector) ([] : List Sec))] : List api_Write)), ([] : List Sec))) ∧
 (¬ ((ix v13 v14) ≠ (coalesce_place.mk v15 v16)) →
 J6 (v17, v18))) ∧
 (¬ (v14 < (v13.length : Int)) →
 Φ ((put v17 ((v17.length : Int) - 1) (api_Write.mk ((ix v17 ((v17.length : Int) - 1)).Volume) ((ix v17 ((v17.length : Int) - 1)).Start) v18)), 0))
def Z26 (v4 : List (coalesce_place × Sec)) (Φ : List api_Write × Int → Prop) : (((Nat × List Nat)) × List coalesce_place) → ((((Nat × List Nat)) × List coalesce_place) → Prop) → Prop
 | (v10, v11), rec4 =>
 v4.length = v10.1 ∧ ((∀ i, i < v4.length → i ∈ v10.2) →
 Z22 v11 fun v13 =>
 LoopW (Z25 v4 v13 Φ) (0, (-1), 0, ([] : List api_Write), ([] : List Sec))) ∧
 ∀ i12, i12 < v4.length → i12 ∉ v10.2 →
 v4.length = v10.1 ∧
 i12 < v4.length ∧
 lenOk (v11 ++ ([((ent v4 i12).1)] : List coalesce_place)).length 16 ∧
 rec4 ((v10.1, (i12 :: v10.2)), (v11 ++ ([((ent v4 i12).1)] : List coalesce_place)))
def Z27 (x0 : List api_Write) (Φ : List api_Write × Int → Prop) : (Int × (List (coalesce_place × Sec))) → ((Int × (List (coalesce_place × Sec))) → Prop) → Prop
 | (v3, v4), rec2 =>
 (v3 < (x0.length : Int) →
 inX v3 x0.length ∧
 LoopW (Z23 x0 v3 rec2 Φ) (0, (ix x0 v3).Volume, (ix x0 v3).Start, v4)) ∧
 (¬ (v3 < (x0.length : Int)) →
 0 ≤ (v4.length : Int) ∧
 lenOk (v4.length : Int).toNat 16 ∧
 LoopW (Z26 v4 Φ) ((v4.length, []), ([] : List coalesce_place)))
def Z28 (x0 : List api_Write) (Φ : List api_Write × Int → Prop) : (Int) → ((Int) → Prop) → Prop
 | v1, rec1 =>
 (v1 < (x0.length : Int) →
 inX v1 x0.length ∧
 Z17 (ix x0 v1) fun v2 =>
 (v2 ≠ 0 →
 Φ (([] : List api_Write), v2)) ∧
 (¬ (v2 ≠ 0) →
 inI (v1 + 1) ∧
 rec1 (v1 + 1))) ∧
 (¬ (v1 < (x0.length : Int)) →
 LoopW (Z27 x0 Φ) (0, ([] : List (coalesce_place × Sec))))
def Z29 (x0 : List api_Write) (Φ : List api_Write × Int → Prop) : Prop :=
 LoopW (Z28 x0 Φ) 0
def Z30 (v1 : api_Write) (v2 : List Sec) (rec1 : (List (Int × api_Write × Unit) × List Sec) → Prop) (v3 : Int × api_Write × Unit) (r4 : List (Int × api_Write × Unit)) (_ : api_Write → Prop) : (Int × List Sec) → ((Int × List Sec) → Prop) → Prop
 | (v6, v7), rec3 =>
 (v6 < (v2.length : Int) →
 inI (v1.Start + v6) ∧
 inI ((v1.Start + v6) - v3.2.1.Start) ∧
 inI ((v3.2.1.Data.length : Int) - 1) ∧
 cycle_in_W ((v1.Start + v6) - v3.2.1.Start) 0 ((v3.2.1.Data.length : Int) - 1) fun v8 =>
 (v8 = true →
 inX ((v1.Start + v6) - v3.2.1.Start) v3.2.1.Data.length ∧
 inX v6 v7.length ∧
 inI (v6 + 1) ∧
 rec3 ((v6 + 1), (put v7 v6 (ix v3.2.1.Data ((v1.Start + v6) - v3.2.1.Start))))) ∧
 (¬ (v8 = true) →
 inI (v6 + 1) ∧
 rec3 ((v6 + 1), v7))) ∧
 (¬ (v6 < (v2.length : Int)) →
 rec1 (r4, v7))
def Z31 (v1 : api_Write) (v2 : List Sec) (rec1 : (List (Int × api_Write × Unit) × List Sec) → Prop) (v3 : Int × api_Write × Unit) (r4 : List (Int × api_Write × Unit)) (Φ : api_Write → Prop) : Bool → Prop
 | v5 =>
 (v5 = true →
 rec1 (r4, v2)) ∧
 (¬ (v5 = true) →
 LoopW (Z30 v1 v2 rec1 v3 r4 Φ) (0, v2))
def Z32 (x1 : Int) (v1 : api_Write) (Φ : api_Write → Prop) : (List (Int × api_Write × Unit) × List Sec) → ((List (Int × api_Write × Unit) × List Sec) → Prop) → Prop
 | (lst, v2), rec1 =>
 match lst with
 | [] =>
 Φ (api_Write.mk v1.Volume v1.Start v2)
 | v3 :: r4 =>
 Join (Z31 v1 v2 rec1 v3 r4 Φ) fun J2 =>
 (v3.1 < x1 →
 J2 true) ∧
 (¬ (v3.1 < x1) →
 J2 (decide (v3.2.1.Volume ≠ v1.Volume)))
def Z33 (x0 : cycle_division) (x1 : Int) (x2 : api_Write) (Φ : api_Write → Prop) : Prop :=
 Z11 x2 fun v1 =>
 ∃ l9 : List (Int × api_Write × Unit), cycle_division_writes_1_I x0 true l9 ∧
 LoopW (Z32 x1 v1 Φ) (l9, v1.Data)
def Z34 (x0 : api_Capture) (x1 : Int) (v12 : List Bool) (v18 : List api_Write × Int) (v19 : List Int × Unit) (v20 : List Int × Unit) (v21 : List Int × Unit) (Φ : api_Capture × api_Cycle × Int → Prop) : (List (Int × api_Write × Unit) × (List Int × List api_Write)) → ((List (Int × api_Write × Unit) × (List Int × List api_Write)) → Prop) → Prop
 | (lst, v22, v23), rec6 =>
 match lst with
 | [] =>
 Φ ((api_Capture.mk (x0.Number + 1) v20.1 v21.1 v22 v23), (api_Cycle.mk x0.Number (x0.Number + 1) x1 v19.1 v18.1), 0)
 | v24 :: r25 =>
 inX v24.1 x0.Nodes.length ∧
 lenOk (v22 ++ ([(ix x0.Nodes v24.1)] : List Int)).length 8 ∧
 ∃ v26 : api_Write × Unit, Z33 (cycle_division.mk x0 v12) v24.1 v24.2.1 (fun z => (z, ()) = v26) ∧
 lenOk (v23 ++ ([v26.1] : List api_Write)).length 40 ∧
 rec6 (r25, ((v22 ++ ([(ix x0.Nodes v24.1)] : List Int)), (v23 ++ ([v26.1] : List api_Write))))
def Z35 (x0 : api_Capture) (x1 : Int) (x2 : List Int) (v12 : List Bool) (Φ : api_Capture × api_Cycle × Int → Prop) : (List (Int × api_Write × Unit) × List api_Write) → ((List (Int × api_Write × Unit) × List api_Write) → Prop) → Prop
 | (lst, v15), rec5 =>
 match lst with
 | [] =>
 Z29 v15 fun v18 =>
 (¬ (v18.2 = 0) →
 Φ ((api_Capture.mk 0 ([] : List Int) ([] : List Int) ([] : List Int) ([] : List api_Write)), (api_Cycle.mk 0 0 0 ([] : List Int) ([] : List api_Write)), v18.2)) ∧
 (¬ (¬ (v18.2 = 0)) →
 inI (x0.Number + 1) ∧
 ∃ v19 : List Int × Unit, Z3 x2 (fun z => (z, ()) = v19) ∧
 inI (x0.Number + 1) ∧
 ∃ v20 : List Int × Unit, Z3 x0.Sizes (fun z => (z, ()) = v20) ∧
 ∃ v21 : List Int × Unit, Z3 x2 (fun z => (z, ()) = v21) ∧
 ∃ l27 : List (Int × api_Write × Unit), cycle_division_writes_1_I (cycle_division.mk x0 v12) false l27 ∧
 LoopW (Z34 x0 x1 v12 v18 v19 v20 v21 Φ) (l27, (([] : List Int), ([] : List api_Write))))
 | v16 :: r17 =>
 lenOk (v15 ++ ([v16.2.1] : List api_Write)).length 40 ∧
 rec5 (r17, (v15 ++ ([v16.2.1] : List api_Write)))
def Z36 (x0 : api_Capture) (x1 : Int) (v12 : List Bool) (v32 : List api_Write × Int) (v33 : List Int × Unit) (v34 : List Int × Unit) (v35 : List Int × Unit) (Φ : api_Capture × api_Cycle × Int → Prop) : (List (Int × api_Write × Unit) × (List Int × List api_Write)) → ((List (Int × api_Write × Unit) × (List Int × List api_Write)) → Prop) → Prop
 | (lst, v36, v37), rec8 =>
 match lst with
 | [] =>
 Φ ((api_Capture.mk (x0.Number + 1) v34.1 v35.1 v36 v37), (api_Cycle.mk x0.Number (x0.Number + 1) x1 v33.1 v32.1), 0)
 | v38 :: r39 =>
 inX v38.1 x0.Nodes.length ∧
 lenOk (v36 ++ ([(ix x0.Nodes v38.1)] : List Int)).length 8 ∧
 ∃ v40 : api_Write × Unit, Z33 (cycle_division.mk x0 v12) v38.1 v38.2.1 (fun z => (z, ()) = v40) ∧
 lenOk (v37 ++ ([v40.1] : List api_Write)).length 40 ∧
 rec8 (r39, ((v36 ++ ([(ix x0.Nodes v38.1)] : List Int)), (v37 ++ ([v40.1] : List api_Write))))
def Z37 (x0 : api_Capture) (x1 : Int) (x2 : List Int) (v12 : List Bool) (Φ : api_Capture × api_Cycle × Int → Prop) : (List (Int × api_Write × Unit) × List api_Write) → ((List (Int × api_Write × Unit) × List api_Write) → Prop) → Prop
 | (lst, v29), rec7 =>
 match lst with
 | [] =>
 Z29 v29 fun v32 =>
 (¬ (v32.2 = 0) →
 Φ ((api_Capture.mk 0 ([] : List Int) ([] : List Int) ([] : List Int) ([] : List api_Write)), (api_Cycle.mk 0 0 0 ([] : List Int) ([] : List api_Write)), v32.2)) ∧
 (¬ (¬ (v32.2 = 0)) →
 inI (x0.Number + 1) ∧
 ∃ v33 : List Int × Unit, Z3 x2 (fun z => (z, ()) = v33) ∧
 inI (x0.Number + 1) ∧
 ∃ v34 : List Int × Unit, Z3 x0.Sizes (fun z => (z, ()) = v34) ∧
 ∃ v35 : List Int × Unit, Z3 x2 (fun z => (z, ()) = v35) ∧
 ∃ l41 : List (Int × api_Write × Unit), cycle_division_writes_1_I (cycle_division.mk x0 v12) false l41 ∧
 LoopW (Z36 x0 x1 v12 v32 v33 v34 v35 Φ) (l41, (([] : List Int), ([] : List api_Write))))
 | v30 :: r31 =>
 lenOk (v29 ++ ([v30.2.1] : List api_Write)).length 40 ∧
 rec7 (r31, (v29 ++ ([v30.2.1] : List api_Write)))
def Z38 (x0 : api_Capture) (x1 : Int) (x2 : List Int) (v11 : List Int) (v12 : List Bool) (Φ : api_Capture × api_Cycle × Int → Prop) : (Int) → ((Int) → Prop) → Prop
 | v13, rec4 =>
 (v13 < (v11.length : Int) →
 inX v13 v11.length ∧
 Z14 (ix v11 v13) fun v14 =>
 (v14 = true →
 (¬ (¬ (0 ≤ v13)) →
 Φ ((api_Capture.mk 0 ([] : List Int) ([] : List Int) ([] : List Int) ([] : List api_Write)), (api_Cycle.mk 0 0 0 ([] : List Int) ([] : List api_Write)), 2)) ∧
 (¬ (¬ (¬ (0 ≤ v13))) →
 ∃ l28 : List (Int × api_Write × Unit), cycle_division_writes_1_I (cycle_division.mk x0 v12) true l28 ∧
 LoopW (Z35 x0 x1 x2 v12 Φ) (l28, ([] : List api_Write)))) ∧
 (¬ (v14 = true) →
 inI (v13 + 1) ∧
 rec4 (v13 + 1))) ∧
 (¬ (v13 < (v11.length : Int)) →
 (¬ (¬ (0 ≤ ((-1) : Int))) →
 Φ ((api_Capture.mk 0 ([] : List Int) ([] : List Int) ([] : List Int) ([] : List api_Write)), (api_Cycle.mk 0 0 0 ([] : List Int) ([] : List api_Write)), 2)) ∧
 (¬ (¬ (¬ (0 ≤ ((-1) : Int)))) →
 ∃ l42 : List (Int × api_Write × Unit), cycle_division_writes_1_I (cycle_division.mk x0 v12) true l42 ∧
 LoopW (Z37 x0 x1 x2 v12 Φ) (l42, ([] : List api_Write))))
def Z39 (x0 : api_Capture) (x1 : Int) (x2 : List Int) (Φ : api_Capture × api_Cycle × Int → Prop) : (Int × List Int × List Bool) → ((Int × List Int × List Bool) → Prop) → Prop
 | (v10, v11, v12), rec3 =>
 (v10 < (x0.Nodes.length : Int) →
 inX v10 x0.Nodes.length ∧
 inX (ix x0.Nodes v10) v11.length ∧
 lenOk (v12 ++ ([decide (0 < (ix v11 (ix x0.Nodes v10)))] : List Bool)).length 1 ∧
 inX (ix x0.Nodes v10) v11.length ∧
 inI ((ix v11 (ix x0.Nodes v10)) - 1) ∧
 inX (ix x0.Nodes v10) v11.length ∧
 inI (v10 + 1) ∧
 rec3 ((v10 + 1), (put v11 (ix x0.Nodes v10) (if ((ix v11 (ix x0.Nodes v10)) - 1) < 0 then 0 else ((ix v11 (ix x0.Nodes v10)) - 1))), (v12 ++ ([decide (0 < (ix v11 (ix x0.Nodes v10)))] : List Bool)))) ∧
 (¬ (v10 < (x0.Nodes.length : Int)) →
 LoopW (Z38 x0 x1 x2 v11 v12 Φ) 0)
def Z40 (x0 : api_Capture) (x1 : Int) (x2 : List Int) (Φ : api_Capture × api_Cycle × Int → Prop) : (Int × List Int) → ((Int × List Int) → Prop) → Prop
 | (v8, v9), rec2 =>
 (v8 < (x2.length : Int) →
 inX v8 x2.length ∧
 inX v8 x0.Positions.length ∧
 inI ((ix x2 v8) - (ix x0.Positions v8)) ∧
 inX v8 v9.length ∧
 inX v8 (put v9 v8 ((ix x2 v8) - (ix x0.Positions v8))).length ∧
 (¬ (0 ≤ (ix (put v9 v8 ((ix x2 v8) - (ix x0.Positions v8))) v8)) →
 Φ ((api_Capture.mk 0 ([] : List Int) ([] : List Int) ([] : List Int) ([] : List api_Write)), (api_Cycle.mk 0 0 0 ([] : List Int) ([] : List api_Write)), 2)) ∧
 (¬ (¬ (0 ≤ (ix (put v9 v8 ((ix x2 v8) - (ix x0.Positions v8))) v8))) →
 inI (v8 + 1) ∧
 rec2 ((v8 + 1), (put v9 v8 ((ix x2 v8) - (ix x0.Positions v8)))))) ∧
 (¬ (v8 < (x2.length : Int)) →
 LoopW (Z39 x0 x1 x2 Φ) (0, v9, ([] : List Bool)))
def Z41 (x0 : api_Capture) (x1 : Int) (x2 : List Int) (v1 : List (List Sec) × Int) (Φ : api_Capture × api_Cycle × Int → Prop) : (Int) → ((Int) → Prop) → Prop
 | v4, rec1 =>
 (v4 < (x0.Writes.length : Int) →
 inX v4 x0.Writes.length ∧
 inX v4 x0.Nodes.length ∧
 inI ((x0.Positions.length : Int) - 1) ∧
 cycle_in_W (ix x0.Nodes v4) 0 ((x0.Positions.length : Int) - 1) fun v5 =>
 (¬ (v5 = true) →
 Φ ((api_Capture.mk 0 ([] : List Int) ([] : List Int) ([] : List Int) ([] : List api_Write)), (api_Cycle.mk 0 0 0 ([] : List Int) ([] : List api_Write)), 7)) ∧
 (¬ (¬ (v5 = true)) →
 image_Fits_W v1.1 (ix x0.Writes v4) fun v6 =>
 (¬ (v6 = 0) →
 Φ ((api_Capture.mk 0 ([] : List Int) ([] : List Int) ([] : List Int) ([] : List api_Write)), (api_Cycle.mk 0 0 0 ([] : List Int) ([] : List api_Write)), v6)) ∧
 (¬ (¬ (v6 = 0)) →
 inI (v4 + 1) ∧
 rec1 (v4 + 1)))) ∧
 (¬ (v4 < (x0.Writes.length : Int)) →
 cycle_in_W x1 0 1073741824 fun v7 =>
 (¬ (v7 = true) →
 Φ ((api_Capture.mk 0 ([] : List Int) ([] : List Int) ([] : List Int) ([] : List api_Write)), (api_Cycle.mk 0 0 0 ([] : List Int) ([] : List api_Write)), 24)) ∧
 (¬ (¬ (v7 = true)) →
 (¬ ((x2.length : Int) = (x0.Positions.length : Int)) →
 Φ ((api_Capture.mk 0 ([] : List Int) ([] : List Int) ([] : List Int) ([] : List api_Write)), (api_Cycle.mk 0 0 0 ([] : List Int) ([] : List api_Write)), 6)) ∧
 (¬ (¬ ((x2.length : Int) = (x0.Positions.length : Int))) →
 0 ≤ (x2.length : Int) ∧
 lenOk (x2.length : Int).toNat 8 ∧
 LoopW (Z40 x0 x1 x2 Φ) (0, (List.replicate (x2.length : Int).toNat (0 : Int))))))
def cycle_Close_W (x0 : api_Capture) (x1 : Int) (x2 : List Int) (Φ : api_Capture × api_Cycle × Int → Prop) : Prop :=
 image_New_W x0.Sizes fun v1 =>
 (¬ (v1.2 = 0) →
 Φ ((api_Capture.mk 0 ([] : List Int) ([] : List Int) ([] : List Int) ([] : List api_Write)), (api_Cycle.mk 0 0 0 ([] : List Int) ([] : List api_Write)), v1.2)) ∧
 (¬ (¬ (v1.2 = 0)) →
 cycle_in_W x0.Number 0 1073741823 fun v2 =>
 (¬ (v2 = true) →
 Φ ((api_Capture.mk 0 ([] : List Int) ([] : List Int) ([] : List Int) ([] : List api_Write)), (api_Cycle.mk 0 0 0 ([] : List Int) ([] : List api_Write)), 2)) ∧
 (¬ (¬ (v2 = true)) →
 Z7 x0.Positions 1 fun v3 =>
 (¬ (v3 = 0) →
 Φ ((api_Capture.mk 0 ([] : List Int) ([] : List Int) ([] : List Int) ([] : List api_Write)), (api_Cycle.mk 0 0 0 ([] : List Int) ([] : List api_Write)), v3)) ∧
 (¬ (¬ (v3 = 0)) →
 ((x0.Nodes.length : Int) = (x0.Writes.length : Int) →
 (¬ ((x0.Writes.length : Int) ≤ 4096) →
 Φ ((api_Capture.mk 0 ([] : List Int) ([] : List Int) ([] : List Int) ([] : List api_Write)), (api_Cycle.mk 0 0 0 ([] : List Int) ([] : List api_Write)), 6)) ∧
 (¬ (¬ ((x0.Writes.length : Int) ≤ 4096)) →
 LoopW (Z41 x0 x1 x2 v1 Φ) 0)) ∧
 (¬ ((x0.Nodes.length : Int) = (x0.Writes.length : Int)) →
 Φ ((api_Capture.mk 0 ([] : List Int) ([] : List Int) ([] : List Int) ([] : List api_Write)), (api_Cycle.mk 0 0 0 ([] : List Int) ([] : List api_Write)), 6)))))
def Z42 (x0 : List Sec) (x1 : List Sec) (Φ : Bool → Prop) : (Int) → ((Int) → Prop) → Prop
 | v1, rec1 =>
 (v1 < (x0.length : Int) →
 inX v1 x0.length ∧
 inX v1 x1.length ∧
 ((ix x0 v1) ≠ (ix x1 v1) →
 Φ false) ∧
 (¬ ((ix x0 v1) ≠ (ix x1 v1)) →
 inI (v1 + 1) ∧
 rec1 (v1 + 1))) ∧
 (¬ (v1 < (x0.length : Int)) →
 Φ true)
def Z43 (x0 : List Sec) (x1 : List Sec) (Φ : Bool → Prop) : Prop :=
 ((x0.length : Int) ≠ (x1.length : Int) →
 Φ false) ∧
 (¬ ((x0.length : Int) ≠ (x1.length : Int)) →
 LoopW (Z42 x0 x1 Φ) 0)
def Z44 (x0 : List api_Write) (x1 : List api_Write) (Φ : Bool → Prop) : (Int) → ((Int) → Prop) → Prop
 | v1, rec1 =>
 (v1 < (x0.length : Int) →
 inX v1 x0.length ∧
 inX v1 x1.length ∧
 (((ix x0 v1).Volume) ≠ ((ix x1 v1).Volume) →
 Φ false) ∧
 (¬ (((ix x0 v1).Volume) ≠ ((ix x1 v1).Volume)) →
 inX v1 x0.length ∧
 inX v1 x1.length ∧
 (((ix x0 v1).Start) ≠ ((ix x1 v1).Start) →
 Φ false) ∧
 (¬ (((ix x0 v1).Start) ≠ ((ix x1 v1).Start)) →
 inX v1 x0.length ∧
 inX v1 x1.length ∧
 ∃ v2 : Bool × Unit, Z43 ((ix x0 v1).Data) ((ix x1 v1).Data) (fun z => (z, ()) = v2) ∧
 (¬ (v2.1 = true) →
 Φ false) ∧
 (¬ (¬ (v2.1 = true)) →
 inI (v1 + 1) ∧
 rec1 (v1 + 1))))) ∧
 (¬ (v1 < (x0.length : Int)) →
 Φ true)
def Z45 (x0 : List api_Write) (x1 : List api_Write) (Φ : Bool → Prop) : Prop :=
 ((x0.length : Int) ≠ (x1.length : Int) →
 Φ false) ∧
 (¬ ((x0.length : Int) ≠ (x1.length : Int)) →
 LoopW (Z44 x0 x1 Φ) 0)
def ref22_Same_W (x0 : List api_Write) (x1 : List api_Write) (Φ : Bool → Prop) : Prop :=
 Z45 x0 x1 fun v1 =>
 Φ v1
def Z46 (x0 : BitVec 64) (x1 : BitVec 64) (Φ : BitVec 64 × BitVec 64 → Prop) : Prop :=
 Φ (((((x0 >>> ((32#64).toNat : Int).toNat) * (x1 >>> ((32#64).toNat : Int).toNat)) + ((((x0 >>> ((32#64).toNat : Int).toNat) * (x1 &&& (4294967295#64))) + (((x0 &&& (4294967295#64)) * (x1 &&& (4294967295#64))) >>> ((32#64).toNat : Int).toNat)) >>> ((32#64).toNat : Int).toNat)) + ((((((x0 >>> ((32#64).toNat : Int).toNat) * (x1 &&& (4294967295#64))) + (((x0 &&& (4294967295#64)) * (x1 &&& (4294967295#64))) >>> ((32#64).toNat : Int).toNat)) &&& (4294967295#64)) + ((x0 &&& (4294967295#64)) * (x1 >>> ((32#64).toNat : Int).toNat))) >>> ((32#64).toNat : Int).toNat)), (x0 * x1))
def Z47 (x0 : BitVec 64) (x1 : BitVec 64) (Φ : BitVec 64 × BitVec 64 → Prop) : Prop :=
 Z46 x0 x1 fun v1 =>
 Φ (v1.1, v1.2)
def Z48 (Φ : List Int → Prop) : (Int × List Int) → ((Int × List Int) → Prop) → Prop
 | (v3, v4), rec2 =>
 (v3 < (v4.length : Int) →
 inS v3 (v4.length : Int) v4.length ∧
 inS 0 v3 v4.length ∧
 inI (v3 + ((min (sub v4 0 v3).length (v4.length - (v3 : Int).toNat) : Nat) : Int)) ∧
 rec2 ((v3 + ((min (sub v4 0 v3).length (v4.length - (v3 : Int).toNat) : Nat) : Int)), (paste v4 v3 (sub v4 0 v3)))) ∧
 (¬ (v3 < (v4.length : Int)) →
 Φ v4)
def Z49 (x0 : List Int) (v1 : BitVec 64 × BitVec 64) (Φ : List Int → Prop) : Bool → Prop
 | v2 =>
 (v2 = true →
 False) ∧
 (¬ (v2 = true) →
 0 ≤ v1.2.toInt ∧
 lenOk v1.2.toInt.toNat 8 ∧
 LoopW (Z48 Φ) (((min x0.length ((List.replicate v1.2.toInt.toNat (0 : Int)).length - (0 : Int).toNat) : Nat) : Int), (paste (List.replicate v1.2.toInt.toNat (0 : Int)) 0 x0)))
def Z50 (x0 : List Int) (x1 : Int) (Φ : List Int → Prop) : Prop :=
 (x1 < 0 →
 False) ∧
 (¬ (x1 < 0) →
 Z47 (BitVec.ofInt 64 (x0.length : Int)) (BitVec.ofInt 64 x1) fun v1 =>
 Join (Z49 x0 v1 Φ) fun J1 =>
 ((0#64) < v1.1 →
 J1 true) ∧
 (¬ ((0#64) < v1.1) →
 J1 (decide ((9223372036854775807#64) < v1.2))))
def Z51 (Φ : List Int → Prop) : Prop :=
 Z50 ([4096] : List Int) 8 fun v1 =>
 Φ v1
def Z52 (x0 : List api_Write) (v1 : List (List Sec) × Int) (Φ : Int → Prop) : (Int) → ((Int) → Prop) → Prop
 | v2, rec1 =>
 (v2 < (x0.length : Int) →
 inX v2 x0.length ∧
 image_Fits_W v1.1 (ix x0 v2) fun v3 =>
 (v3 ≠ 0 →
 Φ v3) ∧
 (¬ (v3 ≠ 0) →
 (v2 = 0 →
 inI (v2 + 1) ∧
 rec1 (v2 + 1)) ∧
 (¬ (v2 = 0) →
 inI (v2 - 1) ∧
 inX (v2 - 1) x0.length ∧
 (((ix x0 v2).Volume) < ((ix x0 (v2 - 1)).Volume) →
 Φ 3) ∧
 (¬ (((ix x0 v2).Volume) < ((ix x0 (v2 - 1)).Volume)) →
 (((ix x0 v2).Volume) = ((ix x0 (v2 - 1)).Volume) →
 inI (((ix x0 (v2 - 1)).Start) + (((ix x0 (v2 - 1)).Data).length : Int)) ∧
 (((ix x0 v2).Start) ≤ (((ix x0 (v2 - 1)).Start) + (((ix x0 (v2 - 1)).Data).length : Int)) →
 Φ 3) ∧
 (¬ (((ix x0 v2).Start) ≤ (((ix x0 (v2 - 1)).Start) + (((ix x0 (v2 - 1)).Data).length : Int))) →
 inI (v2 + 1) ∧
 rec1 (v2 + 1))) ∧
 (¬ (((ix x0 v2).Volume) = ((ix x0 (v2 - 1)).Volume)) →
 inI (v2 + 1) ∧
 rec1 (v2 + 1)))))) ∧
 (¬ (v2 < (x0.length : Int)) →
 Φ 0)
def Z53 (x0 : List api_Write) (x1 : List Int) (Φ : Int → Prop) : Prop :=
 image_New_W x1 fun v1 =>
 (v1.2 ≠ 0 →
 Φ v1.2) ∧
 (¬ (v1.2 ≠ 0) →
 LoopW (Z52 x0 v1 Φ) 0)
def Z54 (x0 : api_Cycle) (x1 : List Int) (Φ : Int → Prop) : Bool → Prop
 | v2 =>
 (v2 = true →
 Φ 2) ∧
 (¬ (v2 = true) →
 cycle_in_W x0.Time 0 1073741824 fun v3 =>
 (¬ (v3 = true) →
 Φ 24) ∧
 (¬ (¬ (v3 = true)) →
 Z7 x0.Positions 0 fun v4 =>
 (v4 ≠ 0 →
 Φ v4) ∧
 (¬ (v4 ≠ 0) →
 Z53 x0.Writes x1 fun v5 =>
 Φ v5)))
def cycle_Check_W (x0 : api_Cycle) (x1 : List Int) (Φ : Int → Prop) : Prop :=
 image_New_W x1 fun v1 =>
 (v1.2 ≠ 0 →
 Φ v1.2) ∧
 (¬ (v1.2 ≠ 0) →
 Join (Z54 x0 x1 Φ) fun J1 =>
 (x0.Base < 0 →
 J1 true) ∧
 (¬ (x0.Base < 0) →
 (x0.Number ≤ x0.Base →
 J1 true) ∧
 (¬ (x0.Number ≤ x0.Base) →
 J1 (decide (1073741824 < x0.Number)))))
def Z55 (x0 : List (List api_Write)) (Φ : List api_Write → Prop) : (Int × List api_Write) → ((Int × List api_Write) → Prop) → Prop
 | (v4, v5), rec3 =>
 (v4 < (x0.length : Int) →
 inX v4 x0.length ∧
 lenOk (v5 ++ (ix x0 v4)).length 40 ∧
 inI (v4 + 1) ∧
 rec3 ((v4 + 1), (v5 ++ (ix x0 v4)))) ∧
 (¬ (v4 < (x0.length : Int)) →
 Φ v5)
def Z56 (x0 : List (List api_Write)) (Φ : List api_Write → Prop) : List api_Write → Prop
 | v3 =>
 LoopW (Z55 x0 Φ) (0, v3)
def Z57 (x0 : List (List api_Write)) (Φ : List api_Write → Prop) : (Int × Int) → ((Int × Int) → Prop) → Prop
 | (v1, v2), rec1 =>
 (v2 < (x0.length : Int) →
 inX v2 x0.length ∧
 inI (v1 + ((ix x0 v2).length : Int)) ∧
 ((v1 + ((ix x0 v2).length : Int)) < 0 →
 False) ∧
 (¬ ((v1 + ((ix x0 v2).length : Int)) < 0) →
 inI (v2 + 1) ∧
 rec1 ((v1 + ((ix x0 v2).length : Int)), (v2 + 1)))) ∧
 (¬ (v2 < (x0.length : Int)) →
 Join (Z56 x0 Φ) fun J2 =>
 (v1 < 0 →
 False) ∧
 (¬ (v1 < 0) →
 inI ((0 : Int) - 0) ∧
 inI (v1 - ((0 : Int) - 0)) ∧
 (0 < (v1 - ((0 : Int) - 0)) →
 (0 : Int) = 0 ∧
 (0 : Int) < (v1 - ((0 : Int) - 0)) ∧
 lenOk (v1 - ((0 : Int) - 0)).toNat 40 ∧
 inS 0 0 (List.replicate (v1 - ((0 : Int) - 0)).toNat ((api_Write.mk 0 0 ([] : List Sec)) : api_Write)).length ∧
 J2 (sub (List.replicate (v1 - ((0 : Int) - 0)).toNat ((api_Write.mk 0 0 ([] : List Sec)) : api_Write)) 0 0)) ∧
 (¬ (0 < (v1 - ((0 : Int) - 0))) →
 J2 ([] : List api_Write))))
def Z58 (x0 : List (List api_Write)) (Φ : List api_Write → Prop) : Prop :=
 LoopW (Z57 x0 Φ) (0, 0)
def Z59 (v1 : Int) (rec1 : (Int) → Prop) (Φ : List api_Write × Int → Prop) : Int → Prop
 | v2 =>
 (v2 ≠ 0 →
 Φ (([] : List api_Write), v2)) ∧
 (¬ (v2 ≠ 0) →
 inI (v1 + 1) ∧
 rec1 (v1 + 1))
def Z60 (x0 : List api_Write) (x1 : List api_Write) (v1 : Int) (rec1 : (Int) → Prop) (Φ : List api_Write × Int → Prop) : (Int) → ((Int) → Prop) → Prop
 | v3, rec3 =>
 (v3 < ((ix ([x0, x1] : List (List api_Write)) v1).length : Int) →
 inX v3 (ix ([x0, x1] : List (List api_Write)) v1).length ∧
 Z17 (ix (ix ([x0, x1] : List (List api_Write)) v1) v3) fun v4 =>
 (v4 ≠ 0 →
 Z59 v1 rec1 Φ v4) ∧
 (¬ (v4 ≠ 0) →
 (v3 = 0 →
 inI (v3 + 1) ∧
 rec3 (v3 + 1)) ∧
 (¬ (v3 = 0) →
 inI (v3 - 1) ∧
 inX (v3 - 1) (ix ([x0, x1] : List (List api_Write)) v1).length ∧
 (((ix (ix ([x0, x1] : List (List api_Write)) v1) v3).Volume) < ((ix (ix ([x0, x1] : List (List api_Write)) v1) (v3 - 1)).Volume) →
 Z59 v1 rec1 Φ 3) ∧
 (¬ (((ix (ix ([x0, x1] : List (List api_Write)) v1) v3).Volume) < ((ix (ix ([x0, x1] : List (List api_Write)) v1) (v3 - 1)).Volume)) →
 (((ix (ix ([x0, x1] : List (List api_Write)) v1) v3).Volume) = ((ix (ix ([x0, x1] : List (List api_Write)) v1) (v3 - 1)).Volume) →
 inI (((ix (ix ([x0, x1] : List (List api_Write)) v1) (v3 - 1)).Start) + (((ix (ix ([x0, x1] : List (List api_Write)) v1) (v3 - 1)).Data).length : Int)) ∧
 (((ix (ix ([x0, x1] : List (List api_Write)) v1) v3).Start) ≤ (((ix (ix ([x0, x1] : List (List api_Write)) v1) (v3 - 1)).Start) + (((ix (ix ([x0, x1] : List (List api_Write)) v1) (v3 - 1)).Data).length : Int)) →
 Z59 v1 rec1 Φ 3) ∧
 (¬ (((ix (ix ([x0, x1] : List (List api_Write)) v1) v3).Start) ≤ (((ix (ix ([x0, x1] : List (List api_Write)) v1) (v3 - 1)).Start) + (((ix (ix ([x0, x1] : List (List api_Write)) v1) (v3 - 1)).Data).length : Int))) →
 inI (v3 + 1) ∧
 rec3 (v3 + 1))) ∧
 (¬ (((ix (ix ([x0, x1] : List (List api_Write)) v1) v3).Volume) = ((ix (ix ([x0, x1] : List (List api_Write)) v1) (v3 - 1)).Volume)) →
 inI (v3 + 1) ∧
 rec3 (v3 + 1)))))) ∧
 (¬ (v3 < ((ix ([x0, x1] : List (List api_Write)) v1).length : Int)) →
 Z59 v1 rec1 Φ 0)
def Z61 (v5 : List api_Write) (v6 : Int) (rec4 : (Int × (List (coalesce_place × Sec))) → Prop) (_ : List api_Write × Int → Prop) : (Int × Int × Int × (List (coalesce_place × Sec))) → ((Int × Int × Int × (List (coalesce_place × Sec))) → Prop) → Prop
 | (v8, v9, v10, v11), rec5 =>
 (v8 < (((ix v5 v6).Data).length : Int) →
 inX v8 ((ix v5 v6).Data).length ∧
 Z18 (coalesce_place.mk v9 v10) fun v12 =>
 inI (v8 + 1) ∧
 rec5 ((v8 + 1), v12.volume, v12.sector, (mput v11 (coalesce_place.mk v9 v10) (ix ((ix v5 v6).Data) v8)))) ∧
 (¬ (v8 < (((ix v5 v6).Data).length : Int)) →
 inI (v6 + 1) ∧
 rec4 ((v6 + 1), v11))
def Z62 (v7 : List (coalesce_place × Sec)) (v16 : List coalesce_place) (v17 : Int) (rec7 : (Int × Int × Int × List api_Write × List Sec) → Prop) (_ : List api_Write × Int → Prop) : List api_Write × List Sec → Prop
 | (v22, v23) =>
 inI ((v22.length : Int) - 1) ∧
 inX ((v22.length : Int) - 1) v22.length ∧
 ((v22.length : Int) - 1) + 1 = (v22.length : Int) ∧
 lenOk (v23 ++ ([(mget v7 (ix v16 v17) sec0)] : List Sec)).length 8 ∧
 Z18 (ix v16 v17) fun v24 =>
 inI (v17 + 1) ∧
 rec7 ((v17 + 1), v24.volume, v24.sector, v22, (v23 ++ ([(mget v7 (ix v16 v17) sec0)] : List Sec)))
def Z63 (v7 : List (coalesce_place × Sec)) (v16 : List coalesce_place) (Φ : List api_Write × Int → Prop) : (Int × Int × Int × List api_Write × List Sec) → ((Int × Int × Int × List api_Write × List Sec) → Prop) → Prop
 | (v17, v18, v19, v20, v21), rec7 =>
 (v17 < (v16.length : Int) →
 inX v17 v16.length ∧
 Join (Z62 v7 v16 v17 rec7 Φ) fun J8 =>
 ((ix v16 v17) ≠ (coalesce_place.mk v18 v19) →
 lenOk ((put v20 ((v20.length : Int) - 1) (api_Write.mk ((ix v20 ((v20.length : Int) - 1)).Volume) ((ix v20 ((v20.length : Int) - 1)).Start) v21)) ++ ([(api_Write.mk ((ix v16 v17).volume) ((ix v16 v17).sector) ([] : List Sec))] : List api_Write)).length 40 ∧
 J8 (((put v20 ((v20.length : Int) - 1) (api_Write.mk ((ix v20 ((v20.length : Int) - 1)).Volume) ((ix v20 ((v20.length : Int) - 1)).Start) v21)) ++ ([(api_Write.mk ((ix v16 v17).volume) ((ix v16 v17).sector) ([] : List Sec))] : List api_Write)), ([] : List Sec))) ∧
 (¬ ((ix v16 v17) ≠ (coalesce_place.mk v18 v19)) →
 J8 (v20, v21))) ∧
 (¬ (v17 < (v16.length : Int)) →
 Φ ((put v20 ((v20.length : Int) - 1) (api_Write.mk ((ix v20 ((v20.length : Int) - 1)).Volume) ((ix v20 ((v20.length : Int) - 1)).Start) v21)), 0))
def Z64 (v7 : List (coalesce_place × Sec)) (Φ : List api_Write × Int → Prop) : (((Nat × List Nat)) × List coalesce_place) → ((((Nat × List Nat)) × List coalesce_place) → Prop) → Prop
 | (v13, v14), rec6 =>
 v7.length = v13.1 ∧ ((∀ i, i < v7.length → i ∈ v13.2) →
 Z22 v14 fun v16 =>
 LoopW (Z63 v7 v16 Φ) (0, (-1), 0, ([] : List api_Write), ([] : List Sec))) ∧
 ∀ i15, i15 < v7.length → i15 ∉ v13.2 →
 v7.length = v13.1 ∧
 i15 < v7.length ∧
 lenOk (v14 ++ ([((ent v7 i15).1)] : List coalesce_place)).length 16 ∧
 rec6 ((v13.1, (i15 :: v13.2)), (v14 ++ ([((ent v7 i15).1)] : List coalesce_place)))
def Z65 (v5 : List api_Write) (Φ : List api_Write × Int → Prop) : (Int × (List (coalesce_place × Sec))) → ((Int × (List (coalesce_place × Sec))) → Prop) → Prop
 | (v6, v7), rec4 =>
 (v6 < (v5.length : Int) →
 inX v6 v5.length ∧
 LoopW (Z61 v5 v6 rec4 Φ) (0, (ix v5 v6).Volume, (ix v5 v6).Start, v7)) ∧
 (¬ (v6 < (v5.length : Int)) →
 0 ≤ (v7.length : Int) ∧
 lenOk (v7.length : Int).toNat 16 ∧
 LoopW (Z64 v7 Φ) ((v7.length, []), ([] : List coalesce_place)))
def Z66 (x0 : List api_Write) (x1 : List api_Write) (Φ : List api_Write × Int → Prop) : (Int) → ((Int) → Prop) → Prop
 | v1, rec1 =>
 (v1 < (([x0, x1] : List (List api_Write)).length : Int) →
 inX v1 ([x0, x1] : List (List api_Write)).length ∧
 LoopW (Z60 x0 x1 v1 rec1 Φ) 0) ∧
 (¬ (v1 < (([x0, x1] : List (List api_Write)).length : Int)) →
 Z58 ([x0, x1] : List (List api_Write)) fun v5 =>
 LoopW (Z65 v5 Φ) (0, ([] : List (coalesce_place × Sec))))
def Z67 (x0 : List api_Write) (x1 : List api_Write) (Φ : List api_Write × Int → Prop) : Prop :=
 LoopW (Z66 x0 x1 Φ) 0
def Z68 (x0 : api_Cycle) (x1 : api_Cycle) (Φ : api_Cycle × Int → Prop) : (Int) → ((Int) → Prop) → Prop
 | v4, rec2 =>
 (v4 < (x0.Positions.length : Int) →
 inX v4 x0.Positions.length ∧
 inX v4 x1.Positions.length ∧
 ((ix x1.Positions v4) < (ix x0.Positions v4) →
 Φ ((api_Cycle.mk 0 0 0 ([] : List Int) ([] : List api_Write)), 2)) ∧
 (¬ ((ix x1.Positions v4) < (ix x0.Positions v4)) →
 inI (v4 + 1) ∧
 rec2 (v4 + 1))) ∧
 (¬ (v4 < (x0.Positions.length : Int)) →
 Z67 x0.Writes x1.Writes fun v5 =>
 (v5.2 ≠ 0 →
 Φ ((api_Cycle.mk 0 0 0 ([] : List Int) ([] : List api_Write)), v5.2)) ∧
 (¬ (v5.2 ≠ 0) →
 ∃ v6 : List Int × Unit, Z3 x1.Positions (fun z => (z, ()) = v6) ∧
 Φ ((api_Cycle.mk x0.Base x1.Number x1.Time v6.1 v5.1), 0)))
def Z69 (x0 : api_Cycle) (x1 : api_Cycle) (Φ : api_Cycle × Int → Prop) : (Int) → ((Int) → Prop) → Prop
 | v1, rec1 =>
 (v1 < (([x0, x1] : List api_Cycle).length : Int) →
 inX v1 ([x0, x1] : List api_Cycle).length ∧
 ∃ v2 : List Int × Unit, Z51 (fun z => (z, ()) = v2) ∧
 ∃ v3 : Int × Unit, cycle_Check_W (ix ([x0, x1] : List api_Cycle) v1) v2.1 (fun z => (z, ()) = v3) ∧
 (v3.1 ≠ 0 →
 Φ ((api_Cycle.mk 0 0 0 ([] : List Int) ([] : List api_Write)), v3.1)) ∧
 (¬ (v3.1 ≠ 0) →
 inI (v1 + 1) ∧
 rec1 (v1 + 1))) ∧
 (¬ (v1 < (([x0, x1] : List api_Cycle).length : Int)) →
 (x1.Base ≠ x0.Number →
 Φ ((api_Cycle.mk 0 0 0 ([] : List Int) ([] : List api_Write)), 15)) ∧
 (¬ (x1.Base ≠ x0.Number) →
 ((x0.Positions.length : Int) ≠ (x1.Positions.length : Int) →
 Φ ((api_Cycle.mk 0 0 0 ([] : List Int) ([] : List api_Write)), 6)) ∧
 (¬ ((x0.Positions.length : Int) ≠ (x1.Positions.length : Int)) →
 (x1.Time < x0.Time →
 Φ ((api_Cycle.mk 0 0 0 ([] : List Int) ([] : List api_Write)), 24)) ∧
 (¬ (x1.Time < x0.Time) →
 LoopW (Z68 x0 x1 Φ) 0))))
def Z70 (x0 : api_Cycle) (x1 : api_Cycle) (Φ : api_Cycle × Int → Prop) : Prop :=
 LoopW (Z69 x0 x1 Φ) 0
def Z71 (v8 : api_Capture × api_Cycle × Int) (Φ : Bool → Prop) : Unit → Prop
 | _ =>
 cycle_Close_W v8.1 6 ([2, 1] : List Int) fun v9 =>
 Z70 v8.2.1 v9.2.1 fun v10 =>
 law23_write_W 0 1 ([98#8, 99#8] : List (BitVec 8)) fun v11 =>
 (v9.2.2 = 0 →
 (v10.2 = 0 →
 ref22_Same_W v9.2.1.Writes ([v11] : List api_Write) fun v12 =>
 (v12 = true →
 (v10.1.Base = 0 →
 (v10.1.Number = 2 →
 ref22_Same_W v10.1.Writes ([v11] : List api_Write) fun v13 =>
 Φ v13) ∧
 (¬ (v10.1.Number = 2) →
 Φ false)) ∧
 (¬ (v10.1.Base = 0) →
 Φ false)) ∧
 (¬ (v12 = true) →
 Φ false)) ∧
 (¬ (v10.2 = 0) →
 Φ false)) ∧
 (¬ (v9.2.2 = 0) →
 Φ false)
def law23_awake_W (Φ : Bool → Prop) : Prop :=
 cycle_Open_W ([4] : List Int) 2 0 fun v1 =>
 ∃ v2 : api_Write × Unit, law23_write_W 0 1 ([97#8] : List (BitVec 8)) (fun z => (z, ()) = v2) ∧
 ∃ v3 : api_Capture × Int × Unit, cycle_Add_W v1.1 0 v2.1 (fun z => (z.1, z.2, ()) = v3) ∧
 ∃ v4 : api_Write × Unit, law23_write_W 0 1 ([98#8] : List (BitVec 8)) (fun z => (z, ()) = v4) ∧
 ∃ v5 : api_Capture × Int × Unit, cycle_Add_W v3.1 1 v4.1 (fun z => (z.1, z.2, ()) = v5) ∧
 ∃ v6 : api_Write × Unit, law23_write_W 0 2 ([99#8] : List (BitVec 8)) (fun z => (z, ()) = v6) ∧
 ∃ v7 : api_Capture × Int × Unit, cycle_Add_W v5.1 0 v6.1 (fun z => (z.1, z.2, ()) = v7) ∧
 cycle_Close_W v7.1 5 ([0, 1] : List Int) fun v8 =>
 Join (Z71 v8 Φ) fun J1 =>
 inI (v1.2 + v3.2.1) ∧
 inI ((v1.2 + v3.2.1) + v5.2.1) ∧
 inI (((v1.2 + v3.2.1) + v5.2.1) + v7.2.1) ∧
 inI ((((v1.2 + v3.2.1) + v5.2.1) + v7.2.1) + v8.2.2) ∧
 (((((v1.2 + v3.2.1) + v5.2.1) + v7.2.1) + v8.2.2) ≠ 0 →
 Φ false) ∧
 (¬ (((((v1.2 + v3.2.1) + v5.2.1) + v7.2.1) + v8.2.2) ≠ 0) →
 (v8.2.1.Base ≠ 0 →
 Φ false) ∧
 (¬ (v8.2.1.Base ≠ 0) →
 (v8.2.1.Number ≠ 1 →
 Φ false) ∧
 (¬ (v8.2.1.Number ≠ 1) →
 ∃ v14 : api_Write × Unit, law23_write_W 0 1 ([98#8] : List (BitVec 8)) (fun z => (z, ()) = v14) ∧
 ∃ v15 : Bool × Unit, ref22_Same_W v8.2.1.Writes ([v14.1] : List api_Write) (fun z => (z, ()) = v15) ∧
 (¬ (v15.1 = true) →
 Φ false) ∧
 (¬ (¬ (v15.1 = true)) →
 ∃ v16 : api_Write × Unit, law23_write_W 0 1 ([98#8] : List (BitVec 8)) (fun z => (z, ()) = v16) ∧
 ∃ v17 : api_Write × Unit, law23_write_W 0 2 ([99#8] : List (BitVec 8)) (fun z => (z, ()) = v17) ∧
 ∃ v18 : Bool × Unit, ref22_Same_W v8.1.Writes ([v16.1, v17.1] : List api_Write) (fun z => (z, ()) = v18) ∧
 (¬ (v18.1 = true) →
 Φ false) ∧
 (¬ (¬ (v18.1 = true)) →
 J1 ())))))
def ref22_Most_L1 (Φ : List Int → Prop) : (Int × List Int) → ((Int × List Int) → Prop) → Prop
 | (v1, v2), rec1 =>
 (v1 < 8 →
 lenOk (v2 ++ ([4096] : List Int)).length 8 ∧
 inI (v1 + 1) ∧
 rec1 ((v1 + 1), (v2 ++ ([4096] : List Int)))) ∧
 (¬ (v1 < 8) →
 Φ v2)
def ref22_Most_W (Φ : List Int → Prop) : Prop :=
 LoopW (ref22_Most_L1 Φ) (0, ([] : List Int))
def Z72 (x0 : List Int) (Φ : Int → Prop) : (Int) → ((Int) → Prop) → Prop
 | v1, rec1 =>
 (v1 < (x0.length : Int) →
 inX v1 x0.length ∧
 ((ix x0 v1) < 1 →
 Φ 2) ∧
 (¬ ((ix x0 v1) < 1) →
 inX v1 x0.length ∧
 (4096 < (ix x0 v1) →
 Φ 2) ∧
 (¬ (4096 < (ix x0 v1)) →
 inI (v1 + 1) ∧
 rec1 (v1 + 1)))) ∧
 (¬ (v1 < (x0.length : Int)) →
 Φ 0)
def ref07_Sizes_W (x0 : List Int) (Φ : Int → Prop) : Prop :=
 ((x0.length : Int) < 1 →
 Φ 6) ∧
 (¬ ((x0.length : Int) < 1) →
 (8 < (x0.length : Int) →
 Φ 6) ∧
 (¬ (8 < (x0.length : Int)) →
 LoopW (Z72 x0 Φ) 0))
def Z73 (x0 : List Int) (Φ : Int → Prop) : (Int) → ((Int) → Prop) → Prop
 | v1, rec1 =>
 (v1 < (x0.length : Int) →
 inX v1 x0.length ∧
 ((ix x0 v1) < 0 →
 Φ 2) ∧
 (¬ ((ix x0 v1) < 0) →
 inX v1 x0.length ∧
 (1073741824 < (ix x0 v1) →
 Φ 2) ∧
 (¬ (1073741824 < (ix x0 v1)) →
 inI (v1 + 1) ∧
 rec1 (v1 + 1)))) ∧
 (¬ (v1 < (x0.length : Int)) →
 Φ 0)
def Z74 (x0 : List Int) (Φ : Int → Prop) : Prop :=
 LoopW (Z73 x0 Φ) 0
def Z75 (x0 : List Int) (x1 : api_Write) (Φ : Int → Prop) : Prop :=
 (x1.Volume < 0 →
 Φ 7) ∧
 (¬ (x1.Volume < 0) →
 ((x0.length : Int) ≤ x1.Volume →
 Φ 7) ∧
 (¬ ((x0.length : Int) ≤ x1.Volume) →
 ((x1.Data.length : Int) = 0 →
 Φ 1) ∧
 (¬ ((x1.Data.length : Int) = 0) →
 (x1.Start < 0 →
 Φ 2) ∧
 (¬ (x1.Start < 0) →
 inX x1.Volume x0.length ∧
 ((ix x0 x1.Volume) ≤ x1.Start →
 Φ 2) ∧
 (¬ ((ix x0 x1.Volume) ≤ x1.Start) →
 inX x1.Volume x0.length ∧
 inI ((ix x0 x1.Volume) - x1.Start) ∧
 (((ix x0 x1.Volume) - x1.Start) < (x1.Data.length : Int) →
 Φ 2) ∧
 (¬ (((ix x0 x1.Volume) - x1.Start) < (x1.Data.length : Int)) →
 Φ 0))))))
def Z76 (x0 : List api_Write) (x1 : List Int) (Φ : Int → Prop) : (Int) → ((Int) → Prop) → Prop
 | v2, rec1 =>
 (v2 < (x0.length : Int) →
 inX v2 x0.length ∧
 Z75 x1 (ix x0 v2) fun v3 =>
 (v3 ≠ 0 →
 Φ v3) ∧
 (¬ (v3 ≠ 0) →
 (v2 = 0 →
 inI (v2 + 1) ∧
 rec1 (v2 + 1)) ∧
 (¬ (v2 = 0) →
 inI (v2 - 1) ∧
 inX (v2 - 1) x0.length ∧
 inX v2 x0.length ∧
 (((ix x0 v2).Volume) < ((ix x0 (v2 - 1)).Volume) →
 Φ 3) ∧
 (¬ (((ix x0 v2).Volume) < ((ix x0 (v2 - 1)).Volume)) →
 inX v2 x0.length ∧
 (((ix x0 v2).Volume) = ((ix x0 (v2 - 1)).Volume) →
 inX v2 x0.length ∧
 inI (((ix x0 (v2 - 1)).Start) + (((ix x0 (v2 - 1)).Data).length : Int)) ∧
 inI ((((ix x0 (v2 - 1)).Start) + (((ix x0 (v2 - 1)).Data).length : Int)) + 1) ∧
 (((ix x0 v2).Start) < ((((ix x0 (v2 - 1)).Start) + (((ix x0 (v2 - 1)).Data).length : Int)) + 1) →
 Φ 3) ∧
 (¬ (((ix x0 v2).Start) < ((((ix x0 (v2 - 1)).Start) + (((ix x0 (v2 - 1)).Data).length : Int)) + 1)) →
 inI (v2 + 1) ∧
 rec1 (v2 + 1))) ∧
 (¬ (((ix x0 v2).Volume) = ((ix x0 (v2 - 1)).Volume)) →
 inI (v2 + 1) ∧
 rec1 (v2 + 1)))))) ∧
 (¬ (v2 < (x0.length : Int)) →
 Φ 0)
def ref22_Check_W (x0 : List api_Write) (x1 : List Int) (Φ : Int → Prop) : Prop :=
 ref07_Sizes_W x1 fun v1 =>
 (v1 ≠ 0 →
 Φ v1) ∧
 (¬ (v1 ≠ 0) →
 LoopW (Z76 x0 x1 Φ) 0)
def ref23_Check_W (x0 : api_Cycle) (x1 : List Int) (Φ : Int → Prop) : Prop :=
 ref07_Sizes_W x1 fun v1 =>
 (v1 ≠ 0 →
 Φ v1) ∧
 (¬ (v1 ≠ 0) →
 (x0.Base < 0 →
 Φ 2) ∧
 (¬ (x0.Base < 0) →
 (x0.Number ≤ x0.Base →
 Φ 2) ∧
 (¬ (x0.Number ≤ x0.Base) →
 (1073741824 < x0.Number →
 Φ 2) ∧
 (¬ (1073741824 < x0.Number) →
 (x0.Time < 0 →
 Φ 24) ∧
 (¬ (x0.Time < 0) →
 (1073741824 < x0.Time →
 Φ 24) ∧
 (¬ (1073741824 < x0.Time) →
 (8 < (x0.Positions.length : Int) →
 Φ 6) ∧
 (¬ (8 < (x0.Positions.length : Int)) →
 Z74 x0.Positions fun v2 =>
 (v2 ≠ 0 →
 Φ v2) ∧
 (¬ (v2 ≠ 0) →
 ref22_Check_W x0.Writes x1 fun v3 =>
 Φ v3))))))))
def ref01_List_J2 (v1 : Int) (v2 : List api_Extent) (rec1 : (Int × List api_Extent) → Prop) (_ : List api_Extent → Prop) : Bool → Prop
 | v3 =>
 (v3 = true →
 inI ((v2.length : Int) - 1) ∧
 inX ((v2.length : Int) - 1) v2.length ∧
 inI (((ix v2 ((v2.length : Int) - 1)).Count) + 1) ∧
 inX ((v2.length : Int) - 1) v2.length ∧
 inI (v1 + 1) ∧
 rec1 ((v1 + 1), (put v2 ((v2.length : Int) - 1) (api_Extent.mk ((ix v2 ((v2.length : Int) - 1)).Start) (((ix v2 ((v2.length : Int) - 1)).Count) + 1))))) ∧
 (¬ (v3 = true) →
 lenOk (v2 ++ ([(api_Extent.mk v1 1)] : List api_Extent)).length 16 ∧
 inI (v1 + 1) ∧
 rec1 ((v1 + 1), (v2 ++ ([(api_Extent.mk v1 1)] : List api_Extent))))
def ref01_List_L1 (x0 : List Bool) (Φ : List api_Extent → Prop) : (Int × List api_Extent) → ((Int × List api_Extent) → Prop) → Prop
 | (v1, v2), rec1 =>
 (v1 < (x0.length : Int) →
 inX v1 x0.length ∧
 (¬ ((ix x0 v1) = true) →
 inI (v1 + 1) ∧
 rec1 ((v1 + 1), v2)) ∧
 (¬ (¬ ((ix x0 v1) = true)) →
 Join (ref01_List_J2 v1 v2 rec1 Φ) fun J2 =>
 (0 < v1 →
 inI (v1 - 1) ∧
 inX (v1 - 1) x0.length ∧
 J2 (ix x0 (v1 - 1))) ∧
 (¬ (0 < v1) →
 J2 false))) ∧
 (¬ (v1 < (x0.length : Int)) →
 Φ v2)
def ref01_List_W (x0 : List Bool) (Φ : List api_Extent → Prop) : Prop :=
 LoopW (ref01_List_L1 x0 Φ) (0, ([] : List api_Extent))
def Z77 (v1 : Int) (rec1 : (Int × List Bool) → Prop) (v4 : Int) (_ : List api_Extent → Prop) : (Int × List Bool) → ((Int × List Bool) → Prop) → Prop
 | (v5, v6), rec3 =>
 (v5 < v4 →
 inX v5 v6.length ∧
 inI (v5 + 1) ∧
 rec3 ((v5 + 1), (put v6 v5 true))) ∧
 (¬ (v5 < v4) →
 inI (v1 + 1) ∧
 rec1 ((v1 + 1), v6))
def Z78 (v1 : Int) (v2 : List Bool) (rec1 : (Int × List Bool) → Prop) (Φ : List api_Extent → Prop) : Int × Int → Prop
 | (v3, v4) =>
 LoopW (Z77 v1 rec1 v4 Φ) (v3, v2)
def Z79 (x0 : List api_Write) (x1 : Int) (Φ : List api_Extent → Prop) : (Int × List Bool) → ((Int × List Bool) → Prop) → Prop
 | (v1, v2), rec1 =>
 (v1 < (x0.length : Int) →
 inX v1 x0.length ∧
 (((ix x0 v1).Volume) = x1 →
 inX v1 x0.length ∧
 inX v1 x0.length ∧
 ((((ix x0 v1).Data).length : Int) ≤ 0 →
 inI (v1 + 1) ∧
 rec1 ((v1 + 1), v2)) ∧
 (¬ ((((ix x0 v1).Data).length : Int) ≤ 0) →
 ((v2.length : Int) ≤ ((ix x0 v1).Start) →
 inI (v1 + 1) ∧
 rec1 ((v1 + 1), v2)) ∧
 (¬ ((v2.length : Int) ≤ ((ix x0 v1).Start)) →
 Join (Z78 v1 v2 rec1 Φ) fun J2 =>
 (((ix x0 v1).Start) < 0 →
 inI (((ix x0 v1).Start) + (((ix x0 v1).Data).length : Int)) ∧
 J2 (0, (if (((ix x0 v1).Start) + (((ix x0 v1).Data).length : Int)) < (v2.length : Int) then (((ix x0 v1).Start) + (((ix x0 v1).Data).length : Int)) else (v2.length : Int)))) ∧
 (¬ (((ix x0 v1).Start) < 0) →
 inI (((ix x0 v1).Start) + (if 4096 < (((ix x0 v1).Data).length : Int) then 4096 else (((ix x0 v1).Data).length : Int))) ∧
 J2 ((ix x0 v1).Start, (if (((ix x0 v1).Start) + (if 4096 < (((ix x0 v1).Data).length : Int) then 4096 else (((ix x0 v1).Data).length : Int))) < (v2.length : Int) then (((ix x0 v1).Start) + (if 4096 < (((ix x0 v1).Data).length : Int) then 4096 else (((ix x0 v1).Data).length : Int))) else (v2.length : Int))))))) ∧
 (¬ (((ix x0 v1).Volume) = x1) →
 inI (v1 + 1) ∧
 rec1 ((v1 + 1), v2))) ∧
 (¬ (v1 < (x0.length : Int)) →
 ref01_List_W v2 fun v7 =>
 Φ v7)
def Z80 (x0 : List api_Write) (x1 : Int) (Φ : List api_Extent → Prop) : Prop :=
 0 ≤ (4096 : Int) ∧
 lenOk (4096 : Int).toNat 1 ∧
 LoopW (Z79 x0 x1 Φ) (0, (List.replicate (4096 : Int).toNat (false : Bool)))
def Z81 (x0 : api_Write) (x2 : Int) (Φ : Int × Bool → Prop) : Bool → Prop
 | v2 =>
 (v2 = true →
 inI (x0.Start + (x0.Data.length : Int)) ∧
 ((x0.Start + (x0.Data.length : Int)) ≤ x2 →
 Φ (0, false)) ∧
 (¬ ((x0.Start + (x0.Data.length : Int)) ≤ x2) →
 inI (x2 - x0.Start) ∧
 Φ ((x2 - x0.Start), true))) ∧
 (¬ (v2 = true) →
 inI (x2 - x0.Start) ∧
 Φ ((x2 - x0.Start), decide ((x2 - x0.Start) < (x0.Data.length : Int))))
def Z82 (x0 : api_Write) (x2 : Int) (Φ : Int × Bool → Prop) : Bool → Prop
 | v1 =>
 (v1 = true →
 Φ (0, false)) ∧
 (¬ (v1 = true) →
 Join (Z81 x0 x2 Φ) fun J2 =>
 (x0.Start < 0 →
 J2 (decide (0 ≤ x2))) ∧
 (¬ (x0.Start < 0) →
 J2 false))
def ref22_holds_W (x0 : api_Write) (x1 : Int) (x2 : Int) (Φ : Int × Bool → Prop) : Prop :=
 Join (Z82 x0 x2 Φ) fun J1 =>
 (x0.Volume ≠ x1 →
 J1 true) ∧
 (¬ (x0.Volume ≠ x1) →
 ((x0.Data.length : Int) = 0 →
 J1 true) ∧
 (¬ ((x0.Data.length : Int) = 0) →
 J1 (decide (x2 < x0.Start))))
def Z83 (x0 : List api_Write) (x1 : Int) (x2 : Int) (Φ : Sec × Bool → Prop) : (Int) → ((Int) → Prop) → Prop
 | v1, rec1 =>
 (0 ≤ v1 →
 inX v1 x0.length ∧
 ref22_holds_W (ix x0 v1) x1 x2 fun v2 =>
 (v2.2 = true →
 inX v1 x0.length ∧
 inX v2.1 ((ix x0 v1).Data).length ∧
 Φ ((ix ((ix x0 v1).Data) v2.1), true)) ∧
 (¬ (v2.2 = true) →
 inI (v1 - 1) ∧
 rec1 (v1 - 1))) ∧
 (¬ (0 ≤ v1) →
 Φ (sec0, false))
def Z84 (x0 : List api_Write) (x1 : Int) (x2 : Int) (Φ : Sec × Bool → Prop) : Prop :=
 inI ((x0.length : Int) - 1) ∧
 LoopW (Z83 x0 x1 x2 Φ) ((x0.length : Int) - 1)
def ref22_pick_L2 (x0 : List api_Write) (x1 : Int) (x2 : List api_Extent) (v1 : Int) (v2 : List api_Write) (rec1 : (Int × List api_Write) → Prop) (_ : List api_Write → Prop) : (Int × List Sec) → ((Int × List Sec) → Prop) → Prop
 | (v3, v4), rec2 =>
 inX v1 x2.length ∧
 (v3 < ((ix x2 v1).Count) →
 inX v1 x2.length ∧
 inI (((ix x2 v1).Start) + v3) ∧
 Z84 x0 x1 (((ix x2 v1).Start) + v3) fun v5 =>
 lenOk (v4 ++ ([v5.1] : List Sec)).length 8 ∧
 inI (v3 + 1) ∧
 rec2 ((v3 + 1), (v4 ++ ([v5.1] : List Sec)))) ∧
 (¬ (v3 < ((ix x2 v1).Count)) →
 lenOk (v2 ++ ([(api_Write.mk x1 ((ix x2 v1).Start) v4)] : List api_Write)).length 40 ∧
 inI (v1 + 1) ∧
 rec1 ((v1 + 1), (v2 ++ ([(api_Write.mk x1 ((ix x2 v1).Start) v4)] : List api_Write))))
def ref22_pick_L1 (x0 : List api_Write) (x1 : Int) (x2 : List api_Extent) (Φ : List api_Write → Prop) : (Int × List api_Write) → ((Int × List api_Write) → Prop) → Prop
 | (v1, v2), rec1 =>
 (v1 < (x2.length : Int) →
 inX v1 x2.length ∧
 LoopW (ref22_pick_L2 x0 x1 x2 v1 v2 rec1 Φ) (0, ([] : List Sec))) ∧
 (¬ (v1 < (x2.length : Int)) →
 Φ v2)
def ref22_pick_W (x0 : List api_Write) (x1 : Int) (x2 : List api_Extent) (Φ : List api_Write → Prop) : Prop :=
 LoopW (ref22_pick_L1 x0 x1 x2 Φ) (0, ([] : List api_Write))
def ref22_Fold_L2 (x0 : List api_Write) (Φ : List api_Write × Int → Prop) : (Int × List api_Write) → ((Int × List api_Write) → Prop) → Prop
 | (v4, v5), rec2 =>
 (v4 < 8 →
 Z80 x0 v4 fun v6 =>
 ref22_pick_W x0 v4 v6 fun v7 =>
 lenOk (v5 ++ v7).length 40 ∧
 inI (v4 + 1) ∧
 rec2 ((v4 + 1), (v5 ++ v7))) ∧
 (¬ (v4 < 8) →
 Φ (v5, 0))
def ref22_Fold_L1 (x0 : List api_Write) (Φ : List api_Write × Int → Prop) : (Int) → ((Int) → Prop) → Prop
 | v1, rec1 =>
 (v1 < (x0.length : Int) →
 ∃ v2 : List Int × Unit, ref22_Most_W (fun z => (z, ()) = v2) ∧
 inX v1 x0.length ∧
 ∃ v3 : Int × Unit, Z75 v2.1 (ix x0 v1) (fun z => (z, ()) = v3) ∧
 (v3.1 ≠ 0 →
 Φ (([] : List api_Write), v3.1)) ∧
 (¬ (v3.1 ≠ 0) →
 inI (v1 + 1) ∧
 rec1 (v1 + 1))) ∧
 (¬ (v1 < (x0.length : Int)) →
 LoopW (ref22_Fold_L2 x0 Φ) (0, ([] : List api_Write)))
def ref22_Fold_W (x0 : List api_Write) (Φ : List api_Write × Int → Prop) : Prop :=
 LoopW (ref22_Fold_L1 x0 Φ) 0
def ref22_Merge_W (x0 : List api_Write) (x1 : List api_Write) (Φ : List api_Write × Int → Prop) : Prop :=
 ref22_Most_W fun v1 =>
 ref22_Check_W x0 v1 fun v2 =>
 (v2 ≠ 0 →
 Φ (([] : List api_Write), v2)) ∧
 (¬ (v2 ≠ 0) →
 ref22_Most_W fun v3 =>
 ref22_Check_W x1 v3 fun v4 =>
 (v4 ≠ 0 →
 Φ (([] : List api_Write), v4)) ∧
 (¬ (v4 ≠ 0) →
 lenOk x0.length 40 ∧
 lenOk (x0 ++ x1).length 40 ∧
 ref22_Fold_W (x0 ++ x1) fun v5 =>
 Φ (v5.1, v5.2)))
def ref23_ints_W (x0 : List Int) (Φ : List Int → Prop) : Prop :=
 lenOk x0.length 8 ∧
 Φ x0
def Z85 (x0 : api_Cycle) (x1 : api_Cycle) (Φ : api_Cycle × Int → Prop) : (Int) → ((Int) → Prop) → Prop
 | v5, rec1 =>
 (v5 < (x0.Positions.length : Int) →
 inX v5 x1.Positions.length ∧
 inX v5 x0.Positions.length ∧
 ((ix x1.Positions v5) < (ix x0.Positions v5) →
 Φ ((api_Cycle.mk 0 0 0 ([] : List Int) ([] : List api_Write)), 2)) ∧
 (¬ ((ix x1.Positions v5) < (ix x0.Positions v5)) →
 inI (v5 + 1) ∧
 rec1 (v5 + 1))) ∧
 (¬ (v5 < (x0.Positions.length : Int)) →
 ref22_Merge_W x0.Writes x1.Writes fun v6 =>
 ∃ v7 : List Int × Unit, ref23_ints_W x1.Positions (fun z => (z, ()) = v7) ∧
 Φ ((api_Cycle.mk x0.Base x1.Number x1.Time v7.1 v6.1), v6.2))
def Z86 (x0 : api_Cycle) (x1 : api_Cycle) (Φ : api_Cycle × Int → Prop) : Prop :=
 ∃ v1 : List Int × Unit, ref22_Most_W (fun z => (z, ()) = v1) ∧
 ∃ v2 : Int × Unit, ref23_Check_W x0 v1.1 (fun z => (z, ()) = v2) ∧
 (v2.1 ≠ 0 →
 Φ ((api_Cycle.mk 0 0 0 ([] : List Int) ([] : List api_Write)), v2.1)) ∧
 (¬ (v2.1 ≠ 0) →
 ∃ v3 : List Int × Unit, ref22_Most_W (fun z => (z, ()) = v3) ∧
 ∃ v4 : Int × Unit, ref23_Check_W x1 v3.1 (fun z => (z, ()) = v4) ∧
 (v4.1 ≠ 0 →
 Φ ((api_Cycle.mk 0 0 0 ([] : List Int) ([] : List api_Write)), v4.1)) ∧
 (¬ (v4.1 ≠ 0) →
 (x0.Number ≠ x1.Base →
 Φ ((api_Cycle.mk 0 0 0 ([] : List Int) ([] : List api_Write)), 15)) ∧
 (¬ (x0.Number ≠ x1.Base) →
 ((x0.Positions.length : Int) ≠ (x1.Positions.length : Int) →
 Φ ((api_Cycle.mk 0 0 0 ([] : List Int) ([] : List api_Write)), 6)) ∧
 (¬ ((x0.Positions.length : Int) ≠ (x1.Positions.length : Int)) →
 (x1.Time < x0.Time →
 Φ ((api_Cycle.mk 0 0 0 ([] : List Int) ([] : List api_Write)), 24)) ∧
 (¬ (x1.Time < x0.Time) →
 LoopW (Z85 x0 x1 Φ) 0)))))
def Z87 (x0 : List (List Sec)) (Φ : List (List Sec) → Prop) : (List (List Sec) × Int) → ((List (List Sec) × Int) → Prop) → Prop
 | (v12, v20), rec1 =>
 (v20 < (x0.length : Int) →
 inX v20 x0.length ∧
 Z10 (ix x0 v20) fun v27 =>
 lenOk (v12 ++ [v27]).length 24 ∧
 inI (v20 + 1) ∧
 rec1 ((v12 ++ [v27]), v20 + 1)) ∧
 (¬ (v20 < (x0.length : Int)) →
 Φ v12)
def Z88 (x0 : List (List Sec)) (Φ : List (List Sec) → Prop) : Prop :=
 0 ≤ (x0.length : Int) ∧
 lenOk (x0.length : Int).toNat 24 ∧
 LoopW (Z87 x0 Φ) (([] : List (List Sec)), 0)
def Z89 (x0 : List (List Sec)) (Φ : List (List Sec) → Prop) : Prop :=
 Z88 x0 fun v2 =>
 Φ v2
def Z90 (x1 : List api_Write) (Φ : List (List Sec) × Int × Int → Prop) : (List (List Sec) × Int) → ((List (List Sec) × Int) → Prop) → Prop
 | (v16, v24), rec1 =>
 (v24 < (x1.length : Int) →
 inX v24 x1.length ∧
 image_fits_W v16 (ix x1 v24) fun v38 =>
 (v38 ≠ 0 →
 Φ (([] : List (List Sec)), v24, v38)) ∧
 (¬ (v38 ≠ 0) →
 inX ((ix x1 v24).Volume) v16.length ∧
 inS ((ix x1 v24).Start) ((ix v16 ((ix x1 v24).Volume)).length : Int) (ix v16 ((ix x1 v24).Volume)).length ∧
 inI (v24 + 1) ∧
 rec1 ((put v16 ((ix x1 v24).Volume) (paste (ix v16 ((ix x1 v24).Volume)) ((ix x1 v24).Start) ((ix x1 v24).Data))), v24 + 1))) ∧
 (¬ (v24 < (x1.length : Int)) →
 Φ (v16, 0, 0))
def image_Apply_W (x0 : List (List Sec)) (x1 : List api_Write) (Φ : List (List Sec) × Int × Int → Prop) : Prop :=
 image_Check_W x0 fun v3 =>
 (v3 ≠ 0 →
 Φ (([] : List (List Sec)), 0, v3)) ∧
 (¬ (v3 ≠ 0) →
 Z89 x0 fun v7 =>
 LoopW (Z90 x1 Φ) (v7, 0))
def Z91 (x0 : List (List Sec)) (x1 : api_Cycle) (Φ : List (List Sec) × Int → Prop) : (Int × List Int) → ((Int × List Int) → Prop) → Prop
 | (v2, v3), rec1 =>
 (v2 < (x0.length : Int) →
 inX v2 x0.length ∧
 lenOk (v3 ++ ([((ix x0 v2).length : Int)] : List Int)).length 8 ∧
 inI (v2 + 1) ∧
 rec1 ((v2 + 1), (v3 ++ ([((ix x0 v2).length : Int)] : List Int)))) ∧
 (¬ (v2 < (x0.length : Int)) →
 cycle_Check_W x1 v3 fun v4 =>
 (v4 ≠ 0 →
 Φ (([] : List (List Sec)), v4)) ∧
 (¬ (v4 ≠ 0) →
 image_Apply_W x0 x1.Writes fun v5 =>
 Φ (v5.1, v5.2.2)))
def cycle_Apply_W (x0 : List (List Sec)) (x1 : api_Cycle) (Φ : List (List Sec) × Int → Prop) : Prop :=
 image_Check_W x0 fun v1 =>
 (v1 ≠ 0 →
 Φ (([] : List (List Sec)), v1)) ∧
 (¬ (v1 ≠ 0) →
 LoopW (Z91 x0 x1 Φ) (0, ([] : List Int)))
def Z92 (x0 : List (List Sec)) (Φ : List Int → Prop) : (Int × List Int) → ((Int × List Int) → Prop) → Prop
 | (v1, v2), rec1 =>
 (v1 < (x0.length : Int) →
 inX v1 x0.length ∧
 lenOk (v2 ++ ([((ix x0 v1).length : Int)] : List Int)).length 8 ∧
 inI (v1 + 1) ∧
 rec1 ((v1 + 1), (v2 ++ ([((ix x0 v1).length : Int)] : List Int)))) ∧
 (¬ (v1 < (x0.length : Int)) →
 Φ v2)
def Z93 (x0 : List (List Sec)) (Φ : List Int → Prop) : Prop :=
 LoopW (Z92 x0 Φ) (0, ([] : List Int))
def ref07_Check_W (x0 : List (List Sec)) (Φ : Int → Prop) : Prop :=
 Z93 x0 fun v1 =>
 ref07_Sizes_W v1 fun v2 =>
 Φ v2
def ref07_Fits_W (x0 : List (List Sec)) (x1 : api_Write) (Φ : Int → Prop) : Prop :=
 ref07_Check_W x0 fun v1 =>
 (v1 ≠ 0 →
 Φ v1) ∧
 (¬ (v1 ≠ 0) →
 ∃ v2 : List Int × Unit, Z93 x0 (fun z => (z, ()) = v2) ∧
 ∃ v3 : Int × Unit, Z75 v2.1 x1 (fun z => (z, ()) = v3) ∧
 Φ v3.1)
def Z94 (x0 : List (List Sec)) (Φ : List (List Sec) → Prop) : (List (List Sec) × Int) → ((List (List Sec) × Int) → Prop) → Prop
 | (v4, v12), rec1 =>
 (v12 < (x0.length : Int) →
 inX v12 x0.length ∧
 lenOk (([] : List Sec) ++ (ix x0 v12)).length 8 ∧
 lenOk (v4 ++ [(([] : List Sec) ++ (ix x0 v12))]).length 24 ∧
 inI (v12 + 1) ∧
 rec1 ((v4 ++ [(([] : List Sec) ++ (ix x0 v12))]), v12 + 1)) ∧
 (¬ (v12 < (x0.length : Int)) →
 Φ v4)
def ref07_CopyE_W (x0 : List (List Sec)) (Φ : List (List Sec) → Prop) : Prop :=
 LoopW (Z94 x0 Φ) (([] : List (List Sec)), 0)
def Z95 (x1 : List api_Write) (v24 : Int) (rec1 : (List (List Sec) × Int) → Prop) (_ : List (List Sec) × Int × Int → Prop) : (List (List Sec) × Int) → ((List (List Sec) × Int) → Prop) → Prop
 | (v37, v45), rec2 =>
 (v45 < (((ix x1 v24).Data).length : Int) →
 inX ((ix x1 v24).Volume) v37.length ∧
 inI (((ix x1 v24).Start) + v45) ∧
 inX v45 ((ix x1 v24).Data).length ∧
 inX (((ix x1 v24).Start) + v45) (ix v37 ((ix x1 v24).Volume)).length ∧
 inI (v45 + 1) ∧
 rec2 ((put v37 ((ix x1 v24).Volume) (put (ix v37 ((ix x1 v24).Volume)) (((ix x1 v24).Start) + v45) (ix ((ix x1 v24).Data) v45))), v45 + 1)) ∧
 (¬ (v45 < (((ix x1 v24).Data).length : Int)) →
 inI (v24 + 1) ∧
 rec1 (v37, v24 + 1))
def Z96 (x0 : List (List Sec)) (x1 : List api_Write) (Φ : List (List Sec) × Int × Int → Prop) : (List (List Sec) × Int) → ((List (List Sec) × Int) → Prop) → Prop
 | (v16, v24), rec1 =>
 (v24 < (x1.length : Int) →
 inX v24 x1.length ∧
 ref07_Fits_W x0 (ix x1 v24) fun v31 =>
 (v31 ≠ 0 →
 Φ (([] : List (List Sec)), v24, v31)) ∧
 (¬ (v31 ≠ 0) →
 LoopW (Z95 x1 v24 rec1 Φ) (v16, 0))) ∧
 (¬ (v24 < (x1.length : Int)) →
 Φ (v16, 0, 0))
def ref07_Apply_W (x0 : List (List Sec)) (x1 : List api_Write) (Φ : List (List Sec) × Int × Int → Prop) : Prop :=
 ref07_Check_W x0 fun v3 =>
 (v3 ≠ 0 →
 Φ (([] : List (List Sec)), 0, v3)) ∧
 (¬ (v3 ≠ 0) →
 ref07_CopyE_W x0 fun v7 =>
 LoopW (Z96 x0 x1 Φ) (v7, 0))
def ref23_Apply_W (x0 : List (List Sec)) (x1 : api_Cycle) (Φ : List (List Sec) × Int → Prop) : Prop :=
 ref07_Check_W x0 fun v1 =>
 (v1 ≠ 0 →
 Φ (([] : List (List Sec)), v1)) ∧
 (¬ (v1 ≠ 0) →
 ∃ v2 : List Int × Unit, Z93 x0 (fun z => (z, ()) = v2) ∧
 ∃ v3 : Int × Unit, ref23_Check_W x1 v2.1 (fun z => (z, ()) = v3) ∧
 (v3.1 ≠ 0 →
 Φ (([] : List (List Sec)), v3.1)) ∧
 (¬ (v3.1 ≠ 0) →
 ref07_Apply_W x0 x1.Writes fun v4 =>
 Φ (v4.1, v4.2.2)))
def Z97 (x0 : List Int) (x1 : List Int) (Φ : Bool → Prop) : (Int) → ((Int) → Prop) → Prop
 | v1, rec1 =>
 (v1 < (x0.length : Int) →
 inX v1 x0.length ∧
 inX v1 x1.length ∧
 ((ix x0 v1) ≠ (ix x1 v1) →
 Φ false) ∧
 (¬ ((ix x0 v1) ≠ (ix x1 v1)) →
 inI (v1 + 1) ∧
 rec1 (v1 + 1))) ∧
 (¬ (v1 < (x0.length : Int)) →
 Φ true)
def Z98 (x0 : List Int) (x1 : List Int) (Φ : Bool → Prop) : Prop :=
 ((x0.length : Int) ≠ (x1.length : Int) →
 Φ false) ∧
 (¬ ((x0.length : Int) ≠ (x1.length : Int)) →
 LoopW (Z97 x0 x1 Φ) 0)
def ref23_Same_W (x0 : api_Cycle) (x1 : api_Cycle) (Φ : Bool → Prop) : Prop :=
 (x0.Base = x1.Base →
 (x0.Number = x1.Number →
 (x0.Time = x1.Time →
 Z98 x0.Positions x1.Positions fun v1 =>
 (v1 = true →
 Z45 x0.Writes x1.Writes fun v2 =>
 Φ v2) ∧
 (¬ (v1 = true) →
 Φ false)) ∧
 (¬ (x0.Time = x1.Time) →
 Φ false)) ∧
 (¬ (x0.Number = x1.Number) →
 Φ false)) ∧
 (¬ (x0.Base = x1.Base) →
 Φ false)
def Z99 (x0 : List Sec) (x1 : List Sec) (Φ : Bool → Prop) : (Int) → ((Int) → Prop) → Prop
 | v1, rec1 =>
 (v1 < (x0.length : Int) →
 inX v1 x0.length ∧
 inX v1 x1.length ∧
 ((ix x0 v1) ≠ (ix x1 v1) →
 Φ false) ∧
 (¬ ((ix x0 v1) ≠ (ix x1 v1)) →
 inI (v1 + 1) ∧
 rec1 (v1 + 1))) ∧
 (¬ (v1 < (x0.length : Int)) →
 Φ true)
def Z100 (x0 : List Sec) (x1 : List Sec) (Φ : Bool → Prop) : Prop :=
 ((x0.length : Int) ≠ (x1.length : Int) →
 Φ false) ∧
 (¬ ((x0.length : Int) ≠ (x1.length : Int)) →
 LoopW (Z99 x0 x1 Φ) 0)
def ref07_Same_L1 (x0 : List (List Sec)) (x1 : List (List Sec)) (Φ : Bool → Prop) : (Int) → ((Int) → Prop) → Prop
 | v1, rec1 =>
 (v1 < (x0.length : Int) →
 inX v1 x0.length ∧
 inX v1 x1.length ∧
 ∃ v2 : Bool × Unit, Z100 (ix x0 v1) (ix x1 v1) (fun z => (z, ()) = v2) ∧
 (¬ (v2.1 = true) →
 Φ false) ∧
 (¬ (¬ (v2.1 = true)) →
 inI (v1 + 1) ∧
 rec1 (v1 + 1))) ∧
 (¬ (v1 < (x0.length : Int)) →
 Φ true)
def ref07_Same_W (x0 : List (List Sec)) (x1 : List (List Sec)) (Φ : Bool → Prop) : Prop :=
 ((x0.length : Int) ≠ (x1.length : Int) →
 Φ false) ∧
 (¬ ((x0.length : Int) ≠ (x1.length : Int)) →
 LoopW (ref07_Same_L1 x0 x1 Φ) 0)
def Z101 (x0 : api_Cycle) (x1 : api_Cycle) (x2 : List (List Sec)) (Φ : Bool → Prop) : Bool → Prop
 | v1 =>
 (v1 = true →
 law23_awake_W fun v2 =>
 Φ v2) ∧
 (¬ (v1 = true) →
 Z70 x0 x1 fun v3 =>
 Z86 x0 x1 fun v4 =>
 cycle_Apply_W x2 x0 fun v5 =>
 ref23_Apply_W x2 x0 fun v6 =>
 law23_awake_W fun v7 =>
 (v7 = true →
 ref23_Same_W v3.1 v4.1 fun v8 =>
 (v8 = true →
 (v3.2 = v4.2 →
 ref07_Same_W v5.1 v6.1 fun v9 =>
 (v9 = true →
 Φ (decide (v5.2 = v6.2))) ∧
 (¬ (v9 = true) →
 Φ false)) ∧
 (¬ (v3.2 = v4.2) →
 Φ false)) ∧
 (¬ (v8 = true) →
 Φ false)) ∧
 (¬ (v7 = true) →
 Φ false))
def Z102 (x0 : api_Cycle) (x1 : api_Cycle) (x2 : List (List Sec)) (Φ : Bool → Prop) : Prop :=
 Join (Z101 x0 x1 x2 Φ) fun J1 =>
 ref23_Few_W x0 fun v10 =>
 (¬ (v10 = true) →
 J1 true) ∧
 (¬ (¬ (v10 = true)) →
 ref23_Few_W x1 fun v11 =>
 (¬ (v11 = true) →
 J1 true) ∧
 (¬ (¬ (v11 = true)) →
 ref07_Few_W x2 fun v12 =>
 J1 (decide (¬ (v12 = true)))))
def ghT : Hp → Prop := fun _ => True
def gh : Hp → Prop := fun _ => True
theorem ghUp : GUp gh := fun _ _ _ _ => trivial
def ct26 : Ct DD := ⟨26, [23], [4], [[false]], true, fun x Φ => ref22_Few_W x.1 fun y => Φ (y, ())⟩
def pl26 : List PE := [⟨[4, 1, 0, 1], [], [], ⟨[.int], [(0, .kp 0), (3, .v .int)], [], [], []⟩, false⟩, ⟨[0, 5, 4, 1, 0, 1], [], [], ⟨[.bool], [(0, .kp 0), (3, .kp 3), (11, .v .bool)], [], [], []⟩, true⟩]
def ct13 : Ct DD := ⟨13, [29], [4], [[false]], true, fun x Φ => ref23_Few_W x.1 fun y => Φ (y, ())⟩
def pl13 : List PE := []
def ct14 : Ct DD := ⟨14, [39], [4], [[false]], true, fun x Φ => ref07_Few_W x.1 fun y => Φ (y, ())⟩
def pl14 : List PE := [⟨[4, 1, 0, 1, 1], [], [], ⟨[.int], [(0, .kp 0), (3, .v .int)], [], [], []⟩, false⟩]
def ct136 : Ct DD := ⟨136, [3], [4], [[false]], true, fun x Φ => Z0 x.1 fun y => Φ (y, ())⟩
def pl136 : List PE := []
def ct96 : Ct DD := ⟨96, [22], [30], [[false]], true, fun x Φ => Z2 x.1 fun y => Φ (y, ())⟩
def pl96 : List PE := [⟨[4, 1, 0, 1, 12, 0, 1, 11, 0, 0, 1, 1], [], [], ⟨[.int], [(0, .kp 0), (1, .kp 1), (7, .kp 4), (8, .v .int)], [], [], []⟩, false⟩]
def ct122 : Ct DD := ⟨122, [3], [68], [[true]], false, fun x Φ => image_New_1_W x.1 fun y => Φ (y, ())⟩
def pl122 : List PE := []
def ct71 : Ct DD := ⟨71, [22], [39, 30], [[true], [false]], false, fun x Φ => image_New_W x.1 fun y => Φ (y.1, y.2, ())⟩
def pl71 : List PE := [⟨[4, 1, 0, 1, 1, 11, 0, 1, 1], [], [], ⟨[.int, .lst 68], [(1, .kp 2), (5, .own 0), (11, .kp 8), (12, .kp 9), (13, .v .int)], [], [68], []⟩, false⟩]
def ct35 : Ct DD := ⟨35, [3, 3, 3], [4], [[false]], true, fun x Φ => cycle_in_W x.1 x.2.1 x.2.2.1 fun y => Φ (y, ())⟩
def pl35 : List PE := []
def ct40 : Ct DD := ⟨40, [22], [22], [[true]], false, fun x Φ => Z3 x.1 fun y => Φ (y, ())⟩
def pl40 : List PE := []
def ct27 : Ct DD := ⟨27, [22, 3, 3], [25, 30], [[false, true, true, false, false], [false]], false, fun x Φ => cycle_Open_W x.1 x.2.1 x.2.2.1 fun y => Φ (y.1, y.2, ())⟩
def pl27 : List PE := []
def ct29 : Ct DD := ⟨29, [3, 3, 52], [70], [[false, false, true]], false, fun x Φ => law23_write_W x.1 x.2.1 x.2.2.1 fun y => Φ (y, ())⟩
def pl29 : List PE := [⟨[4, 1, 0, 1, 1], [], [0], ⟨[.int, .lst 130], [(2, .kp 4), (6, .kp 5), (7, .kp 9), (8, .v .int)], [(1, 70, [.kp 11,.kp 12,.own 0])], [130], []⟩, false⟩]
def ct123 : Ct DD := ⟨123, [3], [4], [[false]], true, fun x Φ => Z5 x.1 fun y => Φ (y, ())⟩
def pl123 : List PE := []
def ct72 : Ct DD := ⟨72, [22, 3], [30], [[false]], true, fun x Φ => Z7 x.1 x.2.1 fun y => Φ (y, ())⟩
def pl72 : List PE := [⟨[4, 1, 0, 1, 12, 0, 1, 11, 0, 0, 1, 1], [], [], ⟨[.int], [(0, .kp 0), (1, .kp 1), (7, .kp 4), (8, .v .int)], [], [], []⟩, false⟩]
def ct138 : Ct DD := ⟨138, [68], [3], [[false]], true, fun x Φ => Z8 x.1 fun y => Φ (y, ())⟩
def pl138 : List PE := []
def ct97 : Ct DD := ⟨97, [39], [22], [[true]], false, fun x Φ => image_sizes_W x.1 fun y => Φ (y, ())⟩
def pl97 : List PE := [⟨[4, 1, 0, 1, 1, 11, 0, 1], [], [], ⟨[.int, .lst 3], [(1, .kp 2), (5, .own 0), (11, .kp 8), (12, .kp 9), (13, .v .int)], [], [3], []⟩, false⟩]
def ct52 : Ct DD := ⟨52, [39], [30], [[false]], true, fun x Φ => image_Check_W x.1 fun y => Φ (y, ())⟩
def pl52 : List PE := []
def ct99 : Ct DD := ⟨99, [39, 70], [30], [[false]], true, fun x Φ => image_fits_W x.1 x.2.1 fun y => Φ (y, ())⟩
def pl99 : List PE := [⟨[4, 0, 1], [], [0], ⟨[.bool], [(0, .kp 1), (3, .kp 3), (5, .v .bool)], [], [], []⟩, true⟩]
def ct125 : Ct DD := ⟨125, [39, 70], [30], [[false]], true, fun x Φ => image_Fits_W x.1 x.2.1 fun y => Φ (y, ())⟩
def pl125 : List PE := []
def ct126 : Ct DD := ⟨126, [68], [68], [[true]], false, fun x Φ => Z10 x.1 fun y => Φ (y, ())⟩
def pl126 : List PE := []
def ct77 : Ct DD := ⟨77, [70], [70], [[false, false, true]], false, fun x Φ => Z11 x.1 fun y => Φ (y, ())⟩
def pl77 : List PE := []
def ct76 : Ct DD := ⟨76, [25], [25], [[false, true, true, true, true]], false, fun x Φ => Z13 x.1 fun y => Φ (y, ())⟩
def pl76 : List PE := [⟨[4, 1, 0, 1, 1, 1], [], [4, 3, 2, 0, 1], ⟨[.int, .lst 70], [(1, .kp 6), (2, .kp 7), (3, .own 0), (19, .kp 22), (20, .kp 23), (21, .v .int)], [], [70], []⟩, false⟩]
def ct28 : Ct DD := ⟨28, [25, 3, 70], [25, 30], [[false, true, true, true, true], [false]], false, fun x Φ => cycle_Add_W x.1 x.2.1 x.2.2.1 fun y => Φ (y.1, y.2, ())⟩
def pl28 : List PE := [⟨[0, 1, 1], [0, 1], [0, 1], ⟨[], [(0, .kp 0), (1, .kp 0), (3, .kp 0), (4, .kp 0)], [], [0, 0, 0, 1, 3, 4, 2, 5], []⟩, false⟩, ⟨[4, 1, 0, 1, 1, 1, 1, 1, 1, 12, 0, 1, 1], [19], [19, 18, 3, 2], ⟨[.int], [(1, .kp 21), (3, .kp 29), (38, .kp 56), (39, .kp 57), (40, .v .int)], [], [], []⟩, false⟩, ⟨[1, 4, 0, 1, 1, 5, 4, 1, 0, 1, 1, 1, 1, 1, 1, 12, 0, 1, 1], [], [], ⟨[], [], [], [8], []⟩, false⟩]
def ct79 : Ct DD := ⟨79, [3], [4], [[false]], true, fun x Φ => Z14 x.1 fun y => Φ (y, ())⟩
def pl79 : List PE := []
def it80 : It DD := ⟨80, [79, 4], [3, 70], fun x l => cycle_division_writes_1_I x.1 x.2.1 l⟩
def pl80 : List PE := [⟨[4, 1], [], [], ⟨[.int], [(0, .kp 0), (1, .kp 3), (2, .kp 4), (8, .kp 7), (9, .kp 8), (10, .v .int)], [], [], []⟩, false⟩, ⟨[0, 1, 4, 0, 1, 1, 5, 4, 1], [], [], ⟨[], [(2, .kp 0), (5, .kp 0), (7, .kp 0), (8, .kp 0), (9, .kp 0)], [], [0, 0, 2, 5, 0, 1, 3, 4, 6, 7, 8, 9, 10, 11, 12, 13], []⟩, false⟩]
def ct81 : Ct DD := ⟨81, [70], [30], [[false]], true, fun x Φ => Z17 x.1 fun y => Φ (y, ())⟩
def pl81 : List PE := [⟨[4, 0, 1], [], [0], ⟨[.bool], [(1, .kp 2), (3, .v .bool)], [], [], []⟩, true⟩]
def ct128 : Ct DD := ⟨128, [186], [186], [[false, false]], true, fun x Φ => Z18 x.1 fun y => Φ (y, ())⟩
def pl128 : List PE := []
def ct163 : Ct DD := ⟨163, [3], [4], [[false]], true, fun x Φ => Z19 x.1 fun y => Φ (y, ())⟩
def pl163 : List PE := []
def ct148 : Ct DD := ⟨148, [3, 3], [3], [[false]], true, fun x Φ => Z20 x.1 x.2.1 fun y => Φ (y, ())⟩
def pl148 : List PE := []
def ct147 : Ct DD := ⟨147, [22], [3], [[false]], true, fun x Φ => cmp_Or_int_W x.1 fun y => Φ (y, ())⟩
def pl147 : List PE := [⟨[4, 1, 0, 1, 1], [], [], ⟨[.int], [(3, .kp 2), (6, .kp 3), (7, .kp 4), (8, .v .int)], [], [], []⟩, false⟩]
def ct130 : Ct DD := ⟨130, [186, 186], [3], [[false]], true, fun x Φ => Z21 x.1 x.2.1 fun y => Φ (y, ())⟩
def pl130 : List PE := []
def tn129 : Tn DD := ⟨129, 186, [130], fun xs Φ => Z22 xs Φ⟩
def ct38 : Ct DD := ⟨38, [23], [23, 30], [[true], [false]], false, fun x Φ => Z29 x.1 fun y => Φ (y.1, y.2, ())⟩
def pl38 : List PE := [⟨[4, 1, 0, 1], [], [], ⟨[.int], [(0, .kp 0), (7, .kp 3), (8, .kp 4), (9, .v .int)], [], [], []⟩, false⟩, ⟨[4, 1, 0, 1, 1, 11, 0, 1, 1], [], [], ⟨[.int, .mp 186 130], [(3, .kp 9), (10, .kp 0), (11, .kp 10), (12, .v .int)], [], [], [(6, .map 186 130 true true)]⟩, false⟩, ⟨[4, 1, 1, 1, 4, 0, 1, 1, 5, 4, 1, 0, 1, 1, 11, 0, 1, 1], [], [12], ⟨[.int, .int, .int, .mp 186 130], [(3, .kp 9), (6, .kp 24), (10, .kp 0), (11, .kp 10), (12, .kp 14), (22, .kp 26), (23, .kp 27), (24, .v .int)], [(13, 186, [.v .int,.v .int])], [], [(6, .map 186 130 true true)]⟩, false⟩, ⟨[4, 1, 0, 1, 1, 12, 0, 1, 1], [], [6], ⟨[.itr, .lst 186], [(0, .kp 9), (3, .own 0), (14, .kp 18)], [], [186], [(13, .itr 6)]⟩, false⟩, ⟨[4, 1, 0, 1, 1, 1, 1, 1, 1, 12, 0, 1, 1], [], [13, 19, 6], ⟨[.int, .int, .int, .lst 70, .lst 130], [(0, .kp 9), (5, .own 0), (6, .kp 28), (26, .kp 29), (27, .kp 30), (28, .v .int)], [(20, 186, [.v .int,.v .int])], [300070, 130], []⟩, false⟩, ⟨[1, 4, 0, 1, 1, 5, 4, 1, 0, 1, 1, 1, 1, 1, 1, 12, 0, 1, 1], [], [36, 20], ⟨[.lst 70, .lst 130], [(0, .kp 9), (5, .own 0), (6, .kp 28), (8, .kp 42), (26, .kp 29), (27, .kp 30), (28, .kp 38)], [], [300070, 130], []⟩, true⟩]
def ct41 : Ct DD := ⟨41, [79, 3, 70], [70], [[false, false, true]], false, fun x Φ => Z33 x.1 x.2.1 x.2.2.1 fun y => Φ (y, ())⟩
def pl41 : List PE := [⟨[4, 1, 0, 1, 1], [5, 6], [6, 5, 3, 1, 0], ⟨[.lst 130], [], [(2, 70, [.kp 21,.kp 22,.own 0])], [130], []⟩, false⟩, ⟨[4, 1, 1, 4, 7, 4, 1, 0, 1, 1], [], [32], ⟨[.int, .lst 130], [(5, .kp 12), (8, .kp 36), (29, .kp 43), (30, .v .int)], [(2, 70, [.kp 21,.kp 22,.own 0])], [130], []⟩, false⟩, ⟨[0, 4, 7, 4, 1, 0, 1, 1], [], [32, 2, 31], ⟨[.bool], [(5, .kp 12), (8, .kp 36), (26, .v .bool)], [], [], []⟩, true⟩]
def ct9 : Ct DD := ⟨9, [25, 3, 22], [25, 29, 30], [[false, true, true, true, true], [false, false, false, true, true], [false]], false, fun x Φ => cycle_Close_W x.1 x.2.1 x.2.2.1 fun y => Φ (y.1, y.2.1, y.2.2, ())⟩
def pl9 : List PE := [⟨[4, 1, 0, 1, 1, 1, 1, 1, 1, 11, 0, 1, 1], [5], [5, 4, 3, 2, 1, 0], ⟨[.int], [(1, .kp 7), (3, .kp 15), (38, .kp 42), (39, .kp 43), (40, .v .int)], [], [], []⟩, false⟩, ⟨[1, 4, 0, 1, 1, 5, 4, 1, 0, 1, 1, 1, 1, 1, 1, 11, 0, 1, 1], [], [], ⟨[], [], [], [8], []⟩, false⟩, ⟨[4, 1, 0, 1, 1, 12, 0, 1, 1, 1, 1, 1], [], [67, 66, 5, 4, 3, 2, 1, 0], ⟨[.int, .lst 3], [(2, .kp 71), (4, .kp 72), (5, .own 0), (14, .kp 77), (15, .kp 78), (16, .v .int)], [], [3], []⟩, false⟩, ⟨[4, 1, 0, 1, 1, 1, 1, 12, 0, 1, 1, 1, 1, 1], [], [67, 66, 5, 4, 3, 2, 1, 0], ⟨[.int, .lst 3, .lst 4], [(4, .kp 72), (5, .own 0), (8, .kp 98), (41, .kp 89), (42, .kp 100), (43, .v .int)], [(92, 79, [.kp 102,.kp 103,.kp 104,.kp 105,.kp 106,.own 1])], [3, 4], []⟩, false⟩, ⟨[4, 1, 0, 1, 12, 0, 1, 11, 0, 1, 1, 1, 1, 1, 12, 0, 1, 1, 1, 1, 1], [], [92, 108, 109, 67, 66, 5, 4, 3, 2, 1, 0], ⟨[.int], [(0, .kp 110), (1, .kp 111), (7, .kp 114), (8, .v .int)], [], [], []⟩, false⟩, ⟨[4, 1, 0, 1, 1, 1, 1, 1, 1, 1], [119, 109, 120], [120, 119, 117, 92, 108, 109, 67, 66, 5, 4, 3, 2, 1, 0], ⟨[.lst 70], [], [(118, 23, [.own 0])], [70], []⟩, false⟩, ⟨[4, 1, 0, 1, 1, 1, 1, 1, 1, 1, 1, 1, 1, 1, 1], [164, 165], [165, 164, 162, 163, 161, 160, 2, 118, 159, 120, 119, 117, 92, 108, 109, 67, 66, 5, 4, 3, 0], ⟨[.lst 3, .lst 70], [], [(1, 25, [.kp 187,.kp 188,.kp 189,.own 0,.own 1])], [3, 70], []⟩, false⟩, ⟨[4, 1, 0, 1, 1, 1, 1, 1, 1, 1], [119, 109, 120], [120, 119, 117, 92, 108, 109, 67, 66, 5, 4, 3, 2, 1, 0], ⟨[.lst 70], [], [(118, 23, [.own 0])], [70], []⟩, false⟩, ⟨[4, 1, 0, 1, 1, 1, 1, 1, 1, 1, 1, 1, 1, 1, 1], [164, 165], [165, 164, 162, 163, 161, 160, 2, 118, 159, 120, 119, 117, 92, 108, 109, 67, 66, 5, 4, 3, 0], ⟨[.lst 3, .lst 70], [], [(1, 25, [.kp 187,.kp 188,.kp 189,.own 0,.own 1])], [3, 70], []⟩, false⟩]
def ct91 : Ct DD := ⟨91, [68, 68], [4], [[false]], true, fun x Φ => Z43 x.1 x.2.1 fun y => Φ (y, ())⟩
def pl91 : List PE := [⟨[4, 1, 0, 1, 1], [], [], ⟨[.int], [(0, .kp 0), (1, .kp 1), (5, .v .int)], [], [], []⟩, false⟩]
def ct47 : Ct DD := ⟨47, [23, 23], [4], [[false]], true, fun x Φ => Z45 x.1 x.2.1 fun y => Φ (y, ())⟩
def pl47 : List PE := [⟨[4, 1, 0, 1, 1], [], [], ⟨[.int], [(0, .kp 0), (1, .kp 1), (5, .v .int)], [], [], []⟩, false⟩]
def ct30 : Ct DD := ⟨30, [23, 23], [4], [[false]], true, fun x Φ => ref22_Same_W x.1 x.2.1 fun y => Φ (y, ())⟩
def pl30 : List PE := []
def ct150 : Ct DD := ⟨150, [222, 222], [222, 222], [[false], [false]], true, fun x Φ => Z46 x.1 x.2.1 fun y => Φ (y.1, y.2, ())⟩
def pl150 : List PE := []
def ct134 : Ct DD := ⟨134, [198, 198], [198, 198], [[false], [false]], true, fun x Φ => Z47 x.1 x.2.1 fun y => Φ (y.1, y.2, ())⟩
def pl134 : List PE := []
def ct92 : Ct DD := ⟨92, [22, 3], [22], [[true]], false, fun x Φ => Z50 x.1 x.2.1 fun y => Φ (y, ())⟩
def pl92 : List PE := [⟨[4, 0, 1, 1, 1, 1, 1, 1], [], [], ⟨[.int, .lst 3], [(7, .own 0), (8, .v .int)], [], [3], []⟩, false⟩, ⟨[0, 1, 1, 1], [], [], ⟨[.bool], [(0, .kp 0), (6, .kp 15), (26, .v .bool)], [], [], []⟩, true⟩]
def ct48 : Ct DD := ⟨48, [], [22], [[true]], false, fun _ Φ => Z51 fun y => Φ (y, ())⟩
def pl48 : List PE := []
def ct73 : Ct DD := ⟨73, [23, 22], [30], [[false]], true, fun x Φ => Z53 x.1 x.2.1 fun y => Φ (y, ())⟩
def pl73 : List PE := [⟨[4, 1, 0, 1, 12, 0, 1, 1, 1], [0], [1, 0], ⟨[.int], [(0, .kp 2), (1, .kp 3), (9, .kp 5), (10, .kp 6), (11, .v .int)], [], [], []⟩, false⟩]
def ct24 : Ct DD := ⟨24, [29, 22], [30], [[false]], true, fun x Φ => cycle_Check_W x.1 x.2.1 fun y => Φ (y, ())⟩
def pl24 : List PE := [⟨[4, 0, 1, 1], [], [1, 0], ⟨[.bool], [(1, .kp 3), (2, .kp 4), (16, .v .bool)], [], [], []⟩, true⟩]
def ct94 : Ct DD := ⟨94, [151], [23], [[true]], false, fun x Φ => Z58 x.1 fun y => Φ (y, ())⟩
def pl94 : List PE := [⟨[4, 1, 0, 1, 1], [], [], ⟨[.int, .int], [(0, .kp 0), (3, .v .int), (9, .kp 3), (10, .kp 4), (11, .v .int)], [], [], []⟩, false⟩, ⟨[4, 1, 0, 1, 1, 1, 1], [], [], ⟨[.int, .lst 70], [(6, .own 0), (25, .kp 0), (26, .kp 11), (27, .v .int)], [], [70], []⟩, false⟩, ⟨[1, 1, 1], [], [], ⟨[.lst 70], [(0, .kp 0), (6, .own 0)], [], [70], []⟩, true⟩]
def ct49 : Ct DD := ⟨49, [23, 23], [23, 30], [[true], [false]], false, fun x Φ => Z67 x.1 x.2.1 fun y => Φ (y.1, y.2, ())⟩
def pl49 : List PE := [⟨[4, 1, 0, 1], [], [0], ⟨[.int], [(0, .kp 1), (1, .kp 2), (11, .kp 7), (12, .kp 8), (13, .v .int)], [], [], []⟩, false⟩, ⟨[1, 4, 0, 1, 1, 5, 4, 1, 0, 1], [], [], ⟨[.int], [(0, .kp 1), (1, .kp 2), (8, .v .int), (11, .kp 7), (12, .kp 8), (13, .kp 10)], [], [], []⟩, true⟩, ⟨[4, 1, 0, 1, 11, 0, 1, 4, 0, 1, 1, 5, 4, 1, 0, 1], [], [], ⟨[.int], [(0, .kp 14), (1, .kp 15), (9, .kp 14), (10, .kp 17), (11, .v .int)], [], [], []⟩, false⟩, ⟨[4, 1, 0, 1, 1, 14, 0, 1, 1], [], [11, 10, 0], ⟨[.int, .mp 186 130], [(3, .kp 16), (10, .kp 17), (11, .kp 18), (12, .v .int)], [], [], [(12, .map 186 130 true true)]⟩, false⟩, ⟨[4, 1, 1, 1, 4, 0, 1, 1, 5, 4, 1, 0, 1, 1, 14, 0, 1, 1], [], [20], ⟨[.int, .int, .int, .mp 186 130], [(3, .kp 16), (6, .kp 32), (10, .kp 17), (11, .kp 18), (12, .kp 22), (22, .kp 34), (23, .kp 35), (24, .v .int)], [(21, 186, [.v .int,.v .int])], [], [(12, .map 186 130 true true)]⟩, false⟩, ⟨[4, 1, 0, 1, 1, 15, 0, 1, 1], [], [12, 11, 10, 0], ⟨[.itr, .lst 186], [(0, .kp 16), (3, .own 0), (14, .kp 26)], [], [186], [(21, .itr 12)]⟩, false⟩, ⟨[4, 1, 0, 1, 1, 1, 1, 1, 1, 15, 0, 1, 1], [], [21, 27, 12, 11, 10, 0], ⟨[.int, .int, .int, .lst 70, .lst 130], [(0, .kp 16), (5, .own 0), (6, .kp 36), (26, .kp 37), (27, .kp 38), (28, .v .int)], [(28, 186, [.v .int,.v .int])], [300070, 130], []⟩, false⟩, ⟨[1, 4, 0, 1, 1, 5, 4, 1, 0, 1, 1, 1, 1, 1, 1, 15, 0, 1, 1], [], [44, 28], ⟨[.lst 70, .lst 130], [(0, .kp 16), (5, .own 0), (6, .kp 36), (8, .kp 50), (26, .kp 37), (27, .kp 38), (28, .kp 46)], [], [300070, 130], []⟩, true⟩]
def ct15 : Ct DD := ⟨15, [29, 29], [29, 30], [[false, false, false, true, true], [false]], false, fun x Φ => Z70 x.1 x.2.1 fun y => Φ (y.1, y.2, ())⟩
def pl15 : List PE := [⟨[4, 1, 0, 1], [], [3, 1, 0], ⟨[.int], [(2, .kp 6), (3, .kp 7), (4, .kp 8), (15, .kp 12), (16, .kp 13), (17, .v .int)], [(2, 29, [.kp 15,.kp 16,.kp 17,.kp 18,.kp 19])], [], []⟩, false⟩, ⟨[4, 1, 0, 1, 1, 1], [], [3, 1, 0], ⟨[.int], [(2, .kp 6), (3, .kp 7), (4, .kp 8), (53, .kp 28), (54, .kp 47), (55, .v .int)], [(2, 29, [.kp 15,.kp 16,.kp 17,.kp 18,.kp 19])], [], []⟩, false⟩]
def ct8 : Ct DD := ⟨8, [], [4], [[false]], true, fun _ Φ => law23_awake_W fun y => Φ (y, ())⟩
def pl8 : List PE := [⟨[1, 1, 1, 1, 1, 1], [26, 28], [29, 23, 24, 25, 26, 27, 28, 22, 18, 19, 20, 21, 17, 16, 12, 13, 14, 15, 3, 11, 10, 6, 7, 8, 9, 5, 4, 1, 2, 0], ⟨[], [(1, .kp 36), (6, .kp 69)], [], [], []⟩, true⟩]
def ct25 : Ct DD := ⟨25, [], [22], [[true]], false, fun _ Φ => ref22_Most_W fun y => Φ (y, ())⟩
def pl25 : List PE := [⟨[4, 1, 0, 1, 1], [], [], ⟨[.int, .lst 3], [(1, .own 0), (2, .v .int)], [], [3], []⟩, false⟩]
def ct84 : Ct DD := ⟨84, [22], [3], [[false]], true, fun x Φ => ref07_Sizes_W x.1 fun y => Φ (y, ())⟩
def pl84 : List PE := [⟨[4, 1, 0, 1, 1], [], [], ⟨[.int], [(0, .kp 0), (3, .v .int)], [], [], []⟩, false⟩]
def ct85 : Ct DD := ⟨85, [22], [3], [[false]], true, fun x Φ => Z74 x.1 fun y => Φ (y, ())⟩
def pl85 : List PE := [⟨[4, 1, 0, 1], [], [], ⟨[.int], [(0, .kp 0), (3, .v .int)], [], [], []⟩, false⟩]
def ct86 : Ct DD := ⟨86, [22, 70], [3], [[false]], true, fun x Φ => Z75 x.1 x.2.1 fun y => Φ (y, ())⟩
def pl86 : List PE := []
def ct95 : Ct DD := ⟨95, [23, 22], [3], [[false]], true, fun x Φ => ref22_Check_W x.1 x.2.1 fun y => Φ (y, ())⟩
def pl95 : List PE := [⟨[4, 1, 0, 1, 1], [], [], ⟨[.int], [(0, .kp 0), (1, .kp 1), (6, .v .int)], [], [], []⟩, false⟩]
def ct50 : Ct DD := ⟨50, [29, 22], [3], [[false]], true, fun x Φ => ref23_Check_W x.1 x.2.1 fun y => Φ (y, ())⟩
def pl50 : List PE := []
def ct133 : Ct DD := ⟨133, [77], [148], [[true]], false, fun x Φ => ref01_List_W x.1 fun y => Φ (y, ())⟩
def pl133 : List PE := [⟨[4, 1, 0, 1, 1], [], [], ⟨[.int, .lst 195], [(0, .kp 0), (3, .own 0), (4, .v .int)], [], [195], []⟩, false⟩, ⟨[1, 4, 0, 1, 5, 4, 1, 0, 1, 1], [], [4], ⟨[.bool], [(0, .kp 0), (3, .kp 5), (4, .kp 6), (24, .v .bool)], [], [], []⟩, true⟩]
def ct90 : Ct DD := ⟨90, [23, 3], [148], [[true]], false, fun x Φ => Z80 x.1 x.2.1 fun y => Φ (y, ())⟩
def pl90 : List PE := [⟨[4, 1, 0, 1, 1], [], [], ⟨[.int, .lst 4], [(0, .kp 1), (1, .kp 2), (5, .own 0), (6, .v .int)], [], [4], []⟩, false⟩, ⟨[2, 1, 4, 0, 1, 5, 4, 1, 0, 1, 1], [], [], ⟨[], [], [], [13], []⟩, false⟩, ⟨[4, 1, 1, 1, 1, 1, 23, 2, 1, 4, 0, 1, 5, 4, 1, 0, 1, 1], [], [18], ⟨[.int, .lst 4], [(0, .kp 8), (5, .kp 38), (6, .v .int)], [], [], [(7, .row 4)]⟩, false⟩, ⟨[1, 1, 1, 23, 2, 1, 4, 0, 1, 5, 4, 1, 0, 1, 1], [], [18, 7], ⟨[.int, .int], [(0, .kp 8), (4, .v .int), (5, .v .int)], [], [], []⟩, true⟩]
def ct131 : Ct DD := ⟨131, [70, 3, 3], [3, 4], [[false], [false]], true, fun x Φ => ref22_holds_W x.1 x.2.1 x.2.2.1 fun y => Φ (y.1, y.2, ())⟩
def pl131 : List PE := [⟨[0, 1, 1], [], [0], ⟨[.bool], [(2, .kp 3), (3, .kp 4), (32, .v .bool)], [], [], []⟩, true⟩, ⟨[0, 1], [], [0], ⟨[.bool], [(2, .kp 3), (3, .kp 4), (25, .v .bool)], [], [], []⟩, true⟩]
def ct88 : Ct DD := ⟨88, [23, 3, 3], [130, 4], [[false, false, false, false, false, false, false, false], [false]], true, fun x Φ => Z84 x.1 x.2.1 x.2.2.1 fun y => Φ (y.1, y.2, ())⟩
def pl88 : List PE := [⟨[4, 1, 0, 1], [], [], ⟨[.int], [(0, .kp 1), (1, .kp 2), (2, .kp 3), (6, .kp 4), (8, .v .int)], [(0, 130, [.kp 10,.kp 11,.kp 12,.kp 13,.kp 14,.kp 15,.kp 16,.kp 17])], [], []⟩, false⟩]
def ct89 : Ct DD := ⟨89, [23, 3, 148], [23], [[true]], false, fun x Φ => ref22_pick_W x.1 x.2.1 x.2.2.1 fun y => Φ (y, ())⟩
def pl89 : List PE := [⟨[4, 1, 0, 1, 1], [], [], ⟨[.int, .lst 70], [(0, .kp 0), (1, .kp 1), (2, .kp 2), (7, .own 0), (8, .v .int)], [], [70], []⟩, false⟩, ⟨[4, 1, 0, 1, 4, 0, 1, 5, 4, 1, 0, 1, 1], [], [6], ⟨[.int, .lst 130], [(0, .kp 0), (1, .kp 1), (2, .kp 2), (7, .kp 8), (8, .kp 9), (9, .kp 18), (10, .v .int)], [(7, 70, [.kp 20,.kp 21,.own 0])], [130], []⟩, false⟩]
def ct45 : Ct DD := ⟨45, [23], [23, 3], [[true], [false]], false, fun x Φ => ref22_Fold_W x.1 fun y => Φ (y.1, y.2, ())⟩
def pl45 : List PE := [⟨[4, 1, 0, 1], [], [], ⟨[.int], [(0, .kp 0), (4, .v .int)], [], [], []⟩, false⟩, ⟨[4, 1, 0, 1, 1, 1], [], [], ⟨[.int, .lst 70], [(0, .kp 0), (6, .own 0), (7, .v .int)], [], [70], []⟩, false⟩]
def ct51 : Ct DD := ⟨51, [23, 23], [23, 3], [[true], [false]], false, fun x Φ => ref22_Merge_W x.1 x.2.1 fun y => Φ (y.1, y.2, ())⟩
def pl51 : List PE := []
def ct43 : Ct DD := ⟨43, [22], [22], [[true]], false, fun x Φ => ref23_ints_W x.1 fun y => Φ (y, ())⟩
def pl43 : List PE := []
def ct16 : Ct DD := ⟨16, [29, 29], [29, 3], [[false, false, false, true, true], [false]], false, fun x Φ => Z86 x.1 x.2.1 fun y => Φ (y.1, y.2, ())⟩
def pl16 : List PE := [⟨[4, 1, 0, 1, 1, 1, 1, 1, 1], [], [4, 3, 1, 0], ⟨[.int], [(2, .kp 7), (3, .kp 8), (4, .kp 9), (8, .v .int)], [(2, 29, [.kp 41,.kp 42,.kp 43,.kp 44,.kp 45])], [], []⟩, false⟩]
def ct53 : Ct DD := ⟨53, [39, 23], [39, 3, 30], [[true], [false], [false]], false, fun x Φ => image_Apply_W x.1 x.2.1 fun y => Φ (y.1, y.2.1, y.2.2, ())⟩
def ct17 : Ct DD := ⟨17, [39, 29], [39, 30], [[true], [false]], false, fun x Φ => cycle_Apply_W x.1 x.2.1 fun y => Φ (y.1, y.2, ())⟩
def pl17 : List PE := [⟨[4, 1, 0, 1, 1, 1], [], [0], ⟨[.int, .lst 3], [(0, .kp 1), (3, .kp 3), (7, .own 0), (19, .kp 12), (20, .kp 13), (21, .v .int)], [], [3], []⟩, false⟩]
def ct55 : Ct DD := ⟨55, [39], [22], [[true]], false, fun x Φ => Z93 x.1 fun y => Φ (y, ())⟩
def pl55 : List PE := [⟨[4, 1, 0, 1, 1], [], [], ⟨[.int, .lst 3], [(0, .kp 0), (3, .own 0), (4, .v .int)], [], [3], []⟩, false⟩]
def ct54 : Ct DD := ⟨54, [39], [3], [[false]], true, fun x Φ => ref07_Check_W x.1 fun y => Φ (y, ())⟩
def pl54 : List PE := []
def ct101 : Ct DD := ⟨101, [39, 70], [3], [[false]], true, fun x Φ => ref07_Fits_W x.1 x.2.1 fun y => Φ (y, ())⟩
def pl101 : List PE := []
def ct56 : Ct DD := ⟨56, [39, 23], [39, 3, 3], [[true], [false], [false]], false, fun x Φ => ref07_Apply_W x.1 x.2.1 fun y => Φ (y.1, y.2.1, y.2.2, ())⟩
def ct18 : Ct DD := ⟨18, [39, 29], [39, 3], [[true], [false]], false, fun x Φ => ref23_Apply_W x.1 x.2.1 fun y => Φ (y.1, y.2, ())⟩
def pl18 : List PE := []
def ct46 : Ct DD := ⟨46, [22, 22], [4], [[false]], true, fun x Φ => Z98 x.1 x.2.1 fun y => Φ (y, ())⟩
def pl46 : List PE := [⟨[4, 1, 0, 1, 1], [], [], ⟨[.int], [(0, .kp 0), (1, .kp 1), (5, .v .int)], [], [], []⟩, false⟩]
def ct12 : Ct DD := ⟨12, [29, 29], [4], [[false]], true, fun x Φ => ref23_Same_W x.1 x.2.1 fun y => Φ (y, ())⟩
def pl12 : List PE := []
def ct57 : Ct DD := ⟨57, [68, 68], [4], [[false]], true, fun x Φ => Z100 x.1 x.2.1 fun y => Φ (y, ())⟩
def pl57 : List PE := [⟨[4, 1, 0, 1, 1], [], [], ⟨[.int], [(0, .kp 0), (1, .kp 1), (5, .v .int)], [], [], []⟩, false⟩]
def ct19 : Ct DD := ⟨19, [39, 39], [4], [[false]], true, fun x Φ => ref07_Same_W x.1 x.2.1 fun y => Φ (y, ())⟩
def pl19 : List PE := [⟨[4, 1, 0, 1, 1], [], [], ⟨[.int], [(0, .kp 0), (1, .kp 1), (5, .v .int)], [], [], []⟩, false⟩]
def ct4 : Ct DD := ⟨4, [29, 29, 39], [4], [[false]], true, fun x Φ => Z102 x.1 x.2.1 x.2.2.1 fun y => Φ (y, ())⟩
def pl4 : List PE := [⟨[0, 1], [], [1, 0], ⟨[.bool], [(2, .kp 4), (3, .kp 5), (4, .kp 6), (27, .v .bool)], [], [], []⟩, true⟩]
theorem eq9 (x : TupD DD ct9.ps) (Φ : TupD DD ct9.rs → Prop) : ct9.W x Φ = topD ⟨Tryz.prog, tab, [ct35, ct38, ct40, ct41, ct71, ct72, ct79, ct125], pl9, [it80], gh, [], []⟩ 9 ct9.f ct9.ps ct9.rs ct9.own x Φ := by kernel_rfl
theorem eq4 (x : TupD DD ct4.ps) (Φ : TupD DD ct4.rs → Prop) : ct4.W x Φ = topF ⟨Tryz.prog, tab, [ct8, ct12, ct13, ct14, ct15, ct16, ct17, ct18, ct19], pl4, [], gh, [], []⟩ 9 ct4.f ct4.ps ct4.rs ct4.own x Φ := by kernel_rfl
theorem eq47 (x : TupD DD ct47.ps) (Φ : TupD DD ct47.rs → Prop) : ct47.W x Φ = topF ⟨Tryz.prog, tab, [ct91], pl47, [], gh, [], []⟩ 9 ct47.f ct47.ps ct47.rs ct47.own x Φ := by kernel_rfl
theorem eq50 (x : TupD DD ct50.ps) (Φ : TupD DD ct50.rs → Prop) : ct50.W x Φ = topF ⟨Tryz.prog, tab, [ct84, ct85, ct95], pl50, [], gh, [], []⟩ 9 ct50.f ct50.ps ct50.rs ct50.own x Φ := by kernel_rfl
theorem eq99 (x : TupD DD ct99.ps) (Φ : TupD DD ct99.rs → Prop) : ct99.W x Φ = topF ⟨Tryz.prog, tab, [], pl99, [], gh, [], []⟩ 9 ct99.f ct99.ps ct99.rs ct99.own x Φ := by kernel_rfl
theorem eq96 (x : TupD DD ct96.ps) (Φ : TupD DD ct96.rs → Prop) : ct96.W x Φ = topF ⟨Tryz.prog, tab, [ct136], pl96, [], gh, [], []⟩ 9 ct96.f ct96.ps ct96.rs ct96.own x Φ := by kernel_rfl
theorem eq81 (x : TupD DD ct81.ps) (Φ : TupD DD ct81.rs → Prop) : ct81.W x Φ = topF ⟨Tryz.prog, tab, [], pl81, [], gh, [], []⟩ 9 ct81.f ct81.ps ct81.rs ct81.own x Φ := by kernel_rfl
theorem eq84 (x : TupD DD ct84.ps) (Φ : TupD DD ct84.rs → Prop) : ct84.W x Φ = topF ⟨Tryz.prog, tab, [], pl84, [], gh, [], []⟩ 9 ct84.f ct84.ps ct84.rs ct84.own x Φ := by kernel_rfl
theorem eq55 (x : TupD DD ct55.ps) (Φ : TupD DD ct55.rs → Prop) : ct55.W x Φ = topF ⟨Tryz.prog, tab, [], pl55, [], gh, [], []⟩ 9 ct55.f ct55.ps ct55.rs ct55.own x Φ := by kernel_rfl
theorem eq12 (x : TupD DD ct12.ps) (Φ : TupD DD ct12.rs → Prop) : ct12.W x Φ = topF ⟨Tryz.prog, tab, [ct46, ct47], pl12, [], gh, [], []⟩ 9 ct12.f ct12.ps ct12.rs ct12.own x Φ := by kernel_rfl
theorem eq25 (x : TupD DD ct25.ps) (Φ : TupD DD ct25.rs → Prop) : ct25.W x Φ = topF ⟨Tryz.prog, tab, [], pl25, [], gh, [], []⟩ 9 ct25.f ct25.ps ct25.rs ct25.own x Φ := by kernel_rfl
theorem eq13 (x : TupD DD ct13.ps) (Φ : TupD DD ct13.rs → Prop) : ct13.W x Φ = topF ⟨Tryz.prog, tab, [ct26], pl13, [], gh, [], []⟩ 9 ct13.f ct13.ps ct13.rs ct13.own x Φ := by kernel_rfl
theorem eq134 (x : TupD DD ct134.ps) (Φ : TupD DD ct134.rs → Prop) : ct134.W x Φ = topF ⟨Tryz.prog, tab, [ct150], pl134, [], gh, [], []⟩ 9 ct134.f ct134.ps ct134.rs ct134.own x Φ := by kernel_rfl
theorem eq122 (x : TupD DD ct122.ps) (Φ : TupD DD ct122.rs → Prop) : ct122.W x Φ = topF ⟨Tryz.prog, tab, [], pl122, [], gh, [], []⟩ 9 ct122.f ct122.ps ct122.rs ct122.own x Φ := by kernel_rfl
theorem eq48 (x : TupD DD ct48.ps) (Φ : TupD DD ct48.rs → Prop) : ct48.W x Φ = topF ⟨Tryz.prog, tab, [ct92], pl48, [], gh, [], []⟩ 9 ct48.f ct48.ps ct48.rs ct48.own x Φ := by kernel_rfl
theorem eq163 (x : TupD DD ct163.ps) (Φ : TupD DD ct163.rs → Prop) : ct163.W x Φ = topF ⟨Tryz.prog, tab, [], pl163, [], gh, [], []⟩ 9 ct163.f ct163.ps ct163.rs ct163.own x Φ := by kernel_rfl
theorem eq49 (x : TupD DD ct49.ps) (Φ : TupD DD ct49.rs → Prop) : ct49.W x Φ = topF ⟨Tryz.prog, tab, [ct81, ct94, ct128], pl49, [], gh, [tn129], [([11, 0, 1, 1, 1, 1, 1, 1, 1, 15, 0, 1, 1], 0), ([16, 2, 1, 0, 1, 4, 0, 1, 1, 5, 4, 1, 0, 1, 1, 1, 1, 1, 1, 15, 0, 1, 1], 130002), ([17, 2, 1, 0, 1, 4, 0, 1, 1, 5, 4, 1, 0, 1, 1, 1, 1, 1, 1, 15, 0, 1, 1], 0)]⟩ 9 ct49.f ct49.ps ct49.rs ct49.own x Φ := by kernel_rfl
theorem eq41 (x : TupD DD ct41.ps) (Φ : TupD DD ct41.rs → Prop) : ct41.W x Φ = topF ⟨Tryz.prog, tab, [ct35, ct77], pl41, [it80], gh, [], []⟩ 9 ct41.f ct41.ps ct41.rs ct41.own x Φ := by kernel_rfl
theorem eq95 (x : TupD DD ct95.ps) (Φ : TupD DD ct95.rs → Prop) : ct95.W x Φ = topF ⟨Tryz.prog, tab, [ct84, ct86], pl95, [], gh, [], []⟩ 9 ct95.f ct95.ps ct95.rs ct95.own x Φ := by kernel_rfl
theorem eq89 (x : TupD DD ct89.ps) (Φ : TupD DD ct89.rs → Prop) : ct89.W x Φ = topF ⟨Tryz.prog, tab, [ct88], pl89, [], gh, [], []⟩ 9 ct89.f ct89.ps ct89.rs ct89.own x Φ := by kernel_rfl
theorem eq131 (x : TupD DD ct131.ps) (Φ : TupD DD ct131.rs → Prop) : ct131.W x Φ = topF ⟨Tryz.prog, tab, [], pl131, [], gh, [], []⟩ 9 ct131.f ct131.ps ct131.rs ct131.own x Φ := by kernel_rfl
theorem eq24 (x : TupD DD ct24.ps) (Φ : TupD DD ct24.rs → Prop) : ct24.W x Φ = topF ⟨Tryz.prog, tab, [ct35, ct71, ct72, ct73], pl24, [], gh, [], []⟩ 9 ct24.f ct24.ps ct24.rs ct24.own x Φ := by kernel_rfl
theorem eq71 (x : TupD DD ct71.ps) (Φ : TupD DD ct71.rs → Prop) : ct71.W x Φ = topF ⟨Tryz.prog, tab, [ct96, ct122], pl71, [], gh, [], []⟩ 9 ct71.f ct71.ps ct71.rs ct71.own x Φ := by kernel_rfl
theorem eq19 (x : TupD DD ct19.ps) (Φ : TupD DD ct19.rs → Prop) : ct19.W x Φ = topF ⟨Tryz.prog, tab, [ct57], pl19, [], gh, [], []⟩ 9 ct19.f ct19.ps ct19.rs ct19.own x Φ := by kernel_rfl
theorem eq88 (x : TupD DD ct88.ps) (Φ : TupD DD ct88.rs → Prop) : ct88.W x Φ = topF ⟨Tryz.prog, tab, [ct131], pl88, [], gh, [], []⟩ 9 ct88.f ct88.ps ct88.rs ct88.own x Φ := by kernel_rfl
theorem eq91 (x : TupD DD ct91.ps) (Φ : TupD DD ct91.rs → Prop) : ct91.W x Φ = topF ⟨Tryz.prog, tab, [], pl91, [], gh, [], []⟩ 9 ct91.f ct91.ps ct91.rs ct91.own x Φ := by kernel_rfl
theorem eq97 (x : TupD DD ct97.ps) (Φ : TupD DD ct97.rs → Prop) : ct97.W x Φ = topF ⟨Tryz.prog, tab, [ct138], pl97, [], gh, [], []⟩ 9 ct97.f ct97.ps ct97.rs ct97.own x Φ := by kernel_rfl
theorem eq148 (x : TupD DD ct148.ps) (Φ : TupD DD ct148.rs → Prop) : ct148.W x Φ = topF ⟨Tryz.prog, tab, [ct163], pl148, [], gh, [], []⟩ 9 ct148.f ct148.ps ct148.rs ct148.own x Φ := by kernel_rfl
theorem eq125 (x : TupD DD ct125.ps) (Φ : TupD DD ct125.rs → Prop) : ct125.W x Φ = topF ⟨Tryz.prog, tab, [ct52, ct99], pl125, [], gh, [], []⟩ 9 ct125.f ct125.ps ct125.rs ct125.own x Φ := by kernel_rfl
theorem eq77 (x : TupD DD ct77.ps) (Φ : TupD DD ct77.rs → Prop) : ct77.W x Φ = topF ⟨Tryz.prog, tab, [ct126], pl77, [], gh, [], []⟩ 9 ct77.f ct77.ps ct77.rs ct77.own x Φ := by kernel_rfl
theorem eq52 (x : TupD DD ct52.ps) (Φ : TupD DD ct52.rs → Prop) : ct52.W x Φ = topF ⟨Tryz.prog, tab, [ct96, ct97], pl52, [], gh, [], []⟩ 9 ct52.f ct52.ps ct52.rs ct52.own x Φ := by kernel_rfl
theorem eq136 (x : TupD DD ct136.ps) (Φ : TupD DD ct136.rs → Prop) : ct136.W x Φ = topF ⟨Tryz.prog, tab, [], pl136, [], gh, [], []⟩ 9 ct136.f ct136.ps ct136.rs ct136.own x Φ := by kernel_rfl
theorem eq79 (x : TupD DD ct79.ps) (Φ : TupD DD ct79.rs → Prop) : ct79.W x Φ = topF ⟨Tryz.prog, tab, [], pl79, [], gh, [], []⟩ 9 ct79.f ct79.ps ct79.rs ct79.own x Φ := by kernel_rfl
theorem eq38 (x : TupD DD ct38.ps) (Φ : TupD DD ct38.rs → Prop) : ct38.W x Φ = topF ⟨Tryz.prog, tab, [ct81, ct128], pl38, [], gh, [tn129], [([11, 0, 1, 1, 1, 1, 1, 1, 1, 12, 0, 1, 1], 0), ([16, 2, 1, 0, 1, 4, 0, 1, 1, 5, 4, 1, 0, 1, 1, 1, 1, 1, 1, 12, 0, 1, 1], 130002), ([17, 2, 1, 0, 1, 4, 0, 1, 1, 5, 4, 1, 0, 1, 1, 1, 1, 1, 1, 12, 0, 1, 1], 0)]⟩ 9 ct38.f ct38.ps ct38.rs ct38.own x Φ := by kernel_rfl
theorem eq90 (x : TupD DD ct90.ps) (Φ : TupD DD ct90.rs → Prop) : ct90.W x Φ = topF ⟨Tryz.prog, tab, [ct133], pl90, [], gh, [], []⟩ 9 ct90.f ct90.ps ct90.rs ct90.own x Φ := by kernel_rfl
theorem eq94 (x : TupD DD ct94.ps) (Φ : TupD DD ct94.rs → Prop) : ct94.W x Φ = topF ⟨Tryz.prog, tab, [], pl94, [], gh, [], [([19, 2, 1, 1, 0, 1, 1, 11, 0, 1, 1, 1], 0)]⟩ 9 ct94.f ct94.ps ct94.rs ct94.own x Φ := by kernel_rfl
theorem eq73 (x : TupD DD ct73.ps) (Φ : TupD DD ct73.rs → Prop) : ct73.W x Φ = topF ⟨Tryz.prog, tab, [ct71, ct125], pl73, [], gh, [], []⟩ 9 ct73.f ct73.ps ct73.rs ct73.own x Φ := by kernel_rfl
theorem eq133 (x : TupD DD ct133.ps) (Φ : TupD DD ct133.rs → Prop) : ct133.W x Φ = topF ⟨Tryz.prog, tab, [], pl133, [], gh, [], []⟩ 9 ct133.f ct133.ps ct133.rs ct133.own x Φ := by kernel_rfl
theorem eq45 (x : TupD DD ct45.ps) (Φ : TupD DD ct45.rs → Prop) : ct45.W x Φ = topF ⟨Tryz.prog, tab, [ct25, ct86, ct89, ct90], pl45, [], gh, [], []⟩ 9 ct45.f ct45.ps ct45.rs ct45.own x Φ := by kernel_rfl
theorem eq17 (x : TupD DD ct17.ps) (Φ : TupD DD ct17.rs → Prop) : ct17.W x Φ = topF ⟨Tryz.prog, tab, [ct24, ct52, ct53], pl17, [], gh, [], []⟩ 9 ct17.f ct17.ps ct17.rs ct17.own x Φ := by kernel_rfl
theorem eqi80 (x : TupD DD it80.cs) (l : List (TupD DD it80.ts)) : it80.W x l = iterF ⟨Tryz.prog, tab, [], pl80, [], gh, [], []⟩ it80.f it80.cs it80.ts x l := by kernel_rfl
theorem eq26 (x : TupD DD ct26.ps) (Φ : TupD DD ct26.rs → Prop) : ct26.W x Φ = topF ⟨Tryz.prog, tab, [], pl26, [], gh, [], []⟩ 9 ct26.f ct26.ps ct26.rs ct26.own x Φ := by kernel_rfl
theorem eq29 (x : TupD DD ct29.ps) (Φ : TupD DD ct29.rs → Prop) : ct29.W x Φ = topF ⟨Tryz.prog, tab, [], pl29, [], gh, [], []⟩ 9 ct29.f ct29.ps ct29.rs ct29.own x Φ := by kernel_rfl
theorem eq46 (x : TupD DD ct46.ps) (Φ : TupD DD ct46.rs → Prop) : ct46.W x Φ = topF ⟨Tryz.prog, tab, [], pl46, [], gh, [], []⟩ 9 ct46.f ct46.ps ct46.rs ct46.own x Φ := by kernel_rfl
theorem eq51 (x : TupD DD ct51.ps) (Φ : TupD DD ct51.rs → Prop) : ct51.W x Φ = topF ⟨Tryz.prog, tab, [ct25, ct45, ct95], pl51, [], gh, [], []⟩ 9 ct51.f ct51.ps ct51.rs ct51.own x Φ := by kernel_rfl
theorem eq18 (x : TupD DD ct18.ps) (Φ : TupD DD ct18.rs → Prop) : ct18.W x Φ = topF ⟨Tryz.prog, tab, [ct50, ct54, ct55, ct56], pl18, [], gh, [], []⟩ 9 ct18.f ct18.ps ct18.rs ct18.own x Φ := by kernel_rfl
theorem eq147 (x : TupD DD ct147.ps) (Φ : TupD DD ct147.rs → Prop) : ct147.W x Φ = topF ⟨Tryz.prog, tab, [], pl147, [], gh, [], []⟩ 9 ct147.f ct147.ps ct147.rs ct147.own x Φ := by kernel_rfl
theorem eq40 (x : TupD DD ct40.ps) (Φ : TupD DD ct40.rs → Prop) : ct40.W x Φ = topF ⟨Tryz.prog, tab, [], pl40, [], gh, [], []⟩ 9 ct40.f ct40.ps ct40.rs ct40.own x Φ := by kernel_rfl
theorem eq35 (x : TupD DD ct35.ps) (Φ : TupD DD ct35.rs → Prop) : ct35.W x Φ = topF ⟨Tryz.prog, tab, [], pl35, [], gh, [], []⟩ 9 ct35.f ct35.ps ct35.rs ct35.own x Φ := by kernel_rfl
theorem eq30 (x : TupD DD ct30.ps) (Φ : TupD DD ct30.rs → Prop) : ct30.W x Φ = topF ⟨Tryz.prog, tab, [ct47], pl30, [], gh, [], []⟩ 9 ct30.f ct30.ps ct30.rs ct30.own x Φ := by kernel_rfl
theorem eq43 (x : TupD DD ct43.ps) (Φ : TupD DD ct43.rs → Prop) : ct43.W x Φ = topF ⟨Tryz.prog, tab, [], pl43, [], gh, [], []⟩ 9 ct43.f ct43.ps ct43.rs ct43.own x Φ := by kernel_rfl
theorem eq138 (x : TupD DD ct138.ps) (Φ : TupD DD ct138.rs → Prop) : ct138.W x Φ = topF ⟨Tryz.prog, tab, [], pl138, [], gh, [], []⟩ 9 ct138.f ct138.ps ct138.rs ct138.own x Φ := by kernel_rfl
theorem eq28 (x : TupD DD ct28.ps) (Φ : TupD DD ct28.rs → Prop) : ct28.W x Φ = topD ⟨Tryz.prog, tab, [ct35, ct71, ct72, ct76, ct77, ct125], pl28, [], gh, [], []⟩ 9 ct28.f ct28.ps ct28.rs ct28.own x Φ := by kernel_rfl
theorem eq8 (x : TupD DD ct8.ps) (Φ : TupD DD ct8.rs → Prop) : ct8.W x Φ = topF ⟨Tryz.prog, tab, [ct9, ct15, ct27, ct28, ct29, ct30], pl8, [], gh, [], []⟩ 9 ct8.f ct8.ps ct8.rs ct8.own x Φ := by kernel_rfl
theorem eq15 (x : TupD DD ct15.ps) (Φ : TupD DD ct15.rs → Prop) : ct15.W x Φ = topF ⟨Tryz.prog, tab, [ct24, ct40, ct48, ct49], pl15, [], gh, [], []⟩ 9 ct15.f ct15.ps ct15.rs ct15.own x Φ := by kernel_rfl
theorem eq16 (x : TupD DD ct16.ps) (Φ : TupD DD ct16.rs → Prop) : ct16.W x Φ = topF ⟨Tryz.prog, tab, [ct25, ct43, ct50, ct51], pl16, [], gh, [], []⟩ 9 ct16.f ct16.ps ct16.rs ct16.own x Φ := by kernel_rfl
theorem eq92 (x : TupD DD ct92.ps) (Φ : TupD DD ct92.rs → Prop) : ct92.W x Φ = topF ⟨Tryz.prog, tab, [ct134], pl92, [], gh, [], []⟩ 9 ct92.f ct92.ps ct92.rs ct92.own x Φ := by kernel_rfl
theorem eq76 (x : TupD DD ct76.ps) (Φ : TupD DD ct76.rs → Prop) : ct76.W x Φ = topF ⟨Tryz.prog, tab, [ct40, ct77], pl76, [], gh, [], []⟩ 9 ct76.f ct76.ps ct76.rs ct76.own x Φ := by kernel_rfl
theorem eq27 (x : TupD DD ct27.ps) (Φ : TupD DD ct27.rs → Prop) : ct27.W x Φ = topF ⟨Tryz.prog, tab, [ct35, ct40, ct71], pl27, [], gh, [], []⟩ 9 ct27.f ct27.ps ct27.rs ct27.own x Φ := by kernel_rfl
theorem eq86 (x : TupD DD ct86.ps) (Φ : TupD DD ct86.rs → Prop) : ct86.W x Φ = topF ⟨Tryz.prog, tab, [], pl86, [], gh, [], []⟩ 9 ct86.f ct86.ps ct86.rs ct86.own x Φ := by kernel_rfl
theorem eq72 (x : TupD DD ct72.ps) (Φ : TupD DD ct72.rs → Prop) : ct72.W x Φ = topF ⟨Tryz.prog, tab, [ct35, ct123], pl72, [], gh, [], []⟩ 9 ct72.f ct72.ps ct72.rs ct72.own x Φ := by kernel_rfl
theorem eq150 (x : TupD DD ct150.ps) (Φ : TupD DD ct150.rs → Prop) : ct150.W x Φ = topF ⟨Tryz.prog, tab, [], pl150, [], gh, [], []⟩ 9 ct150.f ct150.ps ct150.rs ct150.own x Φ := by kernel_rfl
theorem eq57 (x : TupD DD ct57.ps) (Φ : TupD DD ct57.rs → Prop) : ct57.W x Φ = topF ⟨Tryz.prog, tab, [], pl57, [], gh, [], []⟩ 9 ct57.f ct57.ps ct57.rs ct57.own x Φ := by kernel_rfl
theorem eq85 (x : TupD DD ct85.ps) (Φ : TupD DD ct85.rs → Prop) : ct85.W x Φ = topF ⟨Tryz.prog, tab, [], pl85, [], gh, [], []⟩ 9 ct85.f ct85.ps ct85.rs ct85.own x Φ := by kernel_rfl
theorem eq14 (x : TupD DD ct14.ps) (Φ : TupD DD ct14.rs → Prop) : ct14.W x Φ = topF ⟨Tryz.prog, tab, [], pl14, [], gh, [], []⟩ 9 ct14.f ct14.ps ct14.rs ct14.own x Φ := by kernel_rfl
theorem eq130 (x : TupD DD ct130.ps) (Φ : TupD DD ct130.rs → Prop) : ct130.W x Φ = topF ⟨Tryz.prog, tab, [ct147, ct148], pl130, [], gh, [], []⟩ 9 ct130.f ct130.ps ct130.rs ct130.own x Φ := by kernel_rfl
theorem eq126 (x : TupD DD ct126.ps) (Φ : TupD DD ct126.rs → Prop) : ct126.W x Φ = topF ⟨Tryz.prog, tab, [], pl126, [], gh, [], []⟩ 9 ct126.f ct126.ps ct126.rs ct126.own x Φ := by kernel_rfl
theorem eq128 (x : TupD DD ct128.ps) (Φ : TupD DD ct128.rs → Prop) : ct128.W x Φ = topF ⟨Tryz.prog, tab, [], pl128, [], gh, [], []⟩ 9 ct128.f ct128.ps ct128.rs ct128.own x Φ := by kernel_rfl
theorem eq54 (x : TupD DD ct54.ps) (Φ : TupD DD ct54.rs → Prop) : ct54.W x Φ = topF ⟨Tryz.prog, tab, [ct55, ct84], pl54, [], gh, [], []⟩ 9 ct54.f ct54.ps ct54.rs ct54.own x Φ := by kernel_rfl
theorem eq123 (x : TupD DD ct123.ps) (Φ : TupD DD ct123.rs → Prop) : ct123.W x Φ = topF ⟨Tryz.prog, tab, [ct35], pl123, [], gh, [], []⟩ 9 ct123.f ct123.ps ct123.rs ct123.own x Φ := by kernel_rfl
def cmpI (a b : Int) : Int := if a < b then -1 else if b < a then 1 else 0
def cmpP (a b : coalesce_place) : Int := if cmpI a.volume b.volume ≠ 0 then cmpI a.volume b.volume else cmpI a.sector b.sector
theorem cmpI_W (a b : Int) {Φ : Int → Prop} (h : Φ (cmpI a b)) : Z20 a b Φ := by
  unfold cmpI at h
  unfold Z20 Z19
  refine ⟨fun e => absurd e (by simp), fun _ => ⟨fun e => absurd e (by simp), fun _ => ⟨fun e => ?_, fun e => ⟨fun e2 => ?_, fun e2 => ?_⟩⟩⟩⟩
  · rw [if_pos e] at h; exact h
  · rw [if_neg e, if_pos e2] at h; exact h
  · rw [if_neg e, if_neg e2] at h; exact h
theorem before_ok (x y : coalesce_place) : Z21 x y fun v => v = cmpP x y := by
  unfold Z21
  refine ⟨(cmpI x.volume y.volume, ()), cmpI_W _ _ rfl, (cmpI x.sector y.sector, ()), cmpI_W _ _ rfl, (cmpP x y, ()), ?_, rfl⟩
  refine ⟨3, ⟨fun _ => ⟨⟨by decide, by simp⟩, fun h => ?_, fun h => ⟨by unfold inI; decide, ⟨fun _ => ⟨⟨by decide, by simp⟩, fun h2 => ?_, fun h2 => ⟨by unfold inI; decide, ⟨fun h3 => absurd h3 (by simp), fun _ => ?_⟩⟩⟩, fun h2 => absurd (show (0 + 1 : Int) < _ by simp) h2⟩⟩⟩, fun h => absurd (show (0 : Int) < _ by simp) h⟩⟩
  · have h : cmpI x.volume y.volume ≠ 0 := h
    show (cmpI x.volume y.volume, ()) = (cmpP x y, ())
    unfold cmpP
    rw [if_pos h]
  · have h : ¬ (cmpI x.volume y.volume ≠ 0) := h
    show (cmpI x.sector y.sector, ()) = (cmpP x y, ())
    unfold cmpP
    rw [if_neg h]
  · have h : ¬ (cmpI x.volume y.volume ≠ 0) := h
    have h2 : ¬ (cmpI x.sector y.sector ≠ 0) := h2
    show ((0 : Int), ()) = (cmpP x y, ())
    unfold cmpP
    rw [if_neg h, Decidable.not_not.1 h2]
theorem cmpI_lt {a b : Int} : cmpI a b < 0 ↔ a < b := by unfold cmpI; split <;> (try split) <;> omega
theorem cmpI_eq {a b : Int} : cmpI a b = 0 ↔ a = b := by unfold cmpI; split <;> (try split) <;> omega
theorem cmpP_lt {a b : coalesce_place} : cmpP a b < 0 ↔ a.volume < b.volume ∨ a.volume = b.volume ∧ a.sector < b.sector := by
  have h1 := cmpI_lt (a := a.volume) (b := b.volume)
  have h2 := cmpI_eq (a := a.volume) (b := b.volume)
  have h3 := cmpI_lt (a := a.sector) (b := b.sector)
  unfold cmpP
  split <;> omega
theorem ltP (a b : coalesce_place) : ltOf cmpP a b = decide (a.volume < b.volume ∨ a.volume = b.volume ∧ a.sector < b.sector) := by
  unfold ltOf
  exact decide_eq_decide.2 cmpP_lt
theorem swoP : Sort.SWO (ltOf cmpP) where
  irrefl x := by rw [ltP]; simp
  trans x y z h1 h2 := by rw [ltP] at *; simp only [decide_eq_true_eq] at *; omega
  ntrans x y z h1 h2 := by rw [ltP] at *; simp only [decide_eq_false_iff_not] at *; omega
theorem place_ext {x y : coalesce_place} (h1 : x.volume = y.volume) (h2 : x.sector = y.sector) : x = y := by
  cases x; cases y
  simp only at h1 h2
  subst h1 h2; rfl
theorem cmpP_total : ∀ x y : coalesce_place, ltOf cmpP x y = false → ltOf cmpP y x = false → x = y := fun x y h1 h2 => by
  rw [ltP] at *
  simp only [decide_eq_false_iff_not] at *
  exact place_ext (by omega) (by omega)
theorem ple_total (a b : coalesce_place) : pleB a b = true ∨ pleB b a = true := by unfold pleB; simp only [decide_eq_true_eq]; omega
theorem ple_trans (a b c : coalesce_place) (h : pleB a b = true) (k : pleB b c = true) : pleB a c = true := by unfold pleB at *; simp only [decide_eq_true_eq] at *; omega
theorem ple_anti (a b : coalesce_place) (h : pleB a b = true) (k : pleB b a = true) : a = b := by unfold pleB at *; simp only [decide_eq_true_eq] at *; exact place_ext (by omega) (by omega)
theorem mergeP (l : List coalesce_place) : (l.mergeSort fun x y => !(ltOf cmpP) y x) = sortG pleB l := by
  have e : (fun x y : coalesce_place => !(ltOf cmpP) y x) = pleB := by
    funext x y
    rw [ltP]
    unfold pleB
    by_cases h : y.volume < x.volume ∨ y.volume = x.volume ∧ y.sector < x.sector
    · rw [decide_eq_true h, decide_eq_false (by omega)]; rfl
    · rw [decide_eq_false h, decide_eq_true (by omega)]; rfl
  rw [e]
  exact sortG_of ple_total ple_trans ple_anti (List.mergeSort_perm l _) (List.pairwise_mergeSort (fun a b c h k => ple_trans a b c h k) (fun a b => by have := ple_total a b; simpa using this) l)
theorem mo : Tryz.prog.follows .mixedOrders = true := by kernel_rfl
theorem ok26 : ct26.Ok Tryz.prog tab gh := Ct.lift (E := ⟨Tryz.prog, tab, [], pl26, [], gh, [], []⟩) ⟨tabOk, trivial, mo, trivial, ghUp, trivial⟩ 9 ct26 fun x Φ => by rw [eq26]; exact id
theorem ok13 : ct13.Ok Tryz.prog tab gh := Ct.lift (E := ⟨Tryz.prog, tab, [ct26], pl13, [], gh, [], []⟩) ⟨tabOk, ⟨ok26, trivial⟩, mo, trivial, ghUp, trivial⟩ 9 ct13 fun x Φ => by rw [eq13]; exact id
theorem ok14 : ct14.Ok Tryz.prog tab gh := Ct.lift (E := ⟨Tryz.prog, tab, [], pl14, [], gh, [], []⟩) ⟨tabOk, trivial, mo, trivial, ghUp, trivial⟩ 9 ct14 fun x Φ => by rw [eq14]; exact id
theorem ok136 : ct136.Ok Tryz.prog tab gh := Ct.lift (E := ⟨Tryz.prog, tab, [], pl136, [], gh, [], []⟩) ⟨tabOk, trivial, mo, trivial, ghUp, trivial⟩ 9 ct136 fun x Φ => by rw [eq136]; exact id
theorem okT136 : ct136.Ok Tryz.prog tab ghT := Ct.lift (E := ⟨Tryz.prog, tab, [], pl136, [], ghT, [], []⟩) ⟨tabOk, trivial, mo, trivial, fun _ _ _ _ => trivial, trivial⟩ 9 ct136 fun x Φ => by
  have h : ct136.W x Φ = topF ⟨Tryz.prog, tab, [], pl136, [], ghT, [], []⟩ 9 ct136.f ct136.ps ct136.rs ct136.own x Φ := by kernel_rfl
  rw [h]; exact id
theorem ok96 : ct96.Ok Tryz.prog tab gh := Ct.lift (E := ⟨Tryz.prog, tab, [ct136], pl96, [], gh, [], []⟩) ⟨tabOk, ⟨ok136, trivial⟩, mo, trivial, ghUp, trivial⟩ 9 ct96 fun x Φ => by rw [eq96]; exact id
theorem okT96 : ct96.Ok Tryz.prog tab ghT := Ct.lift (E := ⟨Tryz.prog, tab, [ct136], pl96, [], ghT, [], []⟩) ⟨tabOk, ⟨okT136, trivial⟩, mo, trivial, fun _ _ _ _ => trivial, trivial⟩ 9 ct96 fun x Φ => by
  have h : ct96.W x Φ = topF ⟨Tryz.prog, tab, [ct136], pl96, [], ghT, [], []⟩ 9 ct96.f ct96.ps ct96.rs ct96.own x Φ := by kernel_rfl
  rw [h]; exact id
theorem ok122 : ct122.Ok Tryz.prog tab gh := Ct.lift (E := ⟨Tryz.prog, tab, [], pl122, [], gh, [], []⟩) ⟨tabOk, trivial, mo, trivial, ghUp, trivial⟩ 9 ct122 fun x Φ => by rw [eq122]; exact id
theorem ok71 : ct71.Ok Tryz.prog tab gh := Ct.lift (E := ⟨Tryz.prog, tab, [ct96, ct122], pl71, [], gh, [], []⟩) ⟨tabOk, ⟨ok96, ok122, trivial⟩, mo, trivial, ghUp, trivial⟩ 9 ct71 fun x Φ => by rw [eq71]; exact id
theorem ok35 : ct35.Ok Tryz.prog tab gh := Ct.lift (E := ⟨Tryz.prog, tab, [], pl35, [], gh, [], []⟩) ⟨tabOk, trivial, mo, trivial, ghUp, trivial⟩ 9 ct35 fun x Φ => by rw [eq35]; exact id
theorem ok40 : ct40.Ok Tryz.prog tab gh := Ct.lift (E := ⟨Tryz.prog, tab, [], pl40, [], gh, [], []⟩) ⟨tabOk, trivial, mo, trivial, ghUp, trivial⟩ 9 ct40 fun x Φ => by rw [eq40]; exact id
theorem ok27 : ct27.Ok Tryz.prog tab gh := Ct.lift (E := ⟨Tryz.prog, tab, [ct35, ct40, ct71], pl27, [], gh, [], []⟩) ⟨tabOk, ⟨ok35, ok40, ok71, trivial⟩, mo, trivial, ghUp, trivial⟩ 9 ct27 fun x Φ => by rw [eq27]; exact id
theorem ok29 : ct29.Ok Tryz.prog tab gh := Ct.lift (E := ⟨Tryz.prog, tab, [], pl29, [], gh, [], []⟩) ⟨tabOk, trivial, mo, trivial, ghUp, trivial⟩ 9 ct29 fun x Φ => by rw [eq29]; exact id
theorem ok123 : ct123.Ok Tryz.prog tab gh := Ct.lift (E := ⟨Tryz.prog, tab, [ct35], pl123, [], gh, [], []⟩) ⟨tabOk, ⟨ok35, trivial⟩, mo, trivial, ghUp, trivial⟩ 9 ct123 fun x Φ => by rw [eq123]; exact id
theorem ok72 : ct72.Ok Tryz.prog tab gh := Ct.lift (E := ⟨Tryz.prog, tab, [ct35, ct123], pl72, [], gh, [], []⟩) ⟨tabOk, ⟨ok35, ok123, trivial⟩, mo, trivial, ghUp, trivial⟩ 9 ct72 fun x Φ => by rw [eq72]; exact id
theorem ok138 : ct138.Ok Tryz.prog tab gh := Ct.lift (E := ⟨Tryz.prog, tab, [], pl138, [], gh, [], []⟩) ⟨tabOk, trivial, mo, trivial, ghUp, trivial⟩ 9 ct138 fun x Φ => by rw [eq138]; exact id
theorem okT138 : ct138.Ok Tryz.prog tab ghT := Ct.lift (E := ⟨Tryz.prog, tab, [], pl138, [], ghT, [], []⟩) ⟨tabOk, trivial, mo, trivial, fun _ _ _ _ => trivial, trivial⟩ 9 ct138 fun x Φ => by
  have h : ct138.W x Φ = topF ⟨Tryz.prog, tab, [], pl138, [], ghT, [], []⟩ 9 ct138.f ct138.ps ct138.rs ct138.own x Φ := by kernel_rfl
  rw [h]; exact id
theorem ok97 : ct97.Ok Tryz.prog tab gh := Ct.lift (E := ⟨Tryz.prog, tab, [ct138], pl97, [], gh, [], []⟩) ⟨tabOk, ⟨ok138, trivial⟩, mo, trivial, ghUp, trivial⟩ 9 ct97 fun x Φ => by rw [eq97]; exact id
theorem okT97 : ct97.Ok Tryz.prog tab ghT := Ct.lift (E := ⟨Tryz.prog, tab, [ct138], pl97, [], ghT, [], []⟩) ⟨tabOk, ⟨okT138, trivial⟩, mo, trivial, fun _ _ _ _ => trivial, trivial⟩ 9 ct97 fun x Φ => by
  have h : ct97.W x Φ = topF ⟨Tryz.prog, tab, [ct138], pl97, [], ghT, [], []⟩ 9 ct97.f ct97.ps ct97.rs ct97.own x Φ := by kernel_rfl
  rw [h]; exact id
theorem ok52 : ct52.Ok Tryz.prog tab gh := Ct.lift (E := ⟨Tryz.prog, tab, [ct96, ct97], pl52, [], gh, [], []⟩) ⟨tabOk, ⟨ok96, ok97, trivial⟩, mo, trivial, ghUp, trivial⟩ 9 ct52 fun x Φ => by rw [eq52]; exact id
theorem okT52 : ct52.Ok Tryz.prog tab ghT := Ct.lift (E := ⟨Tryz.prog, tab, [ct96, ct97], pl52, [], ghT, [], []⟩) ⟨tabOk, ⟨okT96, okT97, trivial⟩, mo, trivial, fun _ _ _ _ => trivial, trivial⟩ 9 ct52 fun x Φ => by
  have h : ct52.W x Φ = topF ⟨Tryz.prog, tab, [ct96, ct97], pl52, [], ghT, [], []⟩ 9 ct52.f ct52.ps ct52.rs ct52.own x Φ := by kernel_rfl
  rw [h]; exact id
theorem ok99 : ct99.Ok Tryz.prog tab gh := Ct.lift (E := ⟨Tryz.prog, tab, [], pl99, [], gh, [], []⟩) ⟨tabOk, trivial, mo, trivial, ghUp, trivial⟩ 9 ct99 fun x Φ => by rw [eq99]; exact id
theorem okT99 : ct99.Ok Tryz.prog tab ghT := Ct.lift (E := ⟨Tryz.prog, tab, [], pl99, [], ghT, [], []⟩) ⟨tabOk, trivial, mo, trivial, fun _ _ _ _ => trivial, trivial⟩ 9 ct99 fun x Φ => by
  have h : ct99.W x Φ = topF ⟨Tryz.prog, tab, [], pl99, [], ghT, [], []⟩ 9 ct99.f ct99.ps ct99.rs ct99.own x Φ := by kernel_rfl
  rw [h]; exact id
theorem ok125 : ct125.Ok Tryz.prog tab gh := Ct.lift (E := ⟨Tryz.prog, tab, [ct52, ct99], pl125, [], gh, [], []⟩) ⟨tabOk, ⟨ok52, ok99, trivial⟩, mo, trivial, ghUp, trivial⟩ 9 ct125 fun x Φ => by rw [eq125]; exact id
theorem ok126 : ct126.Ok Tryz.prog tab gh := Ct.lift (E := ⟨Tryz.prog, tab, [], pl126, [], gh, [], []⟩) ⟨tabOk, trivial, mo, trivial, ghUp, trivial⟩ 9 ct126 fun x Φ => by rw [eq126]; exact id
theorem okT126 : ct126.Ok Tryz.prog tab ghT := Ct.lift (E := ⟨Tryz.prog, tab, [], pl126, [], ghT, [], []⟩) ⟨tabOk, trivial, mo, trivial, fun _ _ _ _ => trivial, trivial⟩ 9 ct126 fun x Φ => by
  have h : ct126.W x Φ = topF ⟨Tryz.prog, tab, [], pl126, [], ghT, [], []⟩ 9 ct126.f ct126.ps ct126.rs ct126.own x Φ := by kernel_rfl
  rw [h]; exact id
theorem ok77 : ct77.Ok Tryz.prog tab gh := Ct.lift (E := ⟨Tryz.prog, tab, [ct126], pl77, [], gh, [], []⟩) ⟨tabOk, ⟨ok126, trivial⟩, mo, trivial, ghUp, trivial⟩ 9 ct77 fun x Φ => by rw [eq77]; exact id
theorem ok76 : ct76.Ok Tryz.prog tab gh := Ct.lift (E := ⟨Tryz.prog, tab, [ct40, ct77], pl76, [], gh, [], []⟩) ⟨tabOk, ⟨ok40, ok77, trivial⟩, mo, trivial, ghUp, trivial⟩ 9 ct76 fun x Φ => by rw [eq76]; exact id
theorem ok28 : ct28.Ok Tryz.prog tab gh := Ct.liftD (E := ⟨Tryz.prog, tab, [ct35, ct71, ct72, ct76, ct77, ct125], pl28, [], gh, [], []⟩) ⟨tabOk, ⟨ok35, ok71, ok72, ok76, ok77, ok125, trivial⟩, mo, trivial, ghUp, trivial⟩ 9 ct28 fun x Φ => by rw [eq28]; exact id
theorem ok79 : ct79.Ok Tryz.prog tab gh := Ct.lift (E := ⟨Tryz.prog, tab, [], pl79, [], gh, [], []⟩) ⟨tabOk, trivial, mo, trivial, ghUp, trivial⟩ 9 ct79 fun x Φ => by rw [eq79]; exact id
theorem itok80 : it80.Ok Tryz.prog gh := It.lift (E := ⟨Tryz.prog, tab, [], pl80, [], gh, [], []⟩) ⟨tabOk, trivial, mo, trivial, ghUp, trivial⟩ it80 fun x l => by rw [eqi80]; exact id
theorem ok81 : ct81.Ok Tryz.prog tab gh := Ct.lift (E := ⟨Tryz.prog, tab, [], pl81, [], gh, [], []⟩) ⟨tabOk, trivial, mo, trivial, ghUp, trivial⟩ 9 ct81 fun x Φ => by rw [eq81]; exact id
theorem ok128 : ct128.Ok Tryz.prog tab gh := Ct.lift (E := ⟨Tryz.prog, tab, [], pl128, [], gh, [], []⟩) ⟨tabOk, trivial, mo, trivial, ghUp, trivial⟩ 9 ct128 fun x Φ => by rw [eq128]; exact id
theorem ok163 : ct163.Ok Tryz.prog tab gh := Ct.lift (E := ⟨Tryz.prog, tab, [], pl163, [], gh, [], []⟩) ⟨tabOk, trivial, mo, trivial, ghUp, trivial⟩ 9 ct163 fun x Φ => by rw [eq163]; exact id
theorem ok148 : ct148.Ok Tryz.prog tab gh := Ct.lift (E := ⟨Tryz.prog, tab, [ct163], pl148, [], gh, [], []⟩) ⟨tabOk, ⟨ok163, trivial⟩, mo, trivial, ghUp, trivial⟩ 9 ct148 fun x Φ => by rw [eq148]; exact id
theorem ok147 : ct147.Ok Tryz.prog tab gh := Ct.lift (E := ⟨Tryz.prog, tab, [], pl147, [], gh, [], []⟩) ⟨tabOk, trivial, mo, trivial, ghUp, trivial⟩ 9 ct147 fun x Φ => by rw [eq147]; exact id
theorem ok130 : ct130.Ok Tryz.prog tab gh := Ct.lift (E := ⟨Tryz.prog, tab, [ct147, ct148], pl130, [], gh, [], []⟩) ⟨tabOk, ⟨ok147, ok148, trivial⟩, mo, trivial, ghUp, trivial⟩ 9 ct130 fun x Φ => by rw [eq130]; exact id
def Tryz.layP_ren : Go.Shelf.Ren := ⟨fun | 6 => 129 | 15 => 146 | 14 => 145 | 28 => 161 | 29 => 162 | 20 => 153 | 21 => 154 | 22 => 155 | 23 => 156 | 24 => 157 | 25 => 158 | 26 => 159 | 27 => 160 | 46 => 165 | 47 => 166 | 48 => 167 | 49 => 168 | 50 => 169 | 57 => 170 | n => n, fun | 22 => 188 | 24 => 186 | 25 => 190 | 3 => 3 | 39 => 198 | 0 => 0 | 53 => 219 | 55 => 222 | 4 => 4 | 46 => 230 | 45 => 229 | 50 => 192 | 5 => 5 | 9 => 9 | 66 => 239 | 70 => 109 | 76 => 244 | 77 => 245 | n => n, fun | n => n⟩
theorem Tryz.layP : Go.Proofs.SlLaysF0.n6 Tryz.prog Tryz.layP_ren := {
  mixed := by kernel_rfl
  f6 := ⟨Tryz.f129.name, by decide, Tryz.func129.trans (congrArg some (by kernel_rfl))⟩
  f14 := ⟨Tryz.f145.name, by decide, Tryz.func145.trans (congrArg some (by kernel_rfl))⟩
  f15 := Tryz.func146.trans (congrArg some (by kernel_rfl))
  f20 := ⟨Tryz.f153.name, by decide, Tryz.func153.trans (congrArg some (by kernel_rfl))⟩
  f21 := ⟨Tryz.f154.name, by decide, Tryz.func154.trans (congrArg some (by kernel_rfl))⟩
  f22 := ⟨Tryz.f155.name, by decide, Tryz.func155.trans (congrArg some (by kernel_rfl))⟩
  f23 := ⟨Tryz.f156.name, by decide, Tryz.func156.trans (congrArg some (by kernel_rfl))⟩
  f24 := ⟨Tryz.f157.name, by decide, Tryz.func157.trans (congrArg some (by kernel_rfl))⟩
  f25 := ⟨Tryz.f158.name, by decide, Tryz.func158.trans (congrArg some (by kernel_rfl))⟩
  f26 := ⟨Tryz.f159.name, by decide, Tryz.func159.trans (congrArg some (by kernel_rfl))⟩
  f27 := ⟨Tryz.f160.name, by decide, Tryz.func160.trans (congrArg some (by kernel_rfl))⟩
  f28 := Tryz.func161.trans (congrArg some (by kernel_rfl))
  f29 := Tryz.func162.trans (congrArg some (by kernel_rfl))
  f46 := ⟨Tryz.f165.name, by decide, Tryz.func165.trans (congrArg some (by kernel_rfl))⟩
  f47 := Tryz.func166.trans (congrArg some (by kernel_rfl))
  f48 := Tryz.func167.trans (congrArg some (by kernel_rfl))
  f49 := ⟨Tryz.f168.name, by decide, Tryz.func168.trans (congrArg some (by kernel_rfl))⟩
  f50 := ⟨Tryz.f169.name, by decide, Tryz.func169.trans (congrArg some (by kernel_rfl))⟩
  f57 := ⟨Tryz.f170.name, by decide, Tryz.func170.trans (congrArg some (by kernel_rfl))⟩
  t0 := Tryz.underlying0
  a0 := Tryz.isAgg0
  z0 := Tryz.sizeOf0
  v0 := Tryz.zeroValue0
  t3 := Tryz.underlying3
  a3 := Tryz.isAgg3
  z3 := Tryz.sizeOf3
  v3 := Tryz.zeroValue3
  t4 := Tryz.underlying4
  a4 := Tryz.isAgg4
  z4 := Tryz.sizeOf4
  v4 := Tryz.zeroValue4
  t5 := Tryz.underlying5
  a5 := Tryz.isAgg5
  z5 := Tryz.sizeOf5
  v5 := Tryz.zeroValue5
  t9 := Tryz.underlying9
  a9 := Tryz.isAgg9
  z9 := Tryz.sizeOf9
  v9 := Tryz.zeroValue9
  t22 := Tryz.underlying188
  a22 := Tryz.isAgg188
  z22 := Tryz.sizeOf188
  v22 := Tryz.zeroValue188
  t25 := Tryz.underlying190
  a25 := Tryz.isAgg190
  z25 := Tryz.sizeOf190
  v25 := Tryz.zeroValue190
  t39 := Tryz.underlying198
  a39 := Tryz.isAgg198
  z39 := Tryz.sizeOf198
  v39 := Tryz.zeroValue198
  t45 := Tryz.underlying229
  a45 := Tryz.isAgg229
  z45 := Tryz.sizeOf229
  v45 := Tryz.zeroValue229
  t46 := Tryz.underlying230
  a46 := Tryz.isAgg230
  z46 := Tryz.sizeOf230
  v46 := Tryz.zeroValue230
  t50 := Tryz.underlying192
  a50 := Tryz.isAgg192
  z50 := Tryz.sizeOf192
  v50 := Tryz.zeroValue192
  t53 := Tryz.underlying219
  a53 := Tryz.isAgg219
  z53 := Tryz.sizeOf219
  v53 := Tryz.zeroValue219
  t55 := Tryz.underlying222
  a55 := Tryz.isAgg222
  z55 := Tryz.sizeOf222
  v55 := Tryz.zeroValue222
  t66 := Tryz.underlying239
  a66 := Tryz.isAgg239
  z66 := Tryz.sizeOf239
  v66 := Tryz.zeroValue239
  t70 := Tryz.underlying109
  a70 := Tryz.isAgg109
  z70 := Tryz.sizeOf109
  v70 := Tryz.zeroValue109
  t76 := Tryz.underlying244
  a76 := Tryz.isAgg244
  z76 := Tryz.sizeOf244
  v76 := Tryz.zeroValue244
  t77 := Tryz.underlying245
  a77 := Tryz.isAgg245
  z77 := Tryz.sizeOf245
  v77 := Tryz.zeroValue245 }
theorem pk186 (v : Value) (cs : List Value) : PkR Tryz.prog 186 v cs = (v = .agg cs.toArray) := by kernel_rfl
def encP (x : coalesce_place) : List Value := [.int .i64 x.volume, .int .i64 x.sector]
theorem place_calls {H : Hp} (hG : gh H) (x y : coalesce_place) (W : World) (hag : ∀ b o, H b = some o → W.heap[b]? = some o) : Calls Tryz.prog 130 #[.agg (encP x).toArray, .agg (encP y).toArray] W fun e w' => e = .returned (.int .i64 (cmpP x y)) ∧ ∃ q os, w' = Sort.grow (W.drewN q) os := by
  refine (ok130 (x, y, ()) (fun v => v.1 = cmpP x y) (before_ok x y) H [.agg (encP x).toArray, .agg (encP y).toArray] hG ⟨_, encP x, _, rfl, by rw [pk186], rfl, _, encP y, _, rfl, by rw [pk186], rfl, rfl⟩ W hag).mono fun e w' ⟨v, H', L', h1, hM, y', hy, hr⟩ => ?_
  obtain ⟨ρ, _, _, _, _, h2, _⟩ := hr 0 (fun _ => none) (fun _ _ => rfl) _ _ _ (show resE Tryz.prog tab ct130.rs ct130.own y' 0 = some (.i .i64 y'.1, [], 0) by kernel_rfl)
  have h2 : v = .int .i64 y'.1 := h2
  exact ⟨by rw [h1, h2, hy], hM.below.grow⟩
set_option maxRecDepth 100000 in
theorem tnh129 {xs : List coalesce_place} {Φ : List coalesce_place → Prop} (hlen : xs.length ≤ 1099511627776) (hW : Φ (sortG pleB xs)) {H : Hp} {w : World} {base : Nat} {v : Value} {n : Nat} {s : List Value} (hG : gh H) (hag : ∀ b o, H b = some o → w.heap[b]? = some o) (hap : ∀ b, v.ownBlock = some b → H b = none) (ho : w.ownsRow base 186 2 v n s) (hn : n = xs.length) (hd : DtL (α := coalesce_place) H s xs) : Calls Tryz.prog 129 (v :: fnVs [130]).toArray w fun e w' => e = .returned (.tuple #[]) ∧ ∃ (ys : List coalesce_place) (s' : List Value), Φ ys ∧ DtL (α := coalesce_place) H s' ys ∧ ys.length = xs.length ∧ w.grownBy w' v.ownBlock ∧ w.drawn ≤ w'.drawn ∧ w'.ownsRow base 186 2 v n s' := by
  have hs := hd.enc (enc := encP) fun _ _ _ h => h
  have hk : ∀ x : coalesce_place, (encP x).length = 2 := fun _ => rfl
  have none : ∀ p cap, v = .slice p 0 cap → n = 0 → Calls Tryz.prog 129 (v :: fnVs [130]).toArray w fun e w' => e = .returned (.tuple #[]) ∧ ∃ (ys : List coalesce_place) (s' : List Value), Φ ys ∧ DtL (α := coalesce_place) H s' ys ∧ ys.length = xs.length ∧ w.grownBy w' v.ownBlock ∧ w.drawn ≤ w'.drawn ∧ w'.ownsRow base 186 2 v n s' := by
    intro p cap hv h0
    have hx : xs = [] := List.eq_nil_of_length_eq_zero (hn.symm.trans h0)
    have hc := AnyF.slices_SortFunc_none (P := Tryz.prog) (ρ := Tryz.layP_ren) { Tryz.layP with } p cap (.func (.func 130) #[] #[]) w
    change Calls Tryz.prog 129 _ _ _ at hc
    rw [hv]
    refine hc.mono fun e w' ⟨h2, h3⟩ => ⟨h2, xs, s, ?_, hd, rfl, ?_, ?_, ?_⟩
    · rw [hx] at hW ⊢; exact hW
    · rw [h3]; exact ⟨rfl, rfl, rfl, Nat.le_refl _, fun _ _ _ => rfl⟩
    · rw [h3]; exact Nat.le_refl _
    · rw [h3, ← hv]; exact ho
  obtain ⟨_, ⟨hv, h0⟩ | ⟨b, cap, cur, hv, _⟩⟩ := id ho
  · exact none _ _ hv h0
  · subst hv
    haveI : Inhabited coalesce_place := ⟨⟨0, 0⟩⟩
    have hfl : (Sort.flatK encP 2 xs.toArray).toList = s := by rw [flatK_list hk, hs]
    obtain ⟨hH, hb⟩ := owns_holds (enc := id) (d := Sort.flatK encP 2 xs.toArray) ho (by rw [List.map_id_fun, hfl]; rfl)
    have hgH : H b = Option.none := hap b rfl
    have eg : ∀ args w, (callFunc 130 args).run Tryz.prog w = .ok (.enter 130 args) w := enters_of Tryz.func130 (by kernel_rfl) rfl
    have hcmp : CmpLays Tryz.prog 130 #[] encP 2 cmpP b 0 xs.toArray.size w := fun m os dk _ p q => by
      refine place_calls hG p q _ fun b' o hbo => ?_
      have h1 := hag b' o hbo
      have hne : b' ≠ b := by rintro rfl; rw [hgH] at hbo; cases hbo
      exact (sorted_old id 0 m (Sort.flatK encP 2 dk) os (lt_of_heap h1) hne).trans h1
    have ht : TyAgg Tryz.prog 186 2 := agOf_ok (by kernel_rfl)
    obtain ⟨⟨ds, t1, t2⟩, ⟨ti, t3, t4⟩⟩ := ht
    have hc := AnyQ.slices_SortFunc_total Tryz.layP 2 (fun w => (run_isAgg t1 w).trans (by rw [t2])) (fun w => (run_sizeOf t3 w).trans (by rw [t4])) encP hk (fun x u hu => by simp only [encP, List.mem_cons, List.not_mem_nil, or_false] at hu; rcases hu with rfl | rfl <;> rfl) cmpP swoP 130 #[] b 0 cap xs.toArray w eg hcmp hH hb (by rw [List.size_toArray]; omega) cmpP_total
    change Calls Tryz.prog 129 _ _ _ at hc
    rw [List.size_toArray, ← hn] at hc
    refine hc.mono fun e w' ⟨h2, m, os, h3⟩ => ?_
    rw [mergeP] at h3
    refine ⟨h2, sortG pleB xs, (sortG pleB xs).flatMap encP, hW, DtL.ofEnc (fun _ _ => rfl) _, (sortG_perm pleB xs).length_eq, ?_, ?_, ?_⟩
    · rw [h3]; exact sorted_grown id 0 m (Sort.flatK encP 2 (sortG pleB xs).toArray) os
    · rw [h3]; exact Nat.le_add_right _ _
    · rw [h3]
      have := sorted_owns id m (Sort.flatK encP 2 (sortG pleB xs).toArray) os ho (by rw [Sort.size_flatK, List.size_toArray, (sortG_perm pleB xs).length_eq, hn])
      rw [List.map_id_fun, id, flatK_list hk] at this
      exact this
theorem tnok129 : tn129.Ok Tryz.prog gh := fun _ _ hW _ _ _ _ _ _ hG hag hap ho hn hd => tnh129 hW.1 hW.2 hG hag hap ho hn hd
theorem ok38 : ct38.Ok Tryz.prog tab gh := Ct.lift (E := ⟨Tryz.prog, tab, [ct81, ct128], pl38, [], gh, [tn129], [([11, 0, 1, 1, 1, 1, 1, 1, 1, 12, 0, 1, 1], 0), ([16, 2, 1, 0, 1, 4, 0, 1, 1, 5, 4, 1, 0, 1, 1, 1, 1, 1, 1, 12, 0, 1, 1], 130002), ([17, 2, 1, 0, 1, 4, 0, 1, 1, 5, 4, 1, 0, 1, 1, 1, 1, 1, 1, 12, 0, 1, 1], 0)]⟩) ⟨tabOk, ⟨ok81, ok128, trivial⟩, mo, trivial, ghUp, ⟨tnok129, trivial⟩⟩ 9 ct38 fun x Φ => by rw [eq38]; exact id
theorem ok41 : ct41.Ok Tryz.prog tab gh := Ct.lift (E := ⟨Tryz.prog, tab, [ct35, ct77], pl41, [it80], gh, [], []⟩) ⟨tabOk, ⟨ok35, ok77, trivial⟩, mo, ⟨itok80, trivial⟩, ghUp, trivial⟩ 9 ct41 fun x Φ => by rw [eq41]; exact id
theorem ok9 : ct9.Ok Tryz.prog tab gh := Ct.liftD (E := ⟨Tryz.prog, tab, [ct35, ct38, ct40, ct41, ct71, ct72, ct79, ct125], pl9, [it80], gh, [], []⟩) ⟨tabOk, ⟨ok35, ok38, ok40, ok41, ok71, ok72, ok79, ok125, trivial⟩, mo, ⟨itok80, trivial⟩, ghUp, trivial⟩ 9 ct9 fun x Φ => by rw [eq9]; exact id
theorem ok91 : ct91.Ok Tryz.prog tab gh := Ct.lift (E := ⟨Tryz.prog, tab, [], pl91, [], gh, [], []⟩) ⟨tabOk, trivial, mo, trivial, ghUp, trivial⟩ 9 ct91 fun x Φ => by rw [eq91]; exact id
theorem ok47 : ct47.Ok Tryz.prog tab gh := Ct.lift (E := ⟨Tryz.prog, tab, [ct91], pl47, [], gh, [], []⟩) ⟨tabOk, ⟨ok91, trivial⟩, mo, trivial, ghUp, trivial⟩ 9 ct47 fun x Φ => by rw [eq47]; exact id
theorem ok30 : ct30.Ok Tryz.prog tab gh := Ct.lift (E := ⟨Tryz.prog, tab, [ct47], pl30, [], gh, [], []⟩) ⟨tabOk, ⟨ok47, trivial⟩, mo, trivial, ghUp, trivial⟩ 9 ct30 fun x Φ => by rw [eq30]; exact id
theorem ok150 : ct150.Ok Tryz.prog tab gh := Ct.lift (E := ⟨Tryz.prog, tab, [], pl150, [], gh, [], []⟩) ⟨tabOk, trivial, mo, trivial, ghUp, trivial⟩ 9 ct150 fun x Φ => by rw [eq150]; exact id
theorem ok134 : ct134.Ok Tryz.prog tab gh := Ct.lift (E := ⟨Tryz.prog, tab, [ct150], pl134, [], gh, [], []⟩) ⟨tabOk, ⟨ok150, trivial⟩, mo, trivial, ghUp, trivial⟩ 9 ct134 fun x Φ => by rw [eq134]; exact id
theorem ok92 : ct92.Ok Tryz.prog tab gh := Ct.lift (E := ⟨Tryz.prog, tab, [ct134], pl92, [], gh, [], []⟩) ⟨tabOk, ⟨ok134, trivial⟩, mo, trivial, ghUp, trivial⟩ 9 ct92 fun x Φ => by rw [eq92]; exact id
theorem ok48 : ct48.Ok Tryz.prog tab gh := Ct.lift (E := ⟨Tryz.prog, tab, [ct92], pl48, [], gh, [], []⟩) ⟨tabOk, ⟨ok92, trivial⟩, mo, trivial, ghUp, trivial⟩ 9 ct48 fun x Φ => by rw [eq48]; exact id
theorem ok73 : ct73.Ok Tryz.prog tab gh := Ct.lift (E := ⟨Tryz.prog, tab, [ct71, ct125], pl73, [], gh, [], []⟩) ⟨tabOk, ⟨ok71, ok125, trivial⟩, mo, trivial, ghUp, trivial⟩ 9 ct73 fun x Φ => by rw [eq73]; exact id
theorem ok24 : ct24.Ok Tryz.prog tab gh := Ct.lift (E := ⟨Tryz.prog, tab, [ct35, ct71, ct72, ct73], pl24, [], gh, [], []⟩) ⟨tabOk, ⟨ok35, ok71, ok72, ok73, trivial⟩, mo, trivial, ghUp, trivial⟩ 9 ct24 fun x Φ => by rw [eq24]; exact id
theorem ok94 : ct94.Ok Tryz.prog tab gh := Ct.lift (E := ⟨Tryz.prog, tab, [], pl94, [], gh, [], [([19, 2, 1, 1, 0, 1, 1, 11, 0, 1, 1, 1], 0)]⟩) ⟨tabOk, trivial, mo, trivial, ghUp, trivial⟩ 9 ct94 fun x Φ => by rw [eq94]; exact id
theorem ok49 : ct49.Ok Tryz.prog tab gh := Ct.lift (E := ⟨Tryz.prog, tab, [ct81, ct94, ct128], pl49, [], gh, [tn129], [([11, 0, 1, 1, 1, 1, 1, 1, 1, 15, 0, 1, 1], 0), ([16, 2, 1, 0, 1, 4, 0, 1, 1, 5, 4, 1, 0, 1, 1, 1, 1, 1, 1, 15, 0, 1, 1], 130002), ([17, 2, 1, 0, 1, 4, 0, 1, 1, 5, 4, 1, 0, 1, 1, 1, 1, 1, 1, 15, 0, 1, 1], 0)]⟩) ⟨tabOk, ⟨ok81, ok94, ok128, trivial⟩, mo, trivial, ghUp, ⟨tnok129, trivial⟩⟩ 9 ct49 fun x Φ => by rw [eq49]; exact id
theorem ok15 : ct15.Ok Tryz.prog tab gh := Ct.lift (E := ⟨Tryz.prog, tab, [ct24, ct40, ct48, ct49], pl15, [], gh, [], []⟩) ⟨tabOk, ⟨ok24, ok40, ok48, ok49, trivial⟩, mo, trivial, ghUp, trivial⟩ 9 ct15 fun x Φ => by rw [eq15]; exact id
theorem ok8 : ct8.Ok Tryz.prog tab gh := Ct.lift (E := ⟨Tryz.prog, tab, [ct9, ct15, ct27, ct28, ct29, ct30], pl8, [], gh, [], []⟩) ⟨tabOk, ⟨ok9, ok15, ok27, ok28, ok29, ok30, trivial⟩, mo, trivial, ghUp, trivial⟩ 9 ct8 fun x Φ => by rw [eq8]; exact id
theorem ok25 : ct25.Ok Tryz.prog tab gh := Ct.lift (E := ⟨Tryz.prog, tab, [], pl25, [], gh, [], []⟩) ⟨tabOk, trivial, mo, trivial, ghUp, trivial⟩ 9 ct25 fun x Φ => by rw [eq25]; exact id
theorem ok84 : ct84.Ok Tryz.prog tab gh := Ct.lift (E := ⟨Tryz.prog, tab, [], pl84, [], gh, [], []⟩) ⟨tabOk, trivial, mo, trivial, ghUp, trivial⟩ 9 ct84 fun x Φ => by rw [eq84]; exact id
theorem okT84 : ct84.Ok Tryz.prog tab ghT := Ct.lift (E := ⟨Tryz.prog, tab, [], pl84, [], ghT, [], []⟩) ⟨tabOk, trivial, mo, trivial, fun _ _ _ _ => trivial, trivial⟩ 9 ct84 fun x Φ => by
  have h : ct84.W x Φ = topF ⟨Tryz.prog, tab, [], pl84, [], ghT, [], []⟩ 9 ct84.f ct84.ps ct84.rs ct84.own x Φ := by kernel_rfl
  rw [h]; exact id
theorem ok85 : ct85.Ok Tryz.prog tab gh := Ct.lift (E := ⟨Tryz.prog, tab, [], pl85, [], gh, [], []⟩) ⟨tabOk, trivial, mo, trivial, ghUp, trivial⟩ 9 ct85 fun x Φ => by rw [eq85]; exact id
theorem ok86 : ct86.Ok Tryz.prog tab gh := Ct.lift (E := ⟨Tryz.prog, tab, [], pl86, [], gh, [], []⟩) ⟨tabOk, trivial, mo, trivial, ghUp, trivial⟩ 9 ct86 fun x Φ => by rw [eq86]; exact id
theorem okT86 : ct86.Ok Tryz.prog tab ghT := Ct.lift (E := ⟨Tryz.prog, tab, [], pl86, [], ghT, [], []⟩) ⟨tabOk, trivial, mo, trivial, fun _ _ _ _ => trivial, trivial⟩ 9 ct86 fun x Φ => by
  have h : ct86.W x Φ = topF ⟨Tryz.prog, tab, [], pl86, [], ghT, [], []⟩ 9 ct86.f ct86.ps ct86.rs ct86.own x Φ := by kernel_rfl
  rw [h]; exact id
theorem ok95 : ct95.Ok Tryz.prog tab gh := Ct.lift (E := ⟨Tryz.prog, tab, [ct84, ct86], pl95, [], gh, [], []⟩) ⟨tabOk, ⟨ok84, ok86, trivial⟩, mo, trivial, ghUp, trivial⟩ 9 ct95 fun x Φ => by rw [eq95]; exact id
theorem ok50 : ct50.Ok Tryz.prog tab gh := Ct.lift (E := ⟨Tryz.prog, tab, [ct84, ct85, ct95], pl50, [], gh, [], []⟩) ⟨tabOk, ⟨ok84, ok85, ok95, trivial⟩, mo, trivial, ghUp, trivial⟩ 9 ct50 fun x Φ => by rw [eq50]; exact id
theorem ok133 : ct133.Ok Tryz.prog tab gh := Ct.lift (E := ⟨Tryz.prog, tab, [], pl133, [], gh, [], []⟩) ⟨tabOk, trivial, mo, trivial, ghUp, trivial⟩ 9 ct133 fun x Φ => by rw [eq133]; exact id
theorem ok90 : ct90.Ok Tryz.prog tab gh := Ct.lift (E := ⟨Tryz.prog, tab, [ct133], pl90, [], gh, [], []⟩) ⟨tabOk, ⟨ok133, trivial⟩, mo, trivial, ghUp, trivial⟩ 9 ct90 fun x Φ => by rw [eq90]; exact id
theorem ok131 : ct131.Ok Tryz.prog tab gh := Ct.lift (E := ⟨Tryz.prog, tab, [], pl131, [], gh, [], []⟩) ⟨tabOk, trivial, mo, trivial, ghUp, trivial⟩ 9 ct131 fun x Φ => by rw [eq131]; exact id
theorem ok88 : ct88.Ok Tryz.prog tab gh := Ct.lift (E := ⟨Tryz.prog, tab, [ct131], pl88, [], gh, [], []⟩) ⟨tabOk, ⟨ok131, trivial⟩, mo, trivial, ghUp, trivial⟩ 9 ct88 fun x Φ => by rw [eq88]; exact id
theorem ok89 : ct89.Ok Tryz.prog tab gh := Ct.lift (E := ⟨Tryz.prog, tab, [ct88], pl89, [], gh, [], []⟩) ⟨tabOk, ⟨ok88, trivial⟩, mo, trivial, ghUp, trivial⟩ 9 ct89 fun x Φ => by rw [eq89]; exact id
theorem ok45 : ct45.Ok Tryz.prog tab gh := Ct.lift (E := ⟨Tryz.prog, tab, [ct25, ct86, ct89, ct90], pl45, [], gh, [], []⟩) ⟨tabOk, ⟨ok25, ok86, ok89, ok90, trivial⟩, mo, trivial, ghUp, trivial⟩ 9 ct45 fun x Φ => by rw [eq45]; exact id
theorem ok51 : ct51.Ok Tryz.prog tab gh := Ct.lift (E := ⟨Tryz.prog, tab, [ct25, ct45, ct95], pl51, [], gh, [], []⟩) ⟨tabOk, ⟨ok25, ok45, ok95, trivial⟩, mo, trivial, ghUp, trivial⟩ 9 ct51 fun x Φ => by rw [eq51]; exact id
theorem ok43 : ct43.Ok Tryz.prog tab gh := Ct.lift (E := ⟨Tryz.prog, tab, [], pl43, [], gh, [], []⟩) ⟨tabOk, trivial, mo, trivial, ghUp, trivial⟩ 9 ct43 fun x Φ => by rw [eq43]; exact id
theorem ok16 : ct16.Ok Tryz.prog tab gh := Ct.lift (E := ⟨Tryz.prog, tab, [ct25, ct43, ct50, ct51], pl16, [], gh, [], []⟩) ⟨tabOk, ⟨ok25, ok43, ok50, ok51, trivial⟩, mo, trivial, ghUp, trivial⟩ 9 ct16 fun x Φ => by rw [eq16]; exact id
theorem pk39 (v : Value) (cs : List Value) : PkR Tryz.prog 39 v cs = (cs = [v]) := by kernel_rfl
theorem image_Check_lift {H : Hp} (x0 : List (List Sec)) {A1 : Option Addr} {n1 c1 : Nat} {s1 : List Value} (hF1 : Fz (α := List Sec) H A1 n1 c1 x0 s1) {Φ : Int → Prop} (hm : image_Check_W x0 Φ) : RetP Tryz.prog 52 #[.slice A1 n1 c1] H (fun _ v L => ∃ y, Φ y ∧ v = .int .i64 (y) ∧ L = []) := by
  refine RetP.mono (okT52 (x0, ()) (fun y => Φ y.1) hm H [.slice A1 n1 c1] trivial ⟨_, [.slice A1 n1 c1], _, rfl, by rw [pk39], (show Dt.rd (α := List (List Sec)) H _ _ from ⟨A1, n1, c1, s1, rfl, hF1⟩), rfl⟩) fun H' v L _ ⟨y, hy, hr⟩ => ?_
  obtain ⟨ρ, _, _, _, _, h1, h2⟩ := hr 0 (fun _ => none) (fun _ _ => rfl) _ _ _ (show resE Tryz.prog tab _ _ y 0 = some (.i .i64 y.1, [], 0) by kernel_rfl)
  exact ⟨y.1, hy, h1, h2⟩
theorem pk68 (v : Value) (cs : List Value) : PkR Tryz.prog 68 v cs = (cs = [v]) := by kernel_rfl
theorem slices_Clone_api_Sector_api_Sector_lift {H : Hp} (x0 : List Sec) {A1 : Option Addr} {n1 c1 : Nat} {s1 : List Value} (hF1 : Fz (α := Sec) H A1 n1 c1 x0 s1) {Φ : List Sec → Prop} (hm : Z10 x0 Φ) : RetP Tryz.prog 126 #[.slice A1 n1 c1] H (fun H' v L => ∃ y, Φ y ∧ ∃ A12, ∃ n12, ∃ c12, ∃ s12, v = .slice A12 n12 c12 ∧ DtL (α := Sec) H' s12 y ∧ n12 = y.length ∧ L = [.row (.slice A12 n12 c12) 130 8 n12 s12]) := by
  refine RetP.mono (okT126 (x0, ()) (fun y => Φ y.1) hm H [.slice A1 n1 c1] trivial ⟨_, [.slice A1 n1 c1], _, rfl, by rw [pk68], (show Dt.rd (α := List Sec) H _ _ from ⟨A1, n1, c1, s1, rfl, hF1⟩), rfl⟩) fun H' v L _ ⟨y, hy, hr⟩ => ?_
  obtain ⟨ρ, _, _, _, _, h1, h2⟩ := hr 0 (fun _ => none) (fun _ _ => rfl) _ _ _ (show resE Tryz.prog tab _ _ y 0 = some (.own 0, [(0, .row 130 y.1)], 1) by kernel_rfl)
  obtain ⟨A, n, c, e1, rfl⟩ := h1
  obtain ⟨S, L', rfl, ⟨A', n', c', s, e2, rfl, e3, e4⟩, e5⟩ := h2
  obtain rfl : L' = [] := e5
  rw [e1] at e2; cases e2
  exact ⟨y.1, hy, A, n, c, s, rfl, e3, e4, rfl⟩
theorem image_mappedE_lift {H : Hp} (x0 : List (List Sec)) {A1 : Option Addr} {n1 c1 : Nat} {s1 : List Value} (hF1 : Fz (α := List Sec) H A1 n1 c1 x0 s1) {Φ : List (List Sec) → Prop} (hm : Z88 x0 Φ) : RetP Tryz.prog 139 #[.slice A1 n1 c1, .func (.func 126) #[] #[]] H (fun H' v L => ∃ y, Φ y ∧ ∃ A45, ∃ n45, ∃ c45, ∃ s45, ∃ rs46, v = .slice A45 n45 c45 ∧ DeepL (α := List Sec) [130] H' s45 y rs46 ∧ n45 = y.length ∧ L = .row (.slice A45 n45 c45) 68 1 n45 s45 :: rs46) := by
 refine RetP.of_code Tryz.func139 rfl (nb rfl) fun w0 hM => ?_
 refine CW.sr <| RW.st (Ex.assign (.slice none 0 0) rfl) rfl <| RW.nil <| CW.sr <| RW.st (Ex.move (.slice A1 n1 c1) rfl) rfl <| RW.st (Ex.lenN st38.1 rfl hF1.hn) rfl ?_
 obtain ⟨hg8, hm⟩ := hm
 obtain ⟨hg9, hm⟩ := hm
 refine RW.makeE (α := List Sec) hM st38 tz68 rfl rfl hg8 hg9 rfl rfl ?_; intro b2 n3 c4 s5 w hd6 hn7 hM
 refine RW.st (Ex.assign (.slice (some ⟨b2, 0, none⟩) n3 c4) rfl) rfl <| RW.nil <| CW.seq <| CW.sr <| RW.st (Ex.move (.slice A1 n1 c1) rfl) rfl <| RW.st (Ex.lenN st38.1 rfl hF1.hn) rfl <| RW.st (Ex.move (.int .i64 0) rfl) rfl <| RW.nil <| CW.block ?_
 obtain ⟨m44, hm⟩ := hm
 skip
 refine CW.loop (β := Nat) (fun n σ w => ∃ (v12 : List (List Sec)), ∃ (A13 : Option Addr), ∃ (n14 : Nat), ∃ (c15 : Nat), ∃ (s16 : List Value), ∃ (rs17 : List Ent), ∃ (v20 : Int), ∃ Hk10, H.le Hk10 ∧ (∃ τ, σ = sl [(1, .func (.func 126) #[] #[]), (5, .slice A13 n14 c15), (11, .slice A1 n1 c1), (12, .int .i64 ((x0.length : Int))), (13, .int .i64 v20)] τ) ∧ Mem w0 H w Hk10 (.row (.slice A13 n14 c15) 68 1 n14 s16 :: rs17) ∧ (DeepL (α := List Sec) [130] Hk10 s16 v12 rs17) ∧ (n14 = v12.length) ∧ LoopN (Z87 x0 Φ) n (v12, v20)) (fun n => n) m44 ⟨([] : List (List Sec)), (some ⟨b2, 0, none⟩), n3, c4, s5, [], 0, H, (Hp.le.refl _), sl_canon ⟨rfl, rfl, rfl, rfl, rfl, trivial⟩, hM, (DeepL.ofNil (Ts := [130]) hd6), hn7, hm⟩ ?_
 rintro k21 _ w ⟨v12, A13, n14, c15, s16, rs17, v20, Hk10, hle11, ⟨τ, rfl⟩, hM, hd18, hn19, hm⟩
 obtain _ | k21 := k21
 · exact hm.elim
 replace hm : (Z87 x0 Φ) (v12, v20) (LoopN (Z87 x0 Φ) k21) := hm
 generalize hrec22 : LoopN (Z87 x0 Φ) k21 = rec1 at hm
 refine CW.sr <| RW.st (Ex.lss rfl rfl) rfl <| RW.nil <| CW.seq ?_
 refine CW.cond_dec (p := v20 < (x0.length : Int)) rfl (fun hc23 => ?_) (fun hc23 => ?_)
 ·
  replace hm := And.left hm hc23
  refine CW.skip <| CW.seq <| CW.block <| CW.sr ?_
  obtain ⟨hg24, hm⟩ := hm
  refine RW.st (Ex.index st38 rfl rfl v20.toNat (hF1.ne hg24) hg24.nat (hF1.lt hg24)) rfl ?_
  obtain ⟨_, ⟨A25, n25, c25, s25, rfl, hF25⟩, hx26⟩ := DtL.getI (α := List Sec) (hF1.mono hle11).dat hg24
  refine RW.st (Ex.loadE hM hle11 hF1.rdc to68 rfl (hx26 0 _ rfl)) rfl <| RW.st (Ex.assign (.slice A25 n25 c25) rfl) rfl <| RW.nil <| CW.region <| RW.st (Ex.move (.slice A13 n14 c15) rfl) rfl <| RW.st (Ex.move (.func (.func 126) #[] #[]) rfl) rfl <| RW.st (Ex.move (.slice A25 n25 c25) rfl) rfl ?_
  refine RW.callP hM (slices_Clone_api_Sector_api_Sector_lift (ix x0 v20) hF25 hm) en126 rfl rfl rfl rfl ?_; rintro _ w H28 _ hle29 ⟨v27, hm, A30, n30, c30, s30, rfl, hd31, hn32, rfl⟩ hM
  refine RW.buildSlice hM st38 tz68 [(0, .slice A30 n30 c30)] [.slice A30 n30 c30] (by decide) rfl rfl rfl (by decide) rfl rfl ?_; intro b33 w hM
  obtain ⟨hg39, hm⟩ := hm
  refine RW.appendH (α := List Sec) (xs := v12) (x0 := v27) hM 2 st38 rfl rfl hn19 rfl (fun j u hj => hM.rowCell (k := 0) rfl rfl hj) rfl (oneAll ⟨rfl, trivial⟩) hg39 rfl rfl ?_; intro A35 n36 c37 w hn38 hM
  obtain ⟨s40, rs41, hd42, hM⟩ := Mem.adopt (α := List Sec) (Ts := [130]) (x := v27) [.row (.slice (some ⟨b33, 0, none⟩) 1 1) 68 1 1 [.slice A30 n30 c30], .row (.slice A35 n36 c37) 68 1 n36 (s16 ++ [.slice A30 n30 c30])] (Mem.pickT (L1 := [.row (.slice (some ⟨b33, 0, none⟩) 1 1) 68 1 1 [.slice A30 n30 c30], .row (.slice A30 n30 c30) 130 8 n30 s30, .row (.slice A35 n36 c37) 68 1 n36 (s16 ++ [.slice A30 n30 c30])]) (T := rs17) hM [1, 0, 2] rfl rfl) 1 rfl (hd18.mono hle29) ⟨A30, n30, c30, s30, rfl, rfl, hd31, hn32⟩
  replace hM : Mem w0 H w H28 (.row (.slice A35 n36 c37) 68 1 n36 s40 :: rs41) := Mem.pickT (L1 := [.row (.slice (some ⟨b33, 0, none⟩) 1 1) 68 1 1 [.slice A30 n30 c30], .row (.slice A35 n36 c37) 68 1 n36 s40]) (T := rs41) hM [1] rfl rfl
  refine RW.st (Ex.assign (.slice A35 n36 c37) rfl) rfl <| RW.nil <| CW.region ?_
  obtain ⟨hg43, hm⟩ := hm
  refine RW.st (Ex.add rfl rfl hg43.1 hg43.2) rfl <| RW.st (Ex.move (.int .i64 (v20 + 1)) rfl) rfl <| RW.nil ?_
  exact And.intro rfl ⟨k21, ⟨(v12 ++ [v27]), A35, n36, c37, s40, rs41, v20 + 1, H28, hle11.trans hle29, sl_canon ⟨rfl, rfl, rfl, rfl, rfl, trivial⟩, hM, hd42, hn38, (by rw [hrec22]; exact hm)⟩, Nat.lt_succ_self _⟩
 ·
  replace hm := And.right hm hc23
  refine CW.exit ?_
  refine CW.sr <| RW.st (Ex.move (.slice A13 n14 c15) rfl) rfl <| RW.st (Ex.assign (.slice A13 n14 c15) rfl) rfl <| RW.nil <| CW.ret ?_
  refine end_tmp (.inl rfl) rfl (.slice A13 n14 c15) rfl ?_
  exact ⟨_, _, hM, v12, hm, A13, n14, c15, s16, rs17, rfl, hd18, hn19, rfl⟩
theorem image_copiedE_lift {H : Hp} (x0 : List (List Sec)) {A1 : Option Addr} {n1 c1 : Nat} {s1 : List Value} (hF1 : Fz (α := List Sec) H A1 n1 c1 x0 s1) {Φ : List (List Sec) → Prop} (hm : Z89 x0 Φ) : RetP Tryz.prog 98 #[.slice A1 n1 c1] H (fun H' v L => ∃ y, Φ y ∧ ∃ A9, ∃ n9, ∃ c9, ∃ s9, ∃ rs10, v = .slice A9 n9 c9 ∧ DeepL (α := List Sec) [130] H' s9 y rs10 ∧ n9 = y.length ∧ L = .row (.slice A9 n9 c9) 68 1 n9 s9 :: rs10) := by
 refine RetP.of_code Tryz.func98 rfl (nb rfl) fun w0 hM => ?_
 refine CW.sr <| RW.st (Ex.assign (.slice none 0 0) rfl) rfl <| RW.nil <| CW.sr <| RW.st (Ex.move (.slice A1 n1 c1) rfl) rfl ?_
 refine RW.callP hM (image_mappedE_lift x0 hF1 hm) en139 rfl rfl rfl rfl ?_; rintro _ w H3 _ hle4 ⟨v2, hm, A5, n5, c5, s5, rs6, rfl, hd7, hn8, rfl⟩ hM
 replace hM := Mem.toTail (a := [.row (.slice A5 n5 c5) 68 1 n5 s5]) (b := rs6) (c := []) hM
 refine RW.st (Ex.assign (.slice A5 n5 c5) rfl) rfl <| RW.nil <| CW.ret ?_
 refine end_tmp (.inl rfl) rfl (.slice A5 n5 c5) rfl ?_
 exact ⟨_, _, hM, v2, hm, A5, n5, c5, s5, rs6, rfl, hd7, hn8, rfl⟩
theorem pk70 (v : Value) (cs : List Value) : PkR Tryz.prog 70 v cs = (v = .agg cs.toArray) := by kernel_rfl
theorem image_fits_lift {H : Hp} (x0 : List (List Sec)) (x1 : api_Write) {A1 : Option Addr} {n1 c1 : Nat} {s1 : List Value} (hF1 : Fz (α := List Sec) H A1 n1 c1 x0 s1) {A2 : Option Addr} {n2 c2 : Nat} {s2 : List Value} (hF2 : Fz (α := Sec) H A2 n2 c2 x1.Data s2) {Φ : Int → Prop} (hm : image_fits_W x0 x1 Φ) : RetP Tryz.prog 99 #[.slice A1 n1 c1, .agg #[.int .i64 (x1.Volume), .int .i64 (x1.Start), .slice A2 n2 c2]] H (fun _ v L => ∃ y, Φ y ∧ v = .int .i64 (y) ∧ L = []) := by
  refine RetP.mono (okT99 (x0, x1, ()) (fun y => Φ y.1) hm H [.slice A1 n1 c1, .agg #[.int .i64 (x1.Volume), .int .i64 (x1.Start), .slice A2 n2 c2]] trivial ⟨_, [.slice A1 n1 c1], _, rfl, by rw [pk39], (show Dt.rd (α := List (List Sec)) H _ _ from ⟨A1, n1, c1, s1, rfl, hF1⟩), ⟨_, [.int .i64 (x1.Volume), .int .i64 (x1.Start), .slice A2 n2 c2], _, rfl, by rw [pk70], (show Dt.rd (α := api_Write) H _ _ from ⟨A2, n2, c2, s2, rfl, hF2⟩), rfl⟩⟩) fun H' v L _ ⟨y, hy, hr⟩ => ?_
  obtain ⟨ρ, _, _, _, _, h1, h2⟩ := hr 0 (fun _ => none) (fun _ _ => rfl) _ _ _ (show resE Tryz.prog tab _ _ y 0 = some (.i .i64 y.1, [], 0) by kernel_rfl)
  exact ⟨y.1, hy, h1, h2⟩
theorem image_Apply_lift {H : Hp} (x0 : List (List Sec)) (x1 : List api_Write) {A1 : Option Addr} {n1 c1 : Nat} {s1 : List Value} (hF1 : Fz (α := List Sec) H A1 n1 c1 x0 s1) {A2 : Option Addr} {n2 c2 : Nat} {s2 : List Value} (hF2 : Fz (α := api_Write) H A2 n2 c2 x1 s2) {Φ : List (List Sec) × Int × Int → Prop} (hm : image_Apply_W x0 x1 Φ) : RetP Tryz.prog 53 #[.slice A1 n1 c1, .slice A2 n2 c2] H (fun H' v L => ∃ y, Φ y ∧ ∃ A89, ∃ n89, ∃ c89, ∃ s89, ∃ rs90, v = .tuple #[.slice A89 n89 c89, .int .i64 (y.2.1), .int .i64 (y.2.2)] ∧ DeepL (α := List Sec) [130] H' s89 y.1 rs90 ∧ n89 = y.1.length ∧ L = .row (.slice A89 n89 c89) 68 1 n89 s89 :: rs90) := by
 refine RetP.of_code Tryz.func53 rfl (nb rfl) fun w0 hM => ?_
 refine CW.sr <| RW.st (Ex.assign (.slice none 0 0) rfl) rfl <| RW.st (Ex.assign (.int .i64 0) rfl) rfl <| RW.st (Ex.assign (.int .i64 0) rfl) rfl <| RW.nil <| CW.seq <| CW.sr <| RW.st (Ex.move (.slice A1 n1 c1) rfl) rfl ?_
 refine RW.callP hM (image_Check_lift x0 hF1 hm) en52 rfl rfl rfl rfl ?_; rintro _ w H4 _ hle5 ⟨v3, hm, rfl, rfl⟩ hM
 refine RW.st (Ex.assign (.int .i64 v3) rfl) rfl <| RW.nil <| CW.sr <| RW.st (Ex.move (.int .i64 v3) rfl) rfl <| RW.st (Ex.neq rfl rfl) rfl <| RW.nil ?_
 refine CW.cond_dec (p := v3 ≠ 0) rfl (fun hc6 => ?_) (fun hc6 => ?_)
 ·
  replace hm := And.left hm hc6
  refine CW.sr <| RW.st (Ex.move (.int .i64 v3) rfl) rfl <| RW.st (Ex.assign (.slice none 0 0) rfl) rfl <| RW.st (Ex.assign (.int .i64 0) rfl) rfl <| RW.st (Ex.assign (.int .i64 v3) rfl) rfl <| RW.nil <| CW.ret ?_
  refine thenQ_ret ?_
  refine end_tmp3 (.inl rfl) rfl (.slice none 0 0) (.int .i64 0) (.int .i64 v3) rfl rfl rfl ?_
  replace hM := hM.nilRow 68 1
  exact ⟨_, _, hM, (([] : List (List Sec)), 0, v3), hm, none, 0, 0, [], [], rfl, (DeepL.nil : DeepL (α := List Sec) [130] H4 [] [] []), rfl, rfl⟩
 ·
  replace hm := And.right hm hc6
  refine CW.skip <| CW.sr <| RW.st (Ex.move (.slice A1 n1 c1) rfl) rfl ?_
  refine RW.callP hM (image_copiedE_lift x0 (hF1.mono hle5) hm) en98 rfl rfl rfl rfl ?_; rintro _ w H8 _ hle9 ⟨v7, hm, A10, n10, c10, s10, rs11, rfl, hd12, hn13, rfl⟩ hM
  replace hM := Mem.toTail (a := [.row (.slice A10 n10 c10) 68 1 n10 s10]) (b := rs11) (c := []) hM
  refine RW.st (Ex.assign (.slice A10 n10 c10) rfl) rfl <| RW.nil <| CW.seq <| CW.sr <| RW.st (Ex.move (.slice A2 n2 c2) rfl) rfl <| RW.st (Ex.lenN st23.1 rfl hF2.hn) rfl <| RW.st (Ex.move (.int .i64 0) rfl) rfl <| RW.nil <| CW.block ?_
  obtain ⟨m88, hm⟩ := hm
  skip
  refine CW.loop (β := Nat) (fun n σ w => ∃ (v16 : List (List Sec)), ∃ (A17 : Option Addr), ∃ (n18 : Nat), ∃ (c19 : Nat), ∃ (s20 : List Value), ∃ (rs21 : List Ent), ∃ (v24 : Int), ∃ Hk14, H8.le Hk14 ∧ (∃ τ, σ = sl [(8, .slice A17 n18 c19), (19, .slice A2 n2 c2), (20, .int .i64 ((x1.length : Int))), (21, .int .i64 v24)] τ) ∧ Mem w0 H w Hk14 (.row (.slice A17 n18 c19) 68 1 n18 s20 :: rs21) ∧ (DeepL (α := List Sec) [130] Hk14 s20 v16 rs21) ∧ (n18 = v16.length) ∧ LoopN (Z90 x1 Φ) n (v16, v24)) (fun n => n) m88 ⟨v7, A10, n10, c10, s10, rs11, 0, H8, (Hp.le.refl _), sl_canon ⟨rfl, rfl, rfl, rfl, trivial⟩, hM, hd12, hn13, hm⟩ ?_
  rintro k25 _ w ⟨v16, A17, n18, c19, s20, rs21, v24, Hk14, hle15, ⟨τ, rfl⟩, hM, hd22, hn23, hm⟩
  obtain _ | k25 := k25
  · exact hm.elim
  replace hm : (Z90 x1 Φ) (v16, v24) (LoopN (Z90 x1 Φ) k25) := hm
  generalize hrec26 : LoopN (Z90 x1 Φ) k25 = rec1 at hm
  refine CW.sr <| RW.st (Ex.lss rfl rfl) rfl <| RW.nil <| CW.seq ?_
  refine CW.cond_dec (p := v24 < (x1.length : Int)) rfl (fun hc27 => ?_) (fun hc27 => ?_)
  ·
   replace hm := And.left hm hc27
   refine CW.skip <| CW.seq <| CW.block <| CW.sr <| RW.st (Ex.move (.int .i64 v24) rfl) rfl ?_
   obtain ⟨hg28, hm⟩ := hm
   refine RW.st (Ex.index st23 rfl rfl v24.toNat (hF2.ne hg28) hg28.nat (hF2.lt hg28)) rfl ?_
   obtain ⟨_, ⟨A29, n29, c29, s29, rfl, hF29⟩, hx30⟩ := DtL.getI (α := api_Write) (hF2.mono ((hle5.trans hle9).trans hle15)).dat hg28
   refine RW.st (Ex.loadEA hM ((hle5.trans hle9).trans hle15) hF2.rdc [.int .i64 ((ix x1 v24).Volume), .int .i64 ((ix x1 v24).Start), .slice A29 n29 c29] ta70 rfl (hF2.ne hg28) rfl (chunk_sub (off := 0) (n := 3) hx30 rfl)) rfl ?_
   refine RW.alloc hM tz70 [.int .i64 0, .int .i64 0, .slice none 0 0] rfl rfl rfl ?_; intro b31 w hM
   refine RW.st (Ex.assign (.int .i64 v24) rfl) rfl ?_
   refine RW.store hM 0 (.agg #[.int .i64 ((ix x1 v24).Volume), .int .i64 ((ix x1 v24).Start), .slice A29 n29 c29]) [.int .i64 ((ix x1 v24).Volume), .int .i64 ((ix x1 v24).Start), .slice A29 n29 c29] [.int .i64 ((ix x1 v24).Volume), .int .i64 ((ix x1 v24).Start), .slice A29 n29 c29] sz70 rfl rfl rfl (oneAll ⟨rfl, rfl, rfl, trivial⟩) rfl (nb rfl) rfl (.box b31 70 [.int .i64 ((ix x1 v24).Volume), .int .i64 ((ix x1 v24).Start), .slice A29 n29 c29] :: .row (.slice A17 n18 c19) 68 1 n18 s20 :: rs21) rfl rfl rfl ?_; intro w hM
   refine RW.nil <| CW.seq <| CW.sr <| RW.st (Ex.move (.slice A17 n18 c19) rfl) rfl <| RW.st (Ex.loadA hM 0 [.int .i64 ((ix x1 v24).Volume), .int .i64 ((ix x1 v24).Start), .slice A29 n29 c29] ta70 rfl rfl rfl rfl) rfl ?_
   have hM1 := hM
   obtain ⟨H32, hM, hle33, hd34⟩ := DeepL.flat (es := [.box b31 70 [.int .i64 ((ix x1 v24).Volume), .int .i64 ((ix x1 v24).Start), .slice A29 n29 c29], .row (.slice A17 n18 c19) 68 1 n18 s20]) hM hd22
   obtain ⟨H35, hM, hle36, hF37⟩ := hM.giveF (α := List Sec) 1 rfl hd34 hn23
   refine RW.callB hM1 hM (image_fits_lift v16 (ix x1 v24) hF37 (hF29.mono (hle33.trans hle36)) hm) en99 rfl rfl rfl rfl ?_; clear hM hM1; intro v38 w hm hM
   refine RW.st (Ex.assign (.int .i64 v38) rfl) rfl <| RW.nil <| CW.sr <| RW.st (Ex.move (.int .i64 v38) rfl) rfl <| RW.st (Ex.neq rfl rfl) rfl <| RW.nil ?_
   refine CW.cond_dec (p := v38 ≠ 0) rfl (fun hc41 => ?_) (fun hc41 => ?_)
   ·
    replace hm := And.left hm hc41
    refine CW.sr <| RW.st (Ex.move (.int .i64 v24) rfl) rfl <| RW.st (Ex.move (.int .i64 v38) rfl) rfl <| RW.st (Ex.assign (.slice none 0 0) rfl) rfl <| RW.st (Ex.assign (.int .i64 v24) rfl) rfl <| RW.st (Ex.assign (.int .i64 v38) rfl) rfl <| RW.nil <| CW.ret ?_
    refine thenQ_ret (blockQ_ret (thenQ_ret (thenQ_ret (blockQ_ret (thenQ_ret ?_)))))
    refine end_tmp3 (.inl rfl) rfl (.slice none 0 0) (.int .i64 v24) (.int .i64 v38) rfl rfl rfl ?_
    replace hM := hM.nilRow 68 1
    exact ⟨_, _, ((Mem.dropT (L1 := [.row (.slice none 0 0) 68 1 0 [], .box b31 70 [.int .i64 ((ix x1 v24).Volume), .int .i64 ((ix x1 v24).Start), .slice A29 n29 c29], .row (.slice A17 n18 c19) 68 1 n18 s20]) (T := rs21) hM).pick [0] rfl rfl), (([] : List (List Sec)), v24, v38), hm, none, 0, 0, [], [], rfl, (DeepL.nil : DeepL (α := List Sec) [130] Hk14 [] [] []), rfl, rfl⟩
   ·
    replace hm := And.right hm hc41
    refine CW.skip ?_
    obtain ⟨hg42, hm⟩ := hm
    obtain ⟨c44, _, c45, _, rs46, rfl, ⟨A43, n43, c43, s43, rfl, rfl, hF43, hn48⟩, hh47, hM⟩ := Mem.focus [.box b31 70 [.int .i64 ((ix x1 v24).Volume), .int .i64 ((ix x1 v24).Start), .slice A29 n29 c29], .row (.slice A17 n18 c19) 68 1 n18 s20] hM hd22 hg42
    have hx49 := Hole.get (ch := [.slice A43 n43 c43]) hh47
    obtain ⟨hg55, hm⟩ := hm
    refine CW.drawL 10 [] [(fun Hq us E => us = [.slice A17 n18 c19] ∧ E = [] ∧ True), (fun Hq us E => us = [.pointer (some ⟨b31, 0, none⟩)] ∧ E = [] ∧ True), (fun Hq us E => us = [.int .i64 ((ix x1 v24).Volume)] ∧ E = [] ∧ True), (fun Hq us E => us = [elp A17 ((((ix x1 v24).Volume).toNat) * 1 + 0)] ∧ E = [] ∧ True), (fun Hq us E => us = [.slice A43 n43 c43] ∧ E = [] ∧ True), (fun Hq us E => us = [.pointer (some ⟨b31, 1, none⟩)] ∧ E = [] ∧ True), (fun Hq us E => us = [.int .i64 ((ix x1 v24).Start)] ∧ E = [] ∧ True), (fun Hq us E => ∃ (A56 : Option Addr), ∃ (n57 : Nat), ∃ (c58 : Nat), us = [.slice A56 n57 c58] ∧ E = [] ∧ View A43 n43 c43 8 ((ix x1 v24).Start) A56 n57 c58 ∧ True), (fun Hq us E => us = [.pointer (some ⟨b31, 2, none⟩)] ∧ E = [] ∧ True), (fun Hq us E => us = [.slice A29 n29 c29] ∧ E = [] ∧ True)]
     (fun k => [[0], [1], [2], [3], [4], [5], [6], [7], [8], [9]].getD k []) (fun _ => none) (by kernel_rfl) hM (by kernel_rfl) (by kernel_rfl) (by kernel_rfl) rfl (by simp only [List.forall_mem_cons]; exact ⟨fun _ _ _ _ hle ⟨e1, e2, _⟩ => ⟨e1, e2, trivial⟩, fun _ _ _ _ hle ⟨e1, e2, _⟩ => ⟨e1, e2, trivial⟩, fun _ _ _ _ hle ⟨e1, e2, _⟩ => ⟨e1, e2, trivial⟩, fun _ _ _ _ hle ⟨e1, e2, _⟩ => ⟨e1, e2, trivial⟩, fun _ _ _ _ hle ⟨e1, e2, _⟩ => ⟨e1, e2, trivial⟩, fun _ _ _ _ hle ⟨e1, e2, _⟩ => ⟨e1, e2, trivial⟩, fun _ _ _ _ hle ⟨e1, e2, _⟩ => ⟨e1, e2, trivial⟩, fun _ _ _ _ hle ⟨A56, n57, c58, e1, e2, hV59, _⟩ => ⟨A56, n57, c58, e1, e2, hV59, trivial⟩, fun _ _ _ _ hle ⟨e1, e2, _⟩ => ⟨e1, e2, trivial⟩, fun _ _ _ _ hle ⟨e1, e2, _⟩ => ⟨e1, e2, trivial⟩, by simp⟩) ⟨?_, ?_, ?_, ?_, ?_, ?_, ?_, ?_, ?_, ?_, trivial⟩ ?_
    ·
     intro H' σ' w R E hle hMR hE0 hE hp hf
     obtain rfl := hE0 rfl
     obtain ⟨τ, rfl⟩ := sl_canon (σ := σ') (l := [(8, .slice A17 n18 c19)]) ⟨(hf 8 (by kernel_rfl)).trans rfl, trivial⟩
     have hM := Mem.subR (R := R) hMR
     exact RW.step (Ex.move (.slice A17 n18 c19) rfl) rfl rfl rfl (RW.nil ⟨rfl, rfl, _, rfl, H', [], Hp.le.refl _, hMR, rfl, rfl, trivial⟩)
    ·
     intro H' σ' w R E hle hMR hE0 hE hp hf
     obtain rfl := hE0 rfl
     obtain ⟨τ, rfl⟩ := sl_canon (σ := σ') (l := [(10, .pointer (some ⟨b31, 0, none⟩))]) ⟨(hf 10 (by kernel_rfl)).trans rfl, trivial⟩
     have hM := Mem.subR (R := R) hMR
     exact RW.step (Ex.fieldAddr fa70_0 rfl) rfl rfl rfl (RW.nil ⟨rfl, rfl, _, rfl, H', [], Hp.le.refl _, hMR, rfl, rfl, trivial⟩)
    ·
     intro H' σ' w R E hle hMR hE0 hE hp hf
     obtain rfl := hE0 rfl
     obtain ⟨_, hg⟩ := hp 1 (by decide) (by kernel_rfl)
     obtain ⟨e60, _, _⟩ := hg.get rfl
     have e61 : σ' 34 = .pointer (some ⟨b31, 0, none⟩) := (List.cons.inj e60).1
     obtain ⟨τ, rfl⟩ := sl_canon (σ := σ') (l := [(34, .pointer (some ⟨b31, 0, none⟩))]) ⟨e61, trivial⟩
     have hM := Mem.subR (R := R) hMR
     exact RW.step (Ex.load1 hM 1 to3 rfl rfl rfl) rfl rfl rfl (RW.nil ⟨rfl, rfl, _, rfl, H', [], Hp.le.refl _, hMR, rfl, rfl, trivial⟩)
    ·
     intro H' σ' w R E hle hMR hE0 hE hp hf
     obtain rfl := hE0 rfl
     obtain ⟨_, hg⟩ := hp 0 (by decide) (by kernel_rfl)
     obtain ⟨e62, _, _⟩ := hg.get rfl
     have e63 : σ' 33 = .slice A17 n18 c19 := (List.cons.inj e62).1
     obtain ⟨_, hg⟩ := hp 2 (by decide) (by kernel_rfl)
     obtain ⟨e64, _, _⟩ := hg.get rfl
     have e65 : σ' 35 = .int .i64 ((ix x1 v24).Volume) := (List.cons.inj e64).1
     obtain ⟨τ, rfl⟩ := sl_canon (σ := σ') (l := [(33, .slice A17 n18 c19), (35, .int .i64 ((ix x1 v24).Volume))]) ⟨e63, e65, trivial⟩
     have hM := Mem.subR (R := R) hMR
     exact RW.step (Ex.index st39 rfl rfl (((ix x1 v24).Volume).toNat) (hM.rowNeD (α := List Sec) (p := 2) rfl hn23 hg42) hg42.nat (Nat.lt_of_lt_of_eq hg42.lt (hn23).symm)) rfl rfl rfl (RW.nil ⟨rfl, rfl, _, rfl, H', [], Hp.le.refl _, hMR, rfl, rfl, trivial⟩)
    ·
     intro H' σ' w R E hle hMR hE0 hE hp hf
     obtain rfl := hE0 rfl
     obtain ⟨_, hg⟩ := hp 3 (by decide) (by kernel_rfl)
     obtain ⟨e66, _, _⟩ := hg.get rfl
     have e67 : σ' 36 = elp A17 ((((ix x1 v24).Volume).toNat) * 1 + 0) := (List.cons.inj e66).1
     obtain ⟨τ, rfl⟩ := sl_canon (σ := σ') (l := [(36, elp A17 ((((ix x1 v24).Volume).toNat) * 1 + 0))]) ⟨e67, trivial⟩
     have hM := Mem.subR (R := R) hMR
     exact RW.step (Ex.loadR hM 2 rfl to68 (hM.rowNeD (α := List Sec) (p := 2) rfl hn23 hg42) rfl (hx49 0 _ rfl)) rfl rfl rfl (RW.nil ⟨rfl, rfl, _, rfl, H', [], Hp.le.refl _, hMR, rfl, rfl, trivial⟩)
    ·
     intro H' σ' w R E hle hMR hE0 hE hp hf
     obtain rfl := hE0 rfl
     obtain ⟨τ, rfl⟩ := sl_canon (σ := σ') (l := [(10, .pointer (some ⟨b31, 0, none⟩))]) ⟨(hf 10 (by kernel_rfl)).trans rfl, trivial⟩
     have hM := Mem.subR (R := R) hMR
     exact RW.step (Ex.fieldAddr fa70_1 rfl) rfl rfl rfl (RW.nil ⟨rfl, rfl, _, rfl, H', [], Hp.le.refl _, hMR, rfl, rfl, trivial⟩)
    ·
     intro H' σ' w R E hle hMR hE0 hE hp hf
     obtain rfl := hE0 rfl
     obtain ⟨_, hg⟩ := hp 5 (by decide) (by kernel_rfl)
     obtain ⟨e68, _, _⟩ := hg.get rfl
     have e69 : σ' 38 = .pointer (some ⟨b31, 1, none⟩) := (List.cons.inj e68).1
     obtain ⟨τ, rfl⟩ := sl_canon (σ := σ') (l := [(38, .pointer (some ⟨b31, 1, none⟩))]) ⟨e69, trivial⟩
     have hM := Mem.subR (R := R) hMR
     exact RW.step (Ex.load1 hM 1 to3 rfl rfl rfl) rfl rfl rfl (RW.nil ⟨rfl, rfl, _, rfl, H', [], Hp.le.refl _, hMR, rfl, rfl, trivial⟩)
    ·
     intro H' σ' w R E hle hMR hE0 hE hp hf
     obtain rfl := hE0 rfl
     obtain ⟨_, hg⟩ := hp 4 (by decide) (by kernel_rfl)
     obtain ⟨e70, _, _⟩ := hg.get rfl
     have e71 : σ' 37 = .slice A43 n43 c43 := (List.cons.inj e70).1
     obtain ⟨_, hg⟩ := hp 6 (by decide) (by kernel_rfl)
     obtain ⟨e72, _, _⟩ := hg.get rfl
     have e73 : σ' 39 = .int .i64 ((ix x1 v24).Start) := (List.cons.inj e72).1
     obtain ⟨τ, rfl⟩ := sl_canon (σ := σ') (l := [(37, .slice A43 n43 c43), (39, .int .i64 ((ix x1 v24).Start))]) ⟨e71, e73, trivial⟩
     have hM := Mem.subR (R := R) hMR
     refine RW.sliceLo st68 rfl rfl hn48 hg55 rfl rfl ?_; intro A56 n57 c58 hV59
     exact RW.nil ⟨rfl, rfl, _, rfl, H', [], Hp.le.refl _, hMR, A56, n57, c58, rfl, rfl, hV59, trivial⟩
    ·
     intro H' σ' w R E hle hMR hE0 hE hp hf
     obtain rfl := hE0 rfl
     obtain ⟨τ, rfl⟩ := sl_canon (σ := σ') (l := [(10, .pointer (some ⟨b31, 0, none⟩))]) ⟨(hf 10 (by kernel_rfl)).trans rfl, trivial⟩
     have hM := Mem.subR (R := R) hMR
     exact RW.step (Ex.fieldAddr fa70_2 rfl) rfl rfl rfl (RW.nil ⟨rfl, rfl, _, rfl, H', [], Hp.le.refl _, hMR, rfl, rfl, trivial⟩)
    ·
     intro H' σ' w R E hle hMR hE0 hE hp hf
     obtain rfl := hE0 rfl
     obtain ⟨_, hg⟩ := hp 8 (by decide) (by kernel_rfl)
     obtain ⟨e74, _, _⟩ := hg.get rfl
     have e75 : σ' 41 = .pointer (some ⟨b31, 2, none⟩) := (List.cons.inj e74).1
     obtain ⟨τ, rfl⟩ := sl_canon (σ := σ') (l := [(41, .pointer (some ⟨b31, 2, none⟩))]) ⟨e75, trivial⟩
     have hM := Mem.subR (R := R) hMR
     exact RW.step (Ex.load1 hM 1 to68 rfl rfl rfl) rfl rfl rfl (RW.nil ⟨rfl, rfl, _, rfl, H', [], Hp.le.refl _, hMR, rfl, rfl, trivial⟩)
    ·
     intro HR8 σ' w X miss hms hleR hM hX hX0 hf
     simp [subs] at hms
     rcases hms with rfl
     ·
      obtain ⟨H76, hH8⟩ : ∃ x, x = HR8 := ⟨_, rfl⟩
      subst hH8
      have hle77 := hleR
      obtain ⟨_, g0, y0⟩ := hX 0 (by decide) (by kernel_rfl)
      obtain ⟨_, rfl, _⟩ := g0.get rfl
      replace y0 : X 0 = [] := y0
      obtain ⟨_, g0, y1⟩ := hX 1 (by decide) (by kernel_rfl)
      obtain ⟨_, rfl, _⟩ := g0.get rfl
      replace y1 : X 1 = [] := y1
      obtain ⟨_, g0, y2⟩ := hX 2 (by decide) (by kernel_rfl)
      obtain ⟨_, rfl, _⟩ := g0.get rfl
      replace y2 : X 2 = [] := y2
      obtain ⟨_, g0, y3⟩ := hX 3 (by decide) (by kernel_rfl)
      obtain ⟨_, rfl, _⟩ := g0.get rfl
      replace y3 : X 3 = [] := y3
      obtain ⟨_, g0, y4⟩ := hX 4 (by decide) (by kernel_rfl)
      obtain ⟨_, rfl, _⟩ := g0.get rfl
      replace y4 : X 4 = [] := y4
      obtain ⟨_, g0, y5⟩ := hX 5 (by decide) (by kernel_rfl)
      obtain ⟨_, rfl, _⟩ := g0.get rfl
      replace y5 : X 5 = [] := y5
      obtain ⟨_, g0, y6⟩ := hX 6 (by decide) (by kernel_rfl)
      obtain ⟨_, rfl, _⟩ := g0.get rfl
      replace y6 : X 6 = [] := y6
      obtain ⟨_, g0, y7⟩ := hX 7 (by decide) (by kernel_rfl)
      obtain ⟨A56, n57, c58, e78, rfl, hV59, _⟩ := g0.get rfl
      have e79 : σ' 40 = .slice A56 n57 c58 := (List.cons.inj e78).1
      replace y7 : X 7 = [] := y7
      obtain ⟨_, g0, y8⟩ := hX 8 (by decide) (by kernel_rfl)
      obtain ⟨_, rfl, _⟩ := g0.get rfl
      replace y8 : X 8 = [] := y8
      obtain ⟨_, g0, y9⟩ := hX 9 (by decide) (by kernel_rfl)
      obtain ⟨e80, rfl, _⟩ := g0.get rfl
      have e81 : σ' 42 = .slice A29 n29 c29 := (List.cons.inj e80).1
      replace y9 : X 9 = [] := y9
      have hfl : flatX X 10 = [] := by
       show X 0 ++ (X 1 ++ (X 2 ++ (X 3 ++ (X 4 ++ (X 5 ++ (X 6 ++ (X 7 ++ (X 8 ++ (X 9 ++ []))))))))) = _
       rw [y0, y1, y2, y3, y4, y5, y6, y7, y8, y9]; rfl
      rw [hfl] at hM
      obtain ⟨τ, rfl⟩ := sl_canon (σ := σ') (l := [(8, .slice A17 n18 c19), (19, .slice A2 n2 c2), (20, .int .i64 ((x1.length : Int))), (21, .int .i64 v24), (40, .slice A56 n57 c58), (42, .slice A29 n29 c29)]) ⟨(hf 8 (by kernel_rfl)).trans rfl, (hf 19 (by kernel_rfl)).trans rfl, (hf 20 (by kernel_rfl)).trans rfl, (hf 21 (by kernel_rfl)).trans rfl, e79, e81, trivial⟩
      change RA _ _ _ _ _ _ _ (sl [(8, .slice A17 n18 c19), (19, .slice A2 n2 c2), (20, .int .i64 ((x1.length : Int))), (21, .int .i64 v24), (40, .slice A56 n57 c58), (42, .slice A29 n29 c29)] τ) _ 11 _
      refine RA.step [10] (by kernel_rfl) rfl ⟨⟨_, rfl, ?_⟩, trivial⟩
      refine RW.copyV (α := Sec) (xs := (ix v16 ((ix x1 v24).Volume))) (ys := (ix x1 v24).Data) hM 0 st68 rfl hV59 rfl (hF43.mono hle77) hn48 hg55 rfl hle77 hF29 rfl rfl ?_; intro s82 w hd83 hM
      refine RW.nil ?_
      refine And.intro rfl ?_
      refine RA.done (by kernel_rfl) ?_
      refine CW.region ?_
      obtain ⟨hg84, hm⟩ := hm
      refine RW.st (Ex.add rfl rfl hg84.1 hg84.2) rfl <| RW.st (Ex.move (.int .i64 (v24 + 1)) rfl) rfl <| RW.nil ?_
      obtain ⟨s85, rs86, hd87, hM⟩ := Mem.unfocus (α := List Sec) (Ts := [130]) (x := (paste (ix v16 ((ix x1 v24).Volume)) ((ix x1 v24).Start) ((ix x1 v24).Data))) [.box b31 70 [.int .i64 ((ix x1 v24).Volume), .int .i64 ((ix x1 v24).Start), .slice A29 n29 c29], .row (.slice A17 n18 c19) 68 1 n18 (c44 ++ ([.slice A43 n43 c43] ++ c45))] hM 1 rfl (hh47.mono hle77) ⟨A43, n43, c43, s82, rfl, rfl, hd83, (hn48).trans (paste_len hg55).symm⟩
      exact And.intro rfl ⟨k25, ⟨(put v16 ((ix x1 v24).Volume) (paste (ix v16 ((ix x1 v24).Volume)) ((ix x1 v24).Start) ((ix x1 v24).Data))), A17, n18, c19, s85, rs86, v24 + 1, H76, hle15.trans hle77, sl_canon ⟨rfl, rfl, rfl, rfl, trivial⟩, (Mem.pickT (L1 := [.box b31 70 [.int .i64 ((ix x1 v24).Volume), .int .i64 ((ix x1 v24).Start), .slice A29 n29 c29], .row (.slice A17 n18 c19) 68 1 n18 s85]) (T := rs86) hM [1] rfl rfl), hd87, (hn23).trans (put_len _ _ _).symm, (by rw [hrec26]; exact hm)⟩, Nat.lt_succ_self _⟩
  ·
   replace hm := And.right hm hc27
   refine CW.exit ?_
   refine CW.sr <| RW.st (Ex.move (.slice A17 n18 c19) rfl) rfl <| RW.st (Ex.assign (.slice A17 n18 c19) rfl) rfl <| RW.st (Ex.assign (.int .i64 0) rfl) rfl <| RW.st (Ex.assign (.int .i64 0) rfl) rfl <| RW.nil <| CW.ret ?_
   refine end_tmp3 (.inl rfl) rfl (.slice A17 n18 c19) (.int .i64 0) (.int .i64 0) rfl rfl rfl ?_
   exact ⟨_, _, hM, (v16, 0, 0), hm, A17, n18, c19, s20, rs21, rfl, hd22, hn23, rfl⟩
theorem pk23 (v : Value) (cs : List Value) : PkR Tryz.prog 23 v cs = (cs = [v]) := by kernel_rfl
set_option maxRecDepth 100000 in
theorem ok53 : ct53.Ok Tryz.prog tab gh := by
  intro x Φ hW H vs _ hA
  obtain ⟨v0, k0, q0, rfl, p0, r0, v1, k1, q1, rfl, p1, r1, hq⟩ := hA
  obtain rfl : q1 = [] := hq
  rw [pk39] at p0
  subst p0
  obtain ⟨A0, n0, c0, s0, e0, hF0⟩ := (show Dt.rd (α := List (List Sec)) H _ _ from r0)
  obtain rfl := (List.cons.inj e0).1
  rw [pk23] at p1
  subst p1
  obtain ⟨A1, n1, c1, s1, e1, hF1⟩ := (show Dt.rd (α := List api_Write) H _ _ from r1)
  obtain rfl := (List.cons.inj e1).1
  have hW : image_Apply_W x.1 x.2.1 (fun y => Φ (y.1, y.2.1, y.2.2, ())) := hW
  intro w hw
  refine (image_Apply_lift x.1 x.2.1 hF0 hF1 hW w hw).mono fun e w' ⟨v, H', L', h1, hM, y, hy, A, n, c, s, rs, hv, hd, hn, hL⟩ => ?_
  subst hL
  obtain ⟨H2, g1, g2, g3⟩ := DeepL.flat (es := [_]) hM hd
  refine ⟨v, H2, _, h1, g1, _, hy, fun nx ρ0 hn0 s' b m hre => ?_⟩
  rw [show resE Tryz.prog tab ct53.rs ct53.own (y.1, y.2.1, y.2.2, ()) nx = some (.tup [.own nx, .i .i64 y.2.1, .i .i64 y.2.2], [(nx, .row 68 y.1)], nx + 1) by kernel_rfl] at hre
  cases hre
  obtain ⟨f1, f2⟩ := fresh_put hn0 (.r A n c)
  exact ⟨ρ0.put nx (.r A n c), f1, Nat.le_succ _, f2, fun id hid => RM.put_ne _ _ (Nat.ne_of_lt hid), ⟨_, hv, _, _, rfl, ⟨A, n, c, RM.put_same _ _ _, rfl⟩, _, _, rfl, rfl, _, _, rfl, rfl, rfl⟩, _, _, rfl, ⟨A, n, c, s, RM.put_same _ _ _, rfl, g3, hn⟩, rfl⟩
theorem ok17 : ct17.Ok Tryz.prog tab gh := Ct.lift (E := ⟨Tryz.prog, tab, [ct24, ct52, ct53], pl17, [], gh, [], []⟩) ⟨tabOk, ⟨ok24, ok52, ok53, trivial⟩, mo, trivial, ghUp, trivial⟩ 9 ct17 fun x Φ => by rw [eq17]; exact id
theorem ok55 : ct55.Ok Tryz.prog tab gh := Ct.lift (E := ⟨Tryz.prog, tab, [], pl55, [], gh, [], []⟩) ⟨tabOk, trivial, mo, trivial, ghUp, trivial⟩ 9 ct55 fun x Φ => by rw [eq55]; exact id
theorem okT55 : ct55.Ok Tryz.prog tab ghT := Ct.lift (E := ⟨Tryz.prog, tab, [], pl55, [], ghT, [], []⟩) ⟨tabOk, trivial, mo, trivial, fun _ _ _ _ => trivial, trivial⟩ 9 ct55 fun x Φ => by
  have h : ct55.W x Φ = topF ⟨Tryz.prog, tab, [], pl55, [], ghT, [], []⟩ 9 ct55.f ct55.ps ct55.rs ct55.own x Φ := by kernel_rfl
  rw [h]; exact id
theorem ok54 : ct54.Ok Tryz.prog tab gh := Ct.lift (E := ⟨Tryz.prog, tab, [ct55, ct84], pl54, [], gh, [], []⟩) ⟨tabOk, ⟨ok55, ok84, trivial⟩, mo, trivial, ghUp, trivial⟩ 9 ct54 fun x Φ => by rw [eq54]; exact id
theorem okT54 : ct54.Ok Tryz.prog tab ghT := Ct.lift (E := ⟨Tryz.prog, tab, [ct55, ct84], pl54, [], ghT, [], []⟩) ⟨tabOk, ⟨okT55, okT84, trivial⟩, mo, trivial, fun _ _ _ _ => trivial, trivial⟩ 9 ct54 fun x Φ => by
  have h : ct54.W x Φ = topF ⟨Tryz.prog, tab, [ct55, ct84], pl54, [], ghT, [], []⟩ 9 ct54.f ct54.ps ct54.rs ct54.own x Φ := by kernel_rfl
  rw [h]; exact id
theorem okT101 : ct101.Ok Tryz.prog tab ghT := Ct.lift (E := ⟨Tryz.prog, tab, [ct54, ct55, ct86], pl101, [], ghT, [], []⟩) ⟨tabOk, ⟨okT54, okT55, okT86, trivial⟩, mo, trivial, fun _ _ _ _ => trivial, trivial⟩ 9 ct101 fun x Φ => by
  have h : ct101.W x Φ = topF ⟨Tryz.prog, tab, [ct54, ct55, ct86], pl101, [], ghT, [], []⟩ 9 ct101.f ct101.ps ct101.rs ct101.own x Φ := by kernel_rfl
  rw [h]; exact id
theorem ref07_Check_lift {H : Hp} (x0 : List (List Sec)) {A1 : Option Addr} {n1 c1 : Nat} {s1 : List Value} (hF1 : Fz (α := List Sec) H A1 n1 c1 x0 s1) {Φ : Int → Prop} (hm : ref07_Check_W x0 Φ) : RetP Tryz.prog 54 #[.slice A1 n1 c1] H (fun _ v L => ∃ y, Φ y ∧ v = .int .i64 (y) ∧ L = []) := by
  refine RetP.mono (okT54 (x0, ()) (fun y => Φ y.1) hm H [.slice A1 n1 c1] trivial ⟨_, [.slice A1 n1 c1], _, rfl, by rw [pk39], (show Dt.rd (α := List (List Sec)) H _ _ from ⟨A1, n1, c1, s1, rfl, hF1⟩), rfl⟩) fun H' v L _ ⟨y, hy, hr⟩ => ?_
  obtain ⟨ρ, _, _, _, _, h1, h2⟩ := hr 0 (fun _ => none) (fun _ _ => rfl) _ _ _ (show resE Tryz.prog tab _ _ y 0 = some (.i .i64 y.1, [], 0) by kernel_rfl)
  exact ⟨y.1, hy, h1, h2⟩
theorem ref07_CopyE_lift {H : Hp} (x0 : List (List Sec)) {A1 : Option Addr} {n1 c1 : Nat} {s1 : List Value} (hF1 : Fz (α := List Sec) H A1 n1 c1 x0 s1) {Φ : List (List Sec) → Prop} (hm : ref07_CopyE_W x0 Φ) : RetP Tryz.prog 100 #[.slice A1 n1 c1] H (fun H' v L => ∃ y, Φ y ∧ ∃ A38, ∃ n38, ∃ c38, ∃ s38, ∃ rs39, v = .slice A38 n38 c38 ∧ DeepL (α := List Sec) [130] H' s38 y rs39 ∧ n38 = y.length ∧ L = .row (.slice A38 n38 c38) 68 1 n38 s38 :: rs39) := by
 refine RetP.of_code Tryz.func100 rfl (nb rfl) fun w0 hM => ?_
 refine CW.sr <| RW.st (Ex.assign (.slice none 0 0) rfl) rfl <| RW.nil <| CW.sr <| RW.st (Ex.assign (.slice none 0 0) rfl) rfl <| RW.nil <| CW.seq <| CW.sr <| RW.st (Ex.assign (.int .i64 0) rfl) rfl <| RW.nil <| CW.block ?_
 obtain ⟨m37, hm⟩ := hm
 skip
 replace hM := hM.nilRow 68 1
 refine CW.loop (β := Nat) (fun n σ w => ∃ (v4 : List (List Sec)), ∃ (A5 : Option Addr), ∃ (n6 : Nat), ∃ (c7 : Nat), ∃ (s8 : List Value), ∃ (rs9 : List Ent), ∃ (v12 : Int), ∃ Hk2, H.le Hk2 ∧ (∃ τ, σ = sl [(0, .slice A1 n1 c1), (3, .slice A5 n6 c7), (4, .int .i64 v12)] τ) ∧ Mem w0 H w Hk2 (.row (.slice A5 n6 c7) 68 1 n6 s8 :: rs9) ∧ (DeepL (α := List Sec) [130] Hk2 s8 v4 rs9) ∧ (n6 = v4.length) ∧ LoopN (Z94 x0 Φ) n (v4, v12)) (fun n => n) m37 ⟨([] : List (List Sec)), none, 0, 0, [], [], 0, H, (Hp.le.refl _), sl_canon ⟨rfl, rfl, rfl, trivial⟩, hM, (DeepL.nil : DeepL (α := List Sec) [130] H [] [] []), rfl, hm⟩ ?_
 rintro k13 _ w ⟨v4, A5, n6, c7, s8, rs9, v12, Hk2, hle3, ⟨τ, rfl⟩, hM, hd10, hn11, hm⟩
 obtain _ | k13 := k13
 · exact hm.elim
 replace hm : (Z94 x0 Φ) (v4, v12) (LoopN (Z94 x0 Φ) k13) := hm
 generalize hrec14 : LoopN (Z94 x0 Φ) k13 = rec1 at hm
 refine CW.seq <| CW.sr <| RW.st (Ex.move (.int .i64 v12) rfl) rfl <| RW.st (Ex.move (.slice A1 n1 c1) rfl) rfl <| RW.st (Ex.lenN st39.1 rfl hF1.hn) rfl <| RW.st (Ex.lss rfl rfl) rfl <| RW.nil ?_
 refine CW.cond_dec (p := v12 < (x0.length : Int)) rfl (fun hc15 => ?_) (fun hc15 => ?_)
 ·
  replace hm := And.left hm hc15
  refine CW.skip <| CW.seq <| CW.block <| CW.sr <| RW.st (Ex.assign (.slice none 0 0) rfl) rfl <| RW.nil <| CW.region <| RW.st (Ex.move (.slice A5 n6 c7) rfl) rfl <| RW.st (Ex.move (.slice none 0 0) rfl) rfl <| RW.st (Ex.move (.slice A1 n1 c1) rfl) rfl <| RW.st (Ex.move (.int .i64 v12) rfl) rfl ?_
  obtain ⟨hg16, hm⟩ := hm
  refine RW.st (Ex.index st39 rfl rfl v12.toNat (hF1.ne hg16) hg16.nat (hF1.lt hg16)) rfl ?_
  obtain ⟨_, ⟨A17, n17, c17, s17, rfl, hF17⟩, hx18⟩ := DtL.getI (α := List Sec) (hF1.mono hle3).dat hg16
  refine RW.st (Ex.loadE hM hle3 hF1.rdc to68 rfl (hx18 0 _ rfl)) rfl ?_
  replace hM := hM.nilRow 130 8
  obtain ⟨hg25, hm⟩ := hm
  refine RW.appendF (α := Sec) (xs := ([] : List Sec)) (ys := (ix x0 v12)) hM 0 st68 rfl rfl (DtL.nil : DtL _ [] ([] : List Sec)) rfl rfl (Hp.le.refl _) hF17 hg25 rfl rfl ?_; intro A19 n20 c21 s22 w hd23 hn24 hM
  refine RW.buildSlice hM st39 tz68 [(0, .slice A19 n20 c21)] [.slice A19 n20 c21] (by decide) rfl rfl rfl (by decide) rfl rfl ?_; intro b26 w hM
  obtain ⟨hg32, hm⟩ := hm
  refine RW.appendH (α := List Sec) (xs := v4) (x0 := (([] : List Sec) ++ (ix x0 v12))) hM 2 st39 rfl rfl hn11 rfl (fun j u hj => hM.rowCell (k := 0) rfl rfl hj) rfl (oneAll ⟨rfl, trivial⟩) hg32 rfl rfl ?_; intro A28 n29 c30 w hn31 hM
  obtain ⟨s33, rs34, hd35, hM⟩ := Mem.adopt (α := List Sec) (Ts := [130]) (x := (([] : List Sec) ++ (ix x0 v12))) [.row (.slice (some ⟨b26, 0, none⟩) 1 1) 68 1 1 [.slice A19 n20 c21], .row (.slice A28 n29 c30) 68 1 n29 (s8 ++ [.slice A19 n20 c21])] (Mem.pickT (L1 := [.row (.slice (some ⟨b26, 0, none⟩) 1 1) 68 1 1 [.slice A19 n20 c21], .row (.slice A19 n20 c21) 130 8 n20 s22, .row (.slice A28 n29 c30) 68 1 n29 (s8 ++ [.slice A19 n20 c21])]) (T := rs9) hM [1, 0, 2] rfl rfl) 1 rfl hd10 ⟨A19, n20, c21, s22, rfl, rfl, hd23, hn24⟩
  replace hM : Mem w0 H w Hk2 (.row (.slice A28 n29 c30) 68 1 n29 s33 :: rs34) := Mem.pickT (L1 := [.row (.slice (some ⟨b26, 0, none⟩) 1 1) 68 1 1 [.slice A19 n20 c21], .row (.slice A28 n29 c30) 68 1 n29 s33]) (T := rs34) hM [1] rfl rfl
  refine RW.st (Ex.assign (.slice A28 n29 c30) rfl) rfl <| RW.nil <| CW.region <| RW.st (Ex.move (.int .i64 v12) rfl) rfl ?_
  obtain ⟨hg36, hm⟩ := hm
  refine RW.st (Ex.add rfl rfl hg36.1 hg36.2) rfl <| RW.st (Ex.assign (.int .i64 (v12 + 1)) rfl) rfl <| RW.nil ?_
  exact And.intro rfl ⟨k13, ⟨(v4 ++ [(([] : List Sec) ++ (ix x0 v12))]), A28, n29, c30, s33, rs34, v12 + 1, Hk2, hle3.trans (Hp.le.refl _), sl_canon ⟨rfl, rfl, rfl, trivial⟩, hM, hd35, hn31, (by rw [hrec14]; exact hm)⟩, Nat.lt_succ_self _⟩
 ·
  replace hm := And.right hm hc15
  refine CW.exit ?_
  refine CW.sr <| RW.st (Ex.move (.slice A5 n6 c7) rfl) rfl <| RW.st (Ex.assign (.slice A5 n6 c7) rfl) rfl <| RW.nil <| CW.ret ?_
  refine end_tmp (.inl rfl) rfl (.slice A5 n6 c7) rfl ?_
  exact ⟨_, _, hM, v4, hm, A5, n6, c7, s8, rs9, rfl, hd10, hn11, rfl⟩
theorem ref07_Fits_lift {H : Hp} (x0 : List (List Sec)) (x1 : api_Write) {A1 : Option Addr} {n1 c1 : Nat} {s1 : List Value} (hF1 : Fz (α := List Sec) H A1 n1 c1 x0 s1) {A2 : Option Addr} {n2 c2 : Nat} {s2 : List Value} (hF2 : Fz (α := Sec) H A2 n2 c2 x1.Data s2) {Φ : Int → Prop} (hm : ref07_Fits_W x0 x1 Φ) : RetP Tryz.prog 101 #[.slice A1 n1 c1, .agg #[.int .i64 (x1.Volume), .int .i64 (x1.Start), .slice A2 n2 c2]] H (fun _ v L => ∃ y, Φ y ∧ v = .int .i64 (y) ∧ L = []) := by
  refine RetP.mono (okT101 (x0, x1, ()) (fun y => Φ y.1) hm H [.slice A1 n1 c1, .agg #[.int .i64 (x1.Volume), .int .i64 (x1.Start), .slice A2 n2 c2]] trivial ⟨_, [.slice A1 n1 c1], _, rfl, by rw [pk39], (show Dt.rd (α := List (List Sec)) H _ _ from ⟨A1, n1, c1, s1, rfl, hF1⟩), ⟨_, [.int .i64 (x1.Volume), .int .i64 (x1.Start), .slice A2 n2 c2], _, rfl, by rw [pk70], (show Dt.rd (α := api_Write) H _ _ from ⟨A2, n2, c2, s2, rfl, hF2⟩), rfl⟩⟩) fun H' v L _ ⟨y, hy, hr⟩ => ?_
  obtain ⟨ρ, _, _, _, _, h1, h2⟩ := hr 0 (fun _ => none) (fun _ _ => rfl) _ _ _ (show resE Tryz.prog tab _ _ y 0 = some (.i .i64 y.1, [], 0) by kernel_rfl)
  exact ⟨y.1, hy, h1, h2⟩
theorem ref07_Apply_lift {H : Hp} (x0 : List (List Sec)) (x1 : List api_Write) {A1 : Option Addr} {n1 c1 : Nat} {s1 : List Value} (hF1 : Fz (α := List Sec) H A1 n1 c1 x0 s1) {A2 : Option Addr} {n2 c2 : Nat} {s2 : List Value} (hF2 : Fz (α := api_Write) H A2 n2 c2 x1 s2) {Φ : List (List Sec) × Int × Int → Prop} (hm : ref07_Apply_W x0 x1 Φ) : RetP Tryz.prog 56 #[.slice A1 n1 c1, .slice A2 n2 c2] H (fun H' v L => ∃ y, Φ y ∧ ∃ A70, ∃ n70, ∃ c70, ∃ s70, ∃ rs71, v = .tuple #[.slice A70 n70 c70, .int .i64 (y.2.1), .int .i64 (y.2.2)] ∧ DeepL (α := List Sec) [130] H' s70 y.1 rs71 ∧ n70 = y.1.length ∧ L = .row (.slice A70 n70 c70) 68 1 n70 s70 :: rs71) := by
 refine RetP.of_code Tryz.func56 rfl (nb rfl) fun w0 hM => ?_
 refine CW.sr <| RW.st (Ex.assign (.slice none 0 0) rfl) rfl <| RW.st (Ex.assign (.int .i64 0) rfl) rfl <| RW.st (Ex.assign (.int .i64 0) rfl) rfl <| RW.nil <| CW.seq <| CW.sr <| RW.st (Ex.move (.slice A1 n1 c1) rfl) rfl ?_
 refine RW.callP hM (ref07_Check_lift x0 hF1 hm) en54 rfl rfl rfl rfl ?_; rintro _ w H4 _ hle5 ⟨v3, hm, rfl, rfl⟩ hM
 refine RW.st (Ex.assign (.int .i64 v3) rfl) rfl <| RW.nil <| CW.sr <| RW.st (Ex.move (.int .i64 v3) rfl) rfl <| RW.st (Ex.neq rfl rfl) rfl <| RW.nil ?_
 refine CW.cond_dec (p := v3 ≠ 0) rfl (fun hc6 => ?_) (fun hc6 => ?_)
 ·
  replace hm := And.left hm hc6
  refine CW.sr <| RW.st (Ex.move (.int .i64 v3) rfl) rfl <| RW.st (Ex.assign (.slice none 0 0) rfl) rfl <| RW.st (Ex.assign (.int .i64 0) rfl) rfl <| RW.st (Ex.assign (.int .i64 v3) rfl) rfl <| RW.nil <| CW.ret ?_
  refine thenQ_ret ?_
  refine end_tmp3 (.inl rfl) rfl (.slice none 0 0) (.int .i64 0) (.int .i64 v3) rfl rfl rfl ?_
  replace hM := hM.nilRow 68 1
  exact ⟨_, _, hM, (([] : List (List Sec)), 0, v3), hm, none, 0, 0, [], [], rfl, (DeepL.nil : DeepL (α := List Sec) [130] H4 [] [] []), rfl, rfl⟩
 ·
  replace hm := And.right hm hc6
  refine CW.skip <| CW.sr <| RW.st (Ex.move (.slice A1 n1 c1) rfl) rfl ?_
  refine RW.callP hM (ref07_CopyE_lift x0 (hF1.mono hle5) hm) en100 rfl rfl rfl rfl ?_; rintro _ w H8 _ hle9 ⟨v7, hm, A10, n10, c10, s10, rs11, rfl, hd12, hn13, rfl⟩ hM
  replace hM := Mem.toTail (a := [.row (.slice A10 n10 c10) 68 1 n10 s10]) (b := rs11) (c := []) hM
  refine RW.st (Ex.assign (.slice A10 n10 c10) rfl) rfl <| RW.nil <| CW.seq <| CW.sr <| RW.st (Ex.assign (.int .i64 0) rfl) rfl <| RW.nil <| CW.block ?_
  obtain ⟨m69, hm⟩ := hm
  skip
  refine CW.loop (β := Nat) (fun n σ w => ∃ (v16 : List (List Sec)), ∃ (A17 : Option Addr), ∃ (n18 : Nat), ∃ (c19 : Nat), ∃ (s20 : List Value), ∃ (rs21 : List Ent), ∃ (v24 : Int), ∃ Hk14, H8.le Hk14 ∧ (∃ τ, σ = sl [(0, .slice A1 n1 c1), (1, .slice A2 n2 c2), (8, .slice A17 n18 c19), (9, .int .i64 v24)] τ) ∧ Mem w0 H w Hk14 (.row (.slice A17 n18 c19) 68 1 n18 s20 :: rs21) ∧ (DeepL (α := List Sec) [130] Hk14 s20 v16 rs21) ∧ (n18 = v16.length) ∧ LoopN (Z96 x0 x1 Φ) n (v16, v24)) (fun n => n) m69 ⟨v7, A10, n10, c10, s10, rs11, 0, H8, (Hp.le.refl _), sl_canon ⟨rfl, rfl, rfl, rfl, trivial⟩, hM, hd12, hn13, hm⟩ ?_
  rintro k25 _ w ⟨v16, A17, n18, c19, s20, rs21, v24, Hk14, hle15, ⟨τ, rfl⟩, hM, hd22, hn23, hm⟩
  obtain _ | k25 := k25
  · exact hm.elim
  replace hm : (Z96 x0 x1 Φ) (v16, v24) (LoopN (Z96 x0 x1 Φ) k25) := hm
  generalize hrec26 : LoopN (Z96 x0 x1 Φ) k25 = rec1 at hm
  refine CW.seq <| CW.sr <| RW.st (Ex.move (.int .i64 v24) rfl) rfl <| RW.st (Ex.move (.slice A2 n2 c2) rfl) rfl <| RW.st (Ex.lenN st23.1 rfl hF2.hn) rfl <| RW.st (Ex.lss rfl rfl) rfl <| RW.nil ?_
  refine CW.cond_dec (p := v24 < (x1.length : Int)) rfl (fun hc27 => ?_) (fun hc27 => ?_)
  ·
   replace hm := And.left hm hc27
   refine CW.skip <| CW.seq <| CW.block <| CW.seq <| CW.sr <| RW.st (Ex.move (.slice A1 n1 c1) rfl) rfl <| RW.st (Ex.move (.slice A2 n2 c2) rfl) rfl <| RW.st (Ex.move (.int .i64 v24) rfl) rfl ?_
   obtain ⟨hg28, hm⟩ := hm
   refine RW.st (Ex.index st23 rfl rfl v24.toNat (hF2.ne hg28) hg28.nat (hF2.lt hg28)) rfl ?_
   obtain ⟨_, ⟨A29, n29, c29, s29, rfl, hF29⟩, hx30⟩ := DtL.getI (α := api_Write) (hF2.mono ((hle5.trans hle9).trans hle15)).dat hg28
   refine RW.st (Ex.loadEA hM ((hle5.trans hle9).trans hle15) hF2.rdc [.int .i64 ((ix x1 v24).Volume), .int .i64 ((ix x1 v24).Start), .slice A29 n29 c29] ta70 rfl (hF2.ne hg28) rfl (chunk_sub (off := 0) (n := 3) hx30 rfl)) rfl ?_
   refine RW.callP hM (ref07_Fits_lift x0 (ix x1 v24) (hF1.mono ((hle5.trans hle9).trans hle15)) hF29 hm) en101 rfl rfl rfl rfl ?_; rintro _ w H32 _ hle33 ⟨v31, hm, rfl, rfl⟩ hM
   refine RW.st (Ex.assign (.int .i64 v31) rfl) rfl <| RW.nil <| CW.sr <| RW.st (Ex.move (.int .i64 v31) rfl) rfl <| RW.st (Ex.neq rfl rfl) rfl <| RW.nil ?_
   refine CW.cond_dec (p := v31 ≠ 0) rfl (fun hc34 => ?_) (fun hc34 => ?_)
   ·
    replace hm := And.left hm hc34
    refine CW.sr <| RW.st (Ex.move (.int .i64 v24) rfl) rfl <| RW.st (Ex.move (.int .i64 v31) rfl) rfl <| RW.st (Ex.assign (.slice none 0 0) rfl) rfl <| RW.st (Ex.assign (.int .i64 v24) rfl) rfl <| RW.st (Ex.assign (.int .i64 v31) rfl) rfl <| RW.nil <| CW.ret ?_
    refine thenQ_ret (blockQ_ret (thenQ_ret (thenQ_ret (blockQ_ret (thenQ_ret ?_)))))
    refine end_tmp3 (.inl rfl) rfl (.slice none 0 0) (.int .i64 v24) (.int .i64 v31) rfl rfl rfl ?_
    replace hM := hM.nilRow 68 1
    exact ⟨_, _, ((Mem.dropT (L1 := [.row (.slice none 0 0) 68 1 0 [], .row (.slice A17 n18 c19) 68 1 n18 s20]) (T := rs21) hM).pick [0] rfl rfl), (([] : List (List Sec)), v24, v31), hm, none, 0, 0, [], [], rfl, (DeepL.nil : DeepL (α := List Sec) [130] H32 [] [] []), rfl, rfl⟩
   ·
    replace hm := And.right hm hc34
    refine CW.skip <| CW.sr <| RW.st (Ex.assign (.int .i64 0) rfl) rfl <| RW.nil <| CW.block ?_
    obtain ⟨m68, hm⟩ := hm
    skip
    refine CW.loop (β := Nat) (fun n σ w => ∃ (v37 : List (List Sec)), ∃ (A38 : Option Addr), ∃ (n39 : Nat), ∃ (c40 : Nat), ∃ (s41 : List Value), ∃ (rs42 : List Ent), ∃ (v45 : Int), ∃ Hk35, H32.le Hk35 ∧ (∃ τ, σ = sl [(0, .slice A1 n1 c1), (1, .slice A2 n2 c2), (8, .slice A38 n39 c40), (9, .int .i64 v24), (11, .int .i64 v45)] τ) ∧ Mem w0 H w Hk35 (.row (.slice A38 n39 c40) 68 1 n39 s41 :: rs42) ∧ (DeepL (α := List Sec) [130] Hk35 s41 v37 rs42) ∧ (n39 = v37.length) ∧ LoopN (Z95 x1 v24 rec1 Φ) n (v37, v45)) (fun n => n) m68 ⟨v16, A17, n18, c19, s20, rs21, 0, H32, (Hp.le.refl _), sl_canon ⟨rfl, rfl, rfl, rfl, rfl, trivial⟩, hM, (hd22.mono hle33), hn23, hm⟩ ?_
    rintro k46 _ w ⟨v37, A38, n39, c40, s41, rs42, v45, Hk35, hle36, ⟨τ, rfl⟩, hM, hd43, hn44, hm⟩
    obtain _ | k46 := k46
    · exact hm.elim
    replace hm : (Z95 x1 v24 rec1 Φ) (v37, v45) (LoopN (Z95 x1 v24 rec1 Φ) k46) := hm
    generalize hrec47 : LoopN (Z95 x1 v24 rec1 Φ) k46 = rec2 at hm
    refine CW.seq <| CW.sr <| RW.st (Ex.move (.int .i64 v45) rfl) rfl <| RW.st (Ex.move (.slice A2 n2 c2) rfl) rfl <| RW.st (Ex.move (.int .i64 v24) rfl) rfl <| RW.st (Ex.index st23 rfl rfl v24.toNat (hF2.ne hg28) hg28.nat (hF2.lt hg28)) rfl <| RW.st (Ex.fieldE fa70_2 (hF2.ne hg28) rfl) rfl <| RW.st (Ex.loadE hM ((((hle5.trans hle9).trans hle15).trans hle33).trans hle36) hF2.rdc to68 rfl (hx30 2 _ rfl)) rfl <| RW.st (Ex.lenN st68.1 rfl hF29.hn) rfl <| RW.st (Ex.lss rfl rfl) rfl <| RW.nil ?_
    refine CW.cond_dec (p := v45 < (((ix x1 v24).Data).length : Int)) rfl (fun hc48 => ?_) (fun hc48 => ?_)
    ·
     replace hm := And.left hm hc48
     refine CW.skip <| CW.seq <| CW.block ?_
     obtain ⟨hg49, hm⟩ := hm
     obtain ⟨c51, _, c52, _, rs53, rfl, ⟨A50, n50, c50, s50, rfl, rfl, hF50, hn55⟩, hh54, hM⟩ := Mem.focus [.row (.slice A38 n39 c40) 68 1 n39 s41] hM hd43 hg49
     have hx56 := Hole.get (ch := [.slice A50 n50 c50]) hh54
     obtain ⟨hg57, hm⟩ := hm
     obtain ⟨hg58, hm⟩ := hm
     obtain ⟨_, rfl, hx59⟩ := DtL.getI (α := Sec) (hF29.mono (hle33.trans hle36)).dat hg58
     refine CW.drawE 23 [.slice A38 n39 c40, .slice A2 n2 c2, .int .i64 v24, elp A2 (v24.toNat * 3 + 0), elp A2 (v24.toNat * 3 + 0), .int .i64 ((ix x1 v24).Volume), elp A38 ((((ix x1 v24).Volume).toNat) * 1 + 0), .slice A50 n50 c50, .slice A2 n2 c2, .int .i64 v24, elp A2 (v24.toNat * 3 + 0), elp A2 (v24.toNat * 3 + 1), .int .i64 ((ix x1 v24).Start), .int .i64 v45, .int .i64 (((ix x1 v24).Start) + v45), .slice A2 n2 c2, .int .i64 v24, elp A2 (v24.toNat * 3 + 0), elp A2 (v24.toNat * 3 + 2), .slice A29 n29 c29, .int .i64 v45, elp A29 (v45.toNat * 8 + 0), .agg #[u8 (ix ((ix x1 v24).Data) v45).b0, u8 (ix ((ix x1 v24).Data) v45).b1, u8 (ix ((ix x1 v24).Data) v45).b2, u8 (ix ((ix x1 v24).Data) v45).b3, u8 (ix ((ix x1 v24).Data) v45).b4, u8 (ix ((ix x1 v24).Data) v45).b5, u8 (ix ((ix x1 v24).Data) v45).b6, u8 (ix ((ix x1 v24).Data) v45).b7]]
      [[(8, none)], [(1, none)], [(9, none)], [(46, some 1), (47, some 2)], [(48, some 3)], [(49, some 4)], [(45, some 0), (50, some 5)], [(51, some 6)], [(1, none)], [(9, none)], [(53, some 8), (54, some 9)], [(55, some 10)], [(56, some 11)], [(11, none)], [(57, some 12), (58, some 13)], [(1, none)], [(9, none)], [(60, some 15), (61, some 16)], [(62, some 17)], [(63, some 18)], [(11, none)], [(64, some 19), (65, some 20)], [(66, some 21)]] [(0, none), (1, none), (8, none), (9, none), (11, none), (52, some 7), (59, some 14), (67, some 22)] (by kernel_rfl) hM (by kernel_rfl) ⟨?_, ?_, ?_, ?_, ?_, ?_, ?_, ?_, ?_, ?_, ?_, ?_, ?_, ?_, ?_, ?_, ?_, ?_, ?_, ?_, ?_, ?_, ?_, trivial⟩ ?_
     · exact One.ex (fun H' τ w hled hM => Ex.move (.slice A38 n39 c40) rfl) rfl (fun _ => rfl) rfl
     · exact One.ex (fun H' τ w hled hM => Ex.move (.slice A2 n2 c2) rfl) rfl (fun _ => rfl) rfl
     · exact One.ex (fun H' τ w hled hM => Ex.move (.int .i64 v24) rfl) rfl (fun _ => rfl) rfl
     · exact One.ex (fun H' τ w hled hM => Ex.index st23 rfl rfl v24.toNat (hF2.ne hg28) hg28.nat (hF2.lt hg28)) rfl (fun _ => rfl) rfl
     · exact One.ex (fun H' τ w hled hM => Ex.fieldE fa70_0 (hF2.ne hg28) rfl) rfl (fun _ => rfl) rfl
     · exact One.ex (fun H' τ w hled hM => Ex.loadE hM (((((hle5.trans hle9).trans hle15).trans hle33).trans hle36).trans hled) hF2.rdc to3 rfl (hx30 0 _ rfl)) rfl (fun _ => rfl) rfl
     · exact One.ex (fun H' τ w hled hM => Ex.index st39 rfl rfl (((ix x1 v24).Volume).toNat) (hM.rowNeD (α := List Sec) (p := 1) rfl hn44 hg49) hg49.nat (Nat.lt_of_lt_of_eq hg49.lt (hn44).symm)) rfl (fun _ => rfl) rfl
     · exact One.ex (fun H' τ w hled hM => Ex.loadR hM 1 rfl to68 (hM.rowNeD (α := List Sec) (p := 1) rfl hn44 hg49) rfl (hx56 0 _ rfl)) rfl (fun _ => rfl) rfl
     · exact One.ex (fun H' τ w hled hM => Ex.move (.slice A2 n2 c2) rfl) rfl (fun _ => rfl) rfl
     · exact One.ex (fun H' τ w hled hM => Ex.move (.int .i64 v24) rfl) rfl (fun _ => rfl) rfl
     · exact One.ex (fun H' τ w hled hM => Ex.index st23 rfl rfl v24.toNat (hF2.ne hg28) hg28.nat (hF2.lt hg28)) rfl (fun _ => rfl) rfl
     · exact One.ex (fun H' τ w hled hM => Ex.fieldE fa70_1 (hF2.ne hg28) rfl) rfl (fun _ => rfl) rfl
     · exact One.ex (fun H' τ w hled hM => Ex.loadE hM (((((hle5.trans hle9).trans hle15).trans hle33).trans hle36).trans hled) hF2.rdc to3 rfl (hx30 1 _ rfl)) rfl (fun _ => rfl) rfl
     · exact One.ex (fun H' τ w hled hM => Ex.move (.int .i64 v45) rfl) rfl (fun _ => rfl) rfl
     · exact One.ex (fun H' τ w hled hM => Ex.add rfl rfl hg57.1 hg57.2) rfl (fun _ => rfl) rfl
     · exact One.ex (fun H' τ w hled hM => Ex.move (.slice A2 n2 c2) rfl) rfl (fun _ => rfl) rfl
     · exact One.ex (fun H' τ w hled hM => Ex.move (.int .i64 v24) rfl) rfl (fun _ => rfl) rfl
     · exact One.ex (fun H' τ w hled hM => Ex.index st23 rfl rfl v24.toNat (hF2.ne hg28) hg28.nat (hF2.lt hg28)) rfl (fun _ => rfl) rfl
     · exact One.ex (fun H' τ w hled hM => Ex.fieldE fa70_2 (hF2.ne hg28) rfl) rfl (fun _ => rfl) rfl
     · exact One.ex (fun H' τ w hled hM => Ex.loadE hM (((((hle5.trans hle9).trans hle15).trans hle33).trans hle36).trans hled) hF2.rdc to68 rfl (hx30 2 _ rfl)) rfl (fun _ => rfl) rfl
     · exact One.ex (fun H' τ w hled hM => Ex.move (.int .i64 v45) rfl) rfl (fun _ => rfl) rfl
     · exact One.ex (fun H' τ w hled hM => Ex.index st68 rfl rfl v45.toNat (hF29.ne hg58) hg58.nat (hF29.lt hg58)) rfl (fun _ => rfl) rfl
     · exact One.ex (fun H' τ w hled hM => Ex.loadEA hM ((hle33.trans hle36).trans hled) hF29.rdc [u8 (ix ((ix x1 v24).Data) v45).b0, u8 (ix ((ix x1 v24).Data) v45).b1, u8 (ix ((ix x1 v24).Data) v45).b2, u8 (ix ((ix x1 v24).Data) v45).b3, u8 (ix ((ix x1 v24).Data) v45).b4, u8 (ix ((ix x1 v24).Data) v45).b5, u8 (ix ((ix x1 v24).Data) v45).b6, u8 (ix ((ix x1 v24).Data) v45).b7] ta130 rfl (hF29.ne hg58) rfl (chunk_sub (off := 0) (n := 8) hx59 rfl)) rfl (fun _ => rfl) rfl
     intro τ w hM
     change RW _ _ _ _ _ _ _ _ (sl [(0, .slice A1 n1 c1), (1, .slice A2 n2 c2), (8, .slice A38 n39 c40), (9, .int .i64 v24), (11, .int .i64 v45), (52, .slice A50 n50 c50), (59, .int .i64 (((ix x1 v24).Start) + v45)), (67, .agg #[u8 (ix ((ix x1 v24).Data) v45).b0, u8 (ix ((ix x1 v24).Data) v45).b1, u8 (ix ((ix x1 v24).Data) v45).b2, u8 (ix ((ix x1 v24).Data) v45).b3, u8 (ix ((ix x1 v24).Data) v45).b4, u8 (ix ((ix x1 v24).Data) v45).b5, u8 (ix ((ix x1 v24).Data) v45).b6, u8 (ix ((ix x1 v24).Data) v45).b7])] τ) _
     obtain ⟨hg60, hm⟩ := hm
     refine RW.st (Ex.index st68 rfl rfl ((((ix x1 v24).Start) + v45).toNat) (hM.rowNeD (α := Sec) (p := 0) rfl hn55 hg60) hg60.nat (Nat.lt_of_lt_of_eq hg60.lt (hn55).symm)) rfl ?_
     refine RW.storeD (α := Sec) (off := 0) (x' := (ix ((ix x1 v24).Data) v45)) hM 0 hF50 (.agg #[u8 (ix ((ix x1 v24).Data) v45).b0, u8 (ix ((ix x1 v24).Data) v45).b1, u8 (ix ((ix x1 v24).Data) v45).b2, u8 (ix ((ix x1 v24).Data) v45).b3, u8 (ix ((ix x1 v24).Data) v45).b4, u8 (ix ((ix x1 v24).Data) v45).b5, u8 (ix ((ix x1 v24).Data) v45).b6, u8 (ix ((ix x1 v24).Data) v45).b7]) [u8 (ix ((ix x1 v24).Data) v45).b0, u8 (ix ((ix x1 v24).Data) v45).b1, u8 (ix ((ix x1 v24).Data) v45).b2, u8 (ix ((ix x1 v24).Data) v45).b3, u8 (ix ((ix x1 v24).Data) v45).b4, u8 (ix ((ix x1 v24).Data) v45).b5, u8 (ix ((ix x1 v24).Data) v45).b6, u8 (ix ((ix x1 v24).Data) v45).b7] sz130 rfl hn55 hg60 (nb rfl) rfl rfl (oneAll ⟨rfl, rfl, rfl, rfl, rfl, rfl, rfl, rfl, trivial⟩) rfl (fun ch h => rdWhole h (show Dt.rd (α := Sec) _ [u8 (ix ((ix x1 v24).Data) v45).b0, u8 (ix ((ix x1 v24).Data) v45).b1, u8 (ix ((ix x1 v24).Data) v45).b2, u8 (ix ((ix x1 v24).Data) v45).b3, u8 (ix ((ix x1 v24).Data) v45).b4, u8 (ix ((ix x1 v24).Data) v45).b5, u8 (ix ((ix x1 v24).Data) v45).b6, u8 (ix ((ix x1 v24).Data) v45).b7] (ix ((ix x1 v24).Data) v45) from rfl)) rfl rfl ?_
     intro s61 w hd62 hM
     refine RW.nil <| CW.region <| RW.st (Ex.move (.int .i64 v45) rfl) rfl ?_
     obtain ⟨hg63, hm⟩ := hm
     refine RW.st (Ex.add rfl rfl hg63.1 hg63.2) rfl <| RW.st (Ex.assign (.int .i64 (v45 + 1)) rfl) rfl <| RW.nil ?_
     obtain ⟨s64, rs65, hd66, hM⟩ := Mem.unfocus (α := List Sec) (Ts := [130]) (x := (put (ix v37 ((ix x1 v24).Volume)) (((ix x1 v24).Start) + v45) (ix ((ix x1 v24).Data) v45))) [.row (.slice A38 n39 c40) 68 1 n39 (c51 ++ ([.slice A50 n50 c50] ++ c52))] hM 0 rfl hh54 ⟨A50, n50, c50, s61, rfl, rfl, hd62, (hn55).trans (put_len _ _ _).symm⟩
     exact And.intro rfl ⟨k46, ⟨(put v37 ((ix x1 v24).Volume) (put (ix v37 ((ix x1 v24).Volume)) (((ix x1 v24).Start) + v45) (ix ((ix x1 v24).Data) v45))), A38, n39, c40, s64, rs65, v45 + 1, Hk35, hle36.trans (Hp.le.refl _), sl_canon ⟨rfl, rfl, rfl, rfl, rfl, trivial⟩, hM, hd66, (hn44).trans (put_len _ _ _).symm, (by rw [hrec47]; exact hm)⟩, Nat.lt_succ_self _⟩
    ·
     replace hm := And.right hm hc48
     refine CW.exit ?_
     refine CW.region <| RW.st (Ex.move (.int .i64 v24) rfl) rfl ?_
     obtain ⟨hg67, hm⟩ := hm
     refine RW.st (Ex.add rfl rfl hg67.1 hg67.2) rfl <| RW.st (Ex.assign (.int .i64 (v24 + 1)) rfl) rfl <| RW.nil ?_
     exact And.intro rfl ⟨k25, ⟨v37, A38, n39, c40, s41, rs42, v24 + 1, Hk35, hle15.trans (hle33.trans hle36), sl_canon ⟨rfl, rfl, rfl, rfl, trivial⟩, hM, hd43, hn44, (by rw [hrec26]; exact hm)⟩, Nat.lt_succ_self _⟩
  ·
   replace hm := And.right hm hc27
   refine CW.exit ?_
   refine CW.sr <| RW.st (Ex.move (.slice A17 n18 c19) rfl) rfl <| RW.st (Ex.assign (.slice A17 n18 c19) rfl) rfl <| RW.st (Ex.assign (.int .i64 0) rfl) rfl <| RW.st (Ex.assign (.int .i64 0) rfl) rfl <| RW.nil <| CW.ret ?_
   refine end_tmp3 (.inl rfl) rfl (.slice A17 n18 c19) (.int .i64 0) (.int .i64 0) rfl rfl rfl ?_
   exact ⟨_, _, hM, (v16, 0, 0), hm, A17, n18, c19, s20, rs21, rfl, hd22, hn23, rfl⟩
set_option maxRecDepth 100000 in
theorem ok56 : ct56.Ok Tryz.prog tab gh := by
  intro x Φ hW H vs _ hA
  obtain ⟨v0, k0, q0, rfl, p0, r0, v1, k1, q1, rfl, p1, r1, hq⟩ := hA
  obtain rfl : q1 = [] := hq
  rw [pk39] at p0
  subst p0
  obtain ⟨A0, n0, c0, s0, e0, hF0⟩ := (show Dt.rd (α := List (List Sec)) H _ _ from r0)
  obtain rfl := (List.cons.inj e0).1
  rw [pk23] at p1
  subst p1
  obtain ⟨A1, n1, c1, s1, e1, hF1⟩ := (show Dt.rd (α := List api_Write) H _ _ from r1)
  obtain rfl := (List.cons.inj e1).1
  have hW : ref07_Apply_W x.1 x.2.1 (fun y => Φ (y.1, y.2.1, y.2.2, ())) := hW
  intro w hw
  refine (ref07_Apply_lift x.1 x.2.1 hF0 hF1 hW w hw).mono fun e w' ⟨v, H', L', h1, hM, y, hy, A, n, c, s, rs, hv, hd, hn, hL⟩ => ?_
  subst hL
  obtain ⟨H2, g1, g2, g3⟩ := DeepL.flat (es := [_]) hM hd
  refine ⟨v, H2, _, h1, g1, _, hy, fun nx ρ0 hn0 s' b m hre => ?_⟩
  rw [show resE Tryz.prog tab ct56.rs ct56.own (y.1, y.2.1, y.2.2, ()) nx = some (.tup [.own nx, .i .i64 y.2.1, .i .i64 y.2.2], [(nx, .row 68 y.1)], nx + 1) by kernel_rfl] at hre
  cases hre
  obtain ⟨f1, f2⟩ := fresh_put hn0 (.r A n c)
  exact ⟨ρ0.put nx (.r A n c), f1, Nat.le_succ _, f2, fun id hid => RM.put_ne _ _ (Nat.ne_of_lt hid), ⟨_, hv, _, _, rfl, ⟨A, n, c, RM.put_same _ _ _, rfl⟩, _, _, rfl, rfl, _, _, rfl, rfl, rfl⟩, _, _, rfl, ⟨A, n, c, s, RM.put_same _ _ _, rfl, g3, hn⟩, rfl⟩
theorem ok18 : ct18.Ok Tryz.prog tab gh := Ct.lift (E := ⟨Tryz.prog, tab, [ct50, ct54, ct55, ct56], pl18, [], gh, [], []⟩) ⟨tabOk, ⟨ok50, ok54, ok55, ok56, trivial⟩, mo, trivial, ghUp, trivial⟩ 9 ct18 fun x Φ => by rw [eq18]; exact id
theorem ok46 : ct46.Ok Tryz.prog tab gh := Ct.lift (E := ⟨Tryz.prog, tab, [], pl46, [], gh, [], []⟩) ⟨tabOk, trivial, mo, trivial, ghUp, trivial⟩ 9 ct46 fun x Φ => by rw [eq46]; exact id
theorem ok12 : ct12.Ok Tryz.prog tab gh := Ct.lift (E := ⟨Tryz.prog, tab, [ct46, ct47], pl12, [], gh, [], []⟩) ⟨tabOk, ⟨ok46, ok47, trivial⟩, mo, trivial, ghUp, trivial⟩ 9 ct12 fun x Φ => by rw [eq12]; exact id
theorem ok57 : ct57.Ok Tryz.prog tab gh := Ct.lift (E := ⟨Tryz.prog, tab, [], pl57, [], gh, [], []⟩) ⟨tabOk, trivial, mo, trivial, ghUp, trivial⟩ 9 ct57 fun x Φ => by rw [eq57]; exact id
theorem ok19 : ct19.Ok Tryz.prog tab gh := Ct.lift (E := ⟨Tryz.prog, tab, [ct57], pl19, [], gh, [], []⟩) ⟨tabOk, ⟨ok57, trivial⟩, mo, trivial, ghUp, trivial⟩ 9 ct19 fun x Φ => by rw [eq19]; exact id
theorem ok4 : ct4.Ok Tryz.prog tab gh := Ct.lift (E := ⟨Tryz.prog, tab, [ct8, ct12, ct13, ct14, ct15, ct16, ct17, ct18, ct19], pl4, [], gh, [], []⟩) ⟨tabOk, ⟨ok8, ok12, ok13, ok14, ok15, ok16, ok17, ok18, ok19, trivial⟩, mo, trivial, ghUp, trivial⟩ 9 ct4 fun x Φ => by rw [eq4]; exact id
section
theorem iI {x : Int} (h1 : -9223372036854775808 ≤ x) (h2 : x ≤ 9223372036854775807) : inI x := ⟨h1, h2⟩
theorem iX {i : Int} {n : Nat} (h1 : 0 ≤ i) (h2 : i < (n : Int)) : inX i n := ⟨h1, h2⟩
theorem iS {a b : Int} {n : Nat} (h1 : 0 ≤ a) (h2 : a ≤ b) (h3 : b ≤ (n : Int)) : inS a b n := ⟨h1, h2, h3⟩
theorem iL {n b : Nat} (h : n ≤ 1000000) (hb : b ≤ 1000000) : lenOk n b := by
  have := Nat.mul_le_mul h hb
  refine ⟨by omega, ?_⟩
  simp only [maxLen]
  omega
section
variable {α : Type} [Dt α]
theorem ix_get {xs : List α} {k : Nat} (h : k < xs.length) : ix xs (k : Int) = xs[k] := by
  show xs.getD k default = _
  rw [List.getD_eq_getElem?_getD, List.getElem?_eq_getElem h]; rfl
theorem take_ix {xs : List α} {k : Nat} (h : k < xs.length) : xs.take (k + 1) = xs.take k ++ [ix xs (k : Int)] := by
  rw [ix_get h]; exact (List.take_append_getElem h).symm
theorem ix_mem {xs : List α} {i : Int} (h : inX i xs.length) : ix xs i ∈ xs := by
  have e := h.nat
  have hl := h.lt
  rw [e, ix_get hl]
  exact List.getElem_mem hl
theorem ext_ix {xs ys : List α} (hl : xs.length = ys.length) (h : ∀ k : Nat, k < xs.length → ix xs (k : Int) = ix ys (k : Int)) : xs = ys := by
  apply List.ext_getElem hl
  intro k h1 h2
  have := h k h1
  rwa [ix_get h1, ix_get h2] at this
end
section
variable {A : Type}
def firstN (f : Nat → Int) : Nat → Int
  | 0 => 0
  | n + 1 => if firstN f n ≠ 0 then firstN f n else f n
theorem firstN_congr {f g : Nat → Int} : ∀ {n : Nat}, (∀ k, k < n → f k = g k) → firstN f n = firstN g n
  | 0, _ => rfl
  | n + 1, h => by unfold firstN; rw [firstN_congr fun k hk => h k (by omega), h n (by omega)]
theorem firstN_hit {f : Nat → Int} : ∀ {n k : Nat}, k < n → (∀ j, j < k → f j = 0) → f k ≠ 0 → firstN f n = f k
  | 0, _, hk, _, _ => by omega
  | n + 1, k, hk, h0, h1 => by
    unfold firstN
    rcases Nat.lt_or_ge k n with h | h
    · rw [firstN_hit h h0 h1, if_pos h1]
    · have e : k = n := by omega
      subst e
      have : firstN f k = 0 := by
        clear h1 hk h
        induction k with
        | zero => rfl
        | succ k ih => unfold firstN; rw [ih fun j hj => h0 j (by omega), if_neg (by simp), h0 k (by omega)]
      rw [this, if_neg (by simp)]
theorem firstN_zero {f : Nat → Int} : ∀ {n : Nat}, firstN f n = 0 ↔ ∀ k, k < n → f k = 0
  | 0 => by simp [firstN]
  | n + 1 => by
    unfold firstN
    constructor
    · intro h k hk
      by_cases h1 : firstN f n ≠ 0
      · rw [if_pos h1] at h; exact absurd h h1
      · rw [if_neg h1] at h
        rcases Nat.lt_or_ge k n with hlt | hge
        · exact (firstN_zero.1 (Classical.not_not.1 h1)) k hlt
        · have : k = n := by omega
          subst this; exact h
    · intro h
      rw [if_neg (by rw [firstN_zero.2 fun k hk => h k (by omega)]; simp), h n (by omega)]
end
end
theorem LoopW.upI {S : Type} {step : S → (S → Prop) → Prop} (n : Nat) (st : Nat → S) (I : Nat → Prop) {s : S} (hs : s = st 0) (h0 : I 0)
    (h : ∀ (k : Nat) rec, k < n → I k → (I (k + 1) → ∀ s, s = st (k + 1) → rec s) → step (st k) rec) (he : ∀ rec, I n → step (st n) rec) : LoopW step s := by
  have key : ∀ m k, k + m = n → I k → LoopN step (m + 1) (st k) := by
    intro m
    induction m with
    | zero => intro k hk hI; obtain rfl : k = n := hk; exact he _ hI
    | succ m ih => intro k hk hI; exact h k _ (by omega) hI fun hI' s hs => by rw [hs]; exact ih (k + 1) (by omega) hI'
  exact ⟨n + 1, by rw [hs]; exact key n 0 (by omega) h0⟩
theorem LoopW.upT {S : Type} {step : S → (S → Prop) → Prop} (n : Nat) (st : Nat → S) {s : S} (hs : s = st 0)
    (h : ∀ (k : Nat) rec, k < n → (∀ s, s = st (k + 1) → rec s) → step (st k) rec) (he : ∀ rec, step (st n) rec) : LoopW step s :=
  LoopW.upI n st (fun _ => True) hs trivial (fun k rec hk _ hr => h k rec hk (hr trivial)) fun rec _ => he rec
theorem LoopW.findI {step : Int → (Int → Prop) → Prop} (n : Nat) (p : Nat → Bool) (h : ∀ (k : Nat) rec, k < n → (∀ j, j < k → p j = false) → (p k = false → rec ((k : Int) + 1)) → step (k : Int) rec)
    (he : ∀ rec, (∀ j, j < n → p j = false) → step (n : Int) rec) : LoopW step 0 :=
  LoopW.upI n (fun k => (k : Int)) (fun k => ∀ j, j < k → p j = false) rfl (fun j hj => absurd hj (Nat.not_lt_zero j)) (fun k rec hk hI hr => h k rec hk hI fun hp => hr (fun j hj => by
    rcases Nat.lt_or_ge j k with h2 | h2
    · exact hI j h2
    · obtain rfl : j = k := by omega
      exact hp) _ rfl) he
theorem len_snoc {α : Type} (xs : List α) (x : α) : (xs ++ [x]).length = xs.length + 1 := by simp
theorem lenT {α : Type} {xs : List α} {k : Nat} (h : k ≤ xs.length) : (xs.take k).length = k := by rw [List.length_take]; omega
theorem take_all {α : Type} (xs : List α) : xs.take xs.length = xs := List.take_length
theorem map_take_snoc {α β : Type} [Dt α] {xs : List α} {k : Nat} (f : α → β) (h : k < xs.length) : (xs.take (k + 1)).map f = (xs.take k).map f ++ [f (ix xs (k : Int))] := by rw [take_ix h, List.map_append]; rfl
theorem LoopW.errI {S : Type} {step : S → (S → Prop) → Prop} (n : Nat) (st : Nat → S) (f : Nat → Int) {Ψ : Int → Prop} {s : S} (hs : s = st 0) (hΨ : Ψ (firstN f n))
    (h : ∀ (k : Nat) rec, k < n → (∀ j, j < k → f j = 0) → (f k ≠ 0 → Ψ (f k)) → (f k = 0 → ∀ s, s = st (k + 1) → rec s) → step (st k) rec) (he : ∀ rec, (∀ j, j < n → f j = 0) → Ψ 0 → step (st n) rec) : LoopW step s :=
  LoopW.upI n st (fun k => ∀ j, j < k → f j = 0) hs (fun j hj => absurd hj (Nat.not_lt_zero j)) (fun k rec hk hI hr => h k rec hk hI (fun h1 => by rw [firstN_hit hk hI h1] at hΨ; exact hΨ) fun h0 => hr fun j hj => by
    rcases Nat.lt_or_ge j k with h2 | h2
    · exact hI j h2
    · obtain rfl : j = k := by omega
      exact h0) fun rec hI => he rec hI (by rw [firstN_zero.2 hI] at hΨ; exact hΨ)
end Go.Proofs.YtbnfefbhalpceaaGreat
