/- Part 6 of the proof of the statement TopFailbackNeededCardSaid: lemmas. No condition of its own. -/
import Derived.Test.YtbcembjnddnneaaGreatDoorM5
namespace Go.Proofs.YtbcembjnddnneaaGreatDoor
open Go.RowKit
theorem mo : Tryz.prog.follows .mixedOrders = true := by kernel_rfl
theorem okU {cs : List (Ct DD)} {pl : List PE} {S : List (List Nat × Nat)} {K : List (Sk DD)} {c : Ct DD} (h : Eqn cs pl S K c) (hE : Env.Ok (⟨Tryz.prog, tab, cs, pl, [], gh, [], S, K⟩ : Env DD)) : c.Ok Tryz.prog tab gh := Ct.lift hE 9 c fun x Φ => by rw [h x Φ]; exact id
theorem ok16 : ct16.Ok Tryz.prog tab gh := okU eq16 ⟨tabOk, trivial, mo, trivial, ghUp, trivial, trivial⟩
theorem ok108 : ct108.Ok Tryz.prog tab gh := okU eq108 ⟨tabOk, trivial, mo, trivial, ghUp, trivial, trivial⟩
theorem okT108 : ct108.Ok Tryz.prog tab ghT := Ct.lift (E := ⟨Tryz.prog, tab, [], pl108, [], ghT, [], [], []⟩) ⟨tabOk, trivial, mo, trivial, fun _ _ _ _ => trivial, trivial, trivial⟩ 9 ct108 fun x Φ => by
  have h : ct108.W x Φ = topF ⟨Tryz.prog, tab, [], pl108, [], ghT, [], [], []⟩ 9 ct108.f ct108.ps ct108.rs ct108.own x Φ := by kernel_rfl
  rw [h]; exact id
theorem ok76 : ct76.Ok Tryz.prog tab gh := okU eq76 ⟨tabOk, ⟨ok108, trivial⟩, mo, trivial, ghUp, trivial, trivial⟩
theorem okT76 : ct76.Ok Tryz.prog tab ghT := Ct.lift (E := ⟨Tryz.prog, tab, [ct108], pl76, [], ghT, [], [], []⟩) ⟨tabOk, ⟨okT108, trivial⟩, mo, trivial, fun _ _ _ _ => trivial, trivial, trivial⟩ 9 ct76 fun x Φ => by
  have h : ct76.W x Φ = topF ⟨Tryz.prog, tab, [ct108], pl76, [], ghT, [], [], []⟩ 9 ct76.f ct76.ps ct76.rs ct76.own x Φ := by kernel_rfl
  rw [h]; exact id
theorem ok106 : ct106.Ok Tryz.prog tab gh := okU eq106 ⟨tabOk, trivial, mo, trivial, ghUp, trivial, trivial⟩
theorem okT106 : ct106.Ok Tryz.prog tab ghT := Ct.lift (E := ⟨Tryz.prog, tab, [], pl106, [], ghT, [], [], []⟩) ⟨tabOk, trivial, mo, trivial, fun _ _ _ _ => trivial, trivial, trivial⟩ 9 ct106 fun x Φ => by
  have h : ct106.W x Φ = topF ⟨Tryz.prog, tab, [], pl106, [], ghT, [], [], []⟩ 9 ct106.f ct106.ps ct106.rs ct106.own x Φ := by kernel_rfl
  rw [h]; exact id
theorem ok75 : ct75.Ok Tryz.prog tab gh := okU eq75 ⟨tabOk, ⟨ok106, trivial⟩, mo, trivial, ghUp, trivial, trivial⟩
theorem okT75 : ct75.Ok Tryz.prog tab ghT := Ct.lift (E := ⟨Tryz.prog, tab, [ct106], pl75, [], ghT, [], [], []⟩) ⟨tabOk, ⟨okT106, trivial⟩, mo, trivial, fun _ _ _ _ => trivial, trivial, trivial⟩ 9 ct75 fun x Φ => by
  have h : ct75.W x Φ = topF ⟨Tryz.prog, tab, [ct106], pl75, [], ghT, [], [], []⟩ 9 ct75.f ct75.ps ct75.rs ct75.own x Φ := by kernel_rfl
  rw [h]; exact id
theorem ok40 : ct40.Ok Tryz.prog tab gh := okU eq40 ⟨tabOk, ⟨ok75, ok76, trivial⟩, mo, trivial, ghUp, trivial, trivial⟩
theorem okT40 : ct40.Ok Tryz.prog tab ghT := Ct.lift (E := ⟨Tryz.prog, tab, [ct75, ct76], pl40, [], ghT, [], [], []⟩) ⟨tabOk, ⟨okT75, okT76, trivial⟩, mo, trivial, fun _ _ _ _ => trivial, trivial, trivial⟩ 9 ct40 fun x Φ => by
  have h : ct40.W x Φ = topF ⟨Tryz.prog, tab, [ct75, ct76], pl40, [], ghT, [], [], []⟩ 9 ct40.f ct40.ps ct40.rs ct40.own x Φ := by kernel_rfl
  rw [h]; exact id
theorem ok70 : ct70.Ok Tryz.prog tab gh := okU eq70 ⟨tabOk, trivial, mo, trivial, ghUp, trivial, trivial⟩
theorem okT70 : ct70.Ok Tryz.prog tab ghT := Ct.lift (E := ⟨Tryz.prog, tab, [], pl70, [], ghT, [], [], []⟩) ⟨tabOk, trivial, mo, trivial, fun _ _ _ _ => trivial, trivial, trivial⟩ 9 ct70 fun x Φ => by
  have h : ct70.W x Φ = topF ⟨Tryz.prog, tab, [], pl70, [], ghT, [], [], []⟩ 9 ct70.f ct70.ps ct70.rs ct70.own x Φ := by kernel_rfl
  rw [h]; exact id
theorem ok54 : ct54.Ok Tryz.prog tab gh := okU eq54 ⟨tabOk, trivial, mo, trivial, ghUp, trivial, trivial⟩
theorem okT54 : ct54.Ok Tryz.prog tab ghT := Ct.lift (E := ⟨Tryz.prog, tab, [], pl54, [], ghT, [], [], []⟩) ⟨tabOk, trivial, mo, trivial, fun _ _ _ _ => trivial, trivial, trivial⟩ 9 ct54 fun x Φ => by
  have h : ct54.W x Φ = topF ⟨Tryz.prog, tab, [], pl54, [], ghT, [], [], []⟩ 9 ct54.f ct54.ps ct54.rs ct54.own x Φ := by kernel_rfl
  rw [h]; exact id
theorem pk23 (v : Value) (cs : List Value) : PkR Tryz.prog 23 v cs = (cs = [v]) := by kernel_rfl
theorem q309 {H : Hp} (x0 : List (List Sec)) {A1 : Option Addr} {n1 c1 : Nat} {s1 : List Value} (hF1 : Fz (α := List Sec) H A1 n1 c1 x0 s1) {Φ : Int → Prop} (hm : q38 x0 Φ) : RetP Tryz.prog 40 #[.slice A1 n1 c1] H (fun _ v L => ∃ y, Φ y ∧ v = .int .i64 (y) ∧ L = []) := by
  refine RetP.mono (okT40 (x0, ()) (fun y => Φ y.1) hm H [.slice A1 n1 c1] trivial ⟨_, [.slice A1 n1 c1], _, rfl, by rw [pk23], (show Dt.rd (α := List (List Sec)) H _ _ from ⟨A1, n1, c1, s1, rfl, hF1⟩), rfl⟩) fun H' v L _ ⟨y, hy, hr⟩ => ?_; obtain ⟨ρ, _, _, _, _, h1, h2⟩ := hr 0 (fun _ => none) (fun _ _ => rfl) _ _ _ (show resE Tryz.prog tab _ _ y 0 = some (.i .i64 y.1, [], 0) by kernel_rfl); exact ⟨y.1, hy, h1, h2⟩
theorem pk92 (v : Value) (cs : List Value) : PkR Tryz.prog 92 v cs = (cs = [v]) := by kernel_rfl
theorem q60 {H : Hp} (x0 : List Sec) {A1 : Option Addr} {n1 c1 : Nat} {s1 : List Value} (hF1 : Fz (α := Sec) H A1 n1 c1 x0 s1) {Φ : List Sec → Prop} (hm : Z5 x0 Φ) : RetP Tryz.prog 70 #[.slice A1 n1 c1] H (fun H' v L => ∃ y, Φ y ∧ ∃ A12, ∃ n12, ∃ c12, ∃ s12, v = .slice A12 n12 c12 ∧ DtL (α := Sec) H' s12 y ∧ n12 = y.length ∧ L = [.row (.slice A12 n12 c12) 108 8 n12 s12]) := by
  refine RetP.mono (okT70 (x0, ()) (fun y => Φ y.1) hm H [.slice A1 n1 c1] trivial ⟨_, [.slice A1 n1 c1], _, rfl, by rw [pk92], (show Dt.rd (α := List Sec) H _ _ from ⟨A1, n1, c1, s1, rfl, hF1⟩), rfl⟩) fun H' v L _ ⟨y, hy, hr⟩ => ?_; obtain ⟨ρ, _, _, _, _, h1, h2⟩ := hr 0 (fun _ => none) (fun _ _ => rfl) _ _ _ (show resE Tryz.prog tab _ _ y 0 = some (.own 0, [(0, .row 108 y.1)], 1) by kernel_rfl); obtain ⟨A, n, c, e1, rfl⟩ := h1; obtain ⟨S, L', rfl, ⟨A', n', c', s, e2, rfl, e3, e4⟩, e5⟩ := h2; obtain rfl : L' = [] := e5; rw [e1] at e2; cases e2; exact ⟨y.1, hy, A, n, c, s, rfl, e3, e4, rfl⟩
theorem q258 {H : Hp} (x0 : List (List Sec)) {A1 : Option Addr} {n1 c1 : Nat} {s1 : List Value} (hF1 : Fz (α := List Sec) H A1 n1 c1 x0 s1) {Φ : List (List Sec) → Prop} (hm : Z7 x0 Φ) : RetP Tryz.prog 81 #[.slice A1 n1 c1, .func (.func 70) #[] #[]] H (fun H' v L => ∃ y, Φ y ∧ ∃ A45, ∃ n45, ∃ c45, ∃ s45, ∃ rs46, v = .slice A45 n45 c45 ∧ DeepL (α := List Sec) [108] H' s45 y rs46 ∧ n45 = y.length ∧ L = .row (.slice A45 n45 c45) 92 1 n45 s45 :: rs46) := by
 refine RetP.of_code Tryz.func81 rfl (nb rfl) fun w0 hM => ?_
 refine CW.sr <| RW.st (Ex.assign (.slice none 0 0) rfl) rfl <| RW.nil <| CW.sr <| RW.st (Ex.move (.slice A1 n1 c1) rfl) rfl <| RW.st (Ex.lenN st22.1 rfl hF1.hn) rfl ?_
 obtain ⟨hg8, hm⟩ := hm
 obtain ⟨hg9, hm⟩ := hm
 refine RW.makeE (α := List Sec) hM st22 tz92 rfl rfl hg8 hg9 rfl rfl ?_; intro b2 n3 c4 s5 w hd6 hn7 hM
 refine RW.st (Ex.assign (.slice (some ⟨b2, 0, none⟩) n3 c4) rfl) rfl <| RW.nil <| CW.seq <| CW.sr <| RW.st (Ex.move (.slice A1 n1 c1) rfl) rfl <| RW.st (Ex.lenN st22.1 rfl hF1.hn) rfl <| RW.st (Ex.move (.int .i64 0) rfl) rfl <| RW.nil <| CW.block ?_
 obtain ⟨m44, hm⟩ := hm
 skip
 refine CW.loop (β := Nat) (fun n σ w => ∃ (v12 : List (List Sec)), ∃ (A13 : Option Addr), ∃ (n14 : Nat), ∃ (c15 : Nat), ∃ (s16 : List Value), ∃ (rs17 : List Ent), ∃ (v20 : Int), ∃ Hk10, H.le Hk10 ∧ (∃ τ, σ = sl [(1, .func (.func 70) #[] #[]), (5, .slice A13 n14 c15), (11, .slice A1 n1 c1), (12, .int .i64 ((x0.length : Int))), (13, .int .i64 v20)] τ) ∧ Mem w0 H w Hk10 (.row (.slice A13 n14 c15) 92 1 n14 s16 :: rs17) ∧ (DeepL (α := List Sec) [108] Hk10 s16 v12 rs17) ∧ (n14 = v12.length) ∧ LoopN (Z6 x0 Φ) n (v12, v20)) (fun n => n) m44 ⟨([] : List (List Sec)), (some ⟨b2, 0, none⟩), n3, c4, s5, [], 0, H, (Hp.le.refl _), q51 ⟨rfl, rfl, rfl, rfl, rfl, trivial⟩, hM, (DeepL.ofNil (Ts := [108]) hd6), hn7, hm⟩ ?_
 rintro k21 _ w ⟨v12, A13, n14, c15, s16, rs17, v20, Hk10, hle11, ⟨τ, rfl⟩, hM, hd18, hn19, hm⟩
 obtain _ | k21 := k21
 · exact hm.elim
 replace hm : (Z6 x0 Φ) (v12, v20) (LoopN (Z6 x0 Φ) k21) := hm
 generalize hrec22 : LoopN (Z6 x0 Φ) k21 = rec1 at hm
 refine CW.sr <| RW.st (Ex.lss rfl rfl) rfl <| RW.nil <| CW.seq ?_
 refine CW.cond_dec (p := v20 < (x0.length : Int)) rfl (fun hc23 => ?_) (fun hc23 => ?_)
 ·
  replace hm := And.left hm hc23
  refine CW.skip <| CW.seq <| CW.block <| CW.sr ?_
  obtain ⟨hg24, hm⟩ := hm; refine RW.st (Ex.index st22 rfl rfl v20.toNat (hF1.ne hg24) hg24.nat (hF1.lt hg24)) rfl ?_; obtain ⟨_, ⟨A25, n25, c25, s25, rfl, hF25⟩, hx26⟩ := DtL.getI (α := List Sec) (hF1.mono hle11).dat hg24; refine RW.st (Ex.loadE hM hle11 hF1.rdc to92 rfl (hx26 0 _ rfl)) rfl <| RW.st (Ex.assign (.slice A25 n25 c25) rfl) rfl <| RW.nil <| CW.region <| RW.st (Ex.move (.slice A13 n14 c15) rfl) rfl <| RW.st (Ex.move (.func (.func 70) #[] #[]) rfl) rfl <| RW.st (Ex.move (.slice A25 n25 c25) rfl) rfl ?_
  refine RW.callP hM (q60 (ix x0 v20) hF25 hm) en70 rfl rfl rfl rfl ?_; rintro _ w H28 _ hle29 ⟨v27, hm, A30, n30, c30, s30, rfl, hd31, hn32, rfl⟩ hM; refine RW.buildSlice hM st22 tz92 [(0, .slice A30 n30 c30)] [.slice A30 n30 c30] (by decide) rfl rfl rfl (by decide) rfl rfl ?_; intro b33 w hM; obtain ⟨hg39, hm⟩ := hm; refine RW.appendH (α := List Sec) (xs := v12) (x0 := v27) hM 2 st22 rfl rfl hn19 rfl (fun j u hj => hM.rowCell (k := 0) rfl rfl hj) rfl (q112 ⟨rfl, trivial⟩) hg39 rfl rfl ?_; intro A35 n36 c37 w hn38 hM; obtain ⟨s40, rs41, hd42, hM⟩ := Mem.adopt (α := List Sec) (Ts := [108]) (x := v27) [.row (.slice (some ⟨b33, 0, none⟩) 1 1) 92 1 1 [.slice A30 n30 c30], .row (.slice A35 n36 c37) 92 1 n36 (s16 ++ [.slice A30 n30 c30])] (Mem.pickT (L1 := [.row (.slice (some ⟨b33, 0, none⟩) 1 1) 92 1 1 [.slice A30 n30 c30], .row (.slice A30 n30 c30) 108 8 n30 s30, .row (.slice A35 n36 c37) 92 1 n36 (s16 ++ [.slice A30 n30 c30])]) (T := rs17) hM [1, 0, 2] rfl rfl) 1 rfl (hd18.mono hle29) ⟨A30, n30, c30, s30, rfl, rfl, hd31, hn32⟩
  replace hM : Mem w0 H w H28 (.row (.slice A35 n36 c37) 92 1 n36 s40 :: rs41) := Mem.pickT (L1 := [.row (.slice (some ⟨b33, 0, none⟩) 1 1) 92 1 1 [.slice A30 n30 c30], .row (.slice A35 n36 c37) 92 1 n36 s40]) (T := rs41) hM [1] rfl rfl
  refine RW.st (Ex.assign (.slice A35 n36 c37) rfl) rfl <| RW.nil <| CW.region ?_
  obtain ⟨hg43, hm⟩ := hm; refine RW.st (Ex.add rfl rfl hg43.1 hg43.2) rfl <| RW.st (Ex.move (.int .i64 (v20 + 1)) rfl) rfl <| RW.nil ?_
  exact And.intro rfl ⟨k21, ⟨(v12 ++ [v27]), A35, n36, c37, s40, rs41, v20 + 1, H28, hle11.trans hle29, q51 ⟨rfl, rfl, rfl, rfl, rfl, trivial⟩, hM, hd42, hn38, (by rw [hrec22]; exact hm)⟩, Nat.lt_succ_self _⟩
 ·
  replace hm := And.right hm hc23
  refine CW.exit ?_; refine CW.sr <| RW.st (Ex.move (.slice A13 n14 c15) rfl) rfl <| RW.st (Ex.assign (.slice A13 n14 c15) rfl) rfl <| RW.nil <| CW.ret ?_
  refine q497 (.inl rfl) rfl (.slice A13 n14 c15) rfl ?_; exact ⟨_, _, hM, v12, hm, A13, n14, c15, s16, rs17, rfl, hd18, hn19, rfl⟩
theorem q259 {H : Hp} (x0 : List (List Sec)) {A1 : Option Addr} {n1 c1 : Nat} {s1 : List Value} (hF1 : Fz (α := List Sec) H A1 n1 c1 x0 s1) {Φ : List (List Sec) → Prop} (hm : Z8 x0 Φ) : RetP Tryz.prog 53 #[.slice A1 n1 c1] H (fun H' v L => ∃ y, Φ y ∧ ∃ A9, ∃ n9, ∃ c9, ∃ s9, ∃ rs10, v = .slice A9 n9 c9 ∧ DeepL (α := List Sec) [108] H' s9 y rs10 ∧ n9 = y.length ∧ L = .row (.slice A9 n9 c9) 92 1 n9 s9 :: rs10) := by
 refine RetP.of_code Tryz.func53 rfl (nb rfl) fun w0 hM => ?_
 refine CW.sr <| RW.st (Ex.assign (.slice none 0 0) rfl) rfl <| RW.nil <| CW.sr <| RW.st (Ex.move (.slice A1 n1 c1) rfl) rfl ?_
 refine RW.callP hM (q258 x0 hF1 hm) en81 rfl rfl rfl rfl ?_; rintro _ w H3 _ hle4 ⟨v2, hm, A5, n5, c5, s5, rs6, rfl, hd7, hn8, rfl⟩ hM
 replace hM := Mem.toTail (a := [.row (.slice A5 n5 c5) 92 1 n5 s5]) (b := rs6) (c := []) hM
 refine RW.st (Ex.assign (.slice A5 n5 c5) rfl) rfl <| RW.nil <| CW.ret ?_
 refine q497 (.inl rfl) rfl (.slice A5 n5 c5) rfl ?_
 exact ⟨_, _, hM, v2, hm, A5, n5, c5, s5, rs6, rfl, hd7, hn8, rfl⟩
theorem pk115 (v : Value) (cs : List Value) : PkR Tryz.prog 115 v cs = (v = .agg cs.toArray) := by kernel_rfl
theorem q356 {H : Hp} (x0 : List (List Sec)) (x1 : q10) {A1 : Option Addr} {n1 c1 : Nat} {s1 : List Value} (hF1 : Fz (α := List Sec) H A1 n1 c1 x0 s1) {A2 : Option Addr} {n2 c2 : Nat} {s2 : List Value} (hF2 : Fz (α := Sec) H A2 n2 c2 x1.Data s2) {Φ : Int → Prop} (hm : q81 x0 x1 Φ) : RetP Tryz.prog 54 #[.slice A1 n1 c1, .agg #[.int .i64 (x1.Volume), .int .i64 (x1.Start), .slice A2 n2 c2]] H (fun _ v L => ∃ y, Φ y ∧ v = .int .i64 (y) ∧ L = []) := by
  refine RetP.mono (okT54 (x0, x1, ()) (fun y => Φ y.1) hm H [.slice A1 n1 c1, .agg #[.int .i64 (x1.Volume), .int .i64 (x1.Start), .slice A2 n2 c2]] trivial ⟨_, [.slice A1 n1 c1], _, rfl, by rw [pk23], (show Dt.rd (α := List (List Sec)) H _ _ from ⟨A1, n1, c1, s1, rfl, hF1⟩), ⟨_, [.int .i64 (x1.Volume), .int .i64 (x1.Start), .slice A2 n2 c2], _, rfl, by rw [pk115], (show Dt.rd (α := q10) H _ _ from ⟨A2, n2, c2, s2, rfl, hF2⟩), rfl⟩⟩) fun H' v L _ ⟨y, hy, hr⟩ => ?_; obtain ⟨ρ, _, _, _, _, h1, h2⟩ := hr 0 (fun _ => none) (fun _ _ => rfl) _ _ _ (show resE Tryz.prog tab _ _ y 0 = some (.i .i64 y.1, [], 0) by kernel_rfl); exact ⟨y.1, hy, h1, h2⟩
theorem q310 {H : Hp} (x0 : List (List Sec)) (x1 : List q10) {A1 : Option Addr} {n1 c1 : Nat} {s1 : List Value} (hF1 : Fz (α := List Sec) H A1 n1 c1 x0 s1) {A2 : Option Addr} {n2 c2 : Nat} {s2 : List Value} (hF2 : Fz (α := q10) H A2 n2 c2 x1 s2) {Φ : List (List Sec) × Int × Int → Prop} (hm : q39 x0 x1 Φ) : RetP Tryz.prog 17 #[.slice A1 n1 c1, .slice A2 n2 c2] H (fun H' v L => ∃ y, Φ y ∧ ∃ A89, ∃ n89, ∃ c89, ∃ s89, ∃ rs90, v = .tuple #[.slice A89 n89 c89, .int .i64 (y.2.1), .int .i64 (y.2.2)] ∧ DeepL (α := List Sec) [108] H' s89 y.1 rs90 ∧ n89 = y.1.length ∧ L = .row (.slice A89 n89 c89) 92 1 n89 s89 :: rs90) := by
 refine RetP.of_code Tryz.func17 rfl (nb rfl) fun w0 hM => ?_
 refine CW.sr <| RW.st (Ex.assign (.slice none 0 0) rfl) rfl <| RW.st (Ex.assign (.int .i64 0) rfl) rfl <| RW.st (Ex.assign (.int .i64 0) rfl) rfl <| RW.nil <| CW.seq <| CW.sr <| RW.st (Ex.move (.slice A1 n1 c1) rfl) rfl ?_
 refine RW.callP hM (q309 x0 hF1 hm) en40 rfl rfl rfl rfl ?_; rintro _ w H4 _ hle5 ⟨v3, hm, rfl, rfl⟩ hM
 refine RW.st (Ex.assign (.int .i64 v3) rfl) rfl <| RW.nil <| CW.sr <| RW.st (Ex.move (.int .i64 v3) rfl) rfl <| RW.st (Ex.neq rfl rfl) rfl <| RW.nil ?_
 refine CW.cond_dec (p := v3 ≠ 0) rfl (fun hc6 => ?_) (fun hc6 => ?_)
 ·
  replace hm := And.left hm hc6
  refine CW.sr <| RW.st (Ex.move (.int .i64 v3) rfl) rfl <| RW.st (Ex.assign (.slice none 0 0) rfl) rfl <| RW.st (Ex.assign (.int .i64 0) rfl) rfl <| RW.st (Ex.assign (.int .i64 v3) rfl) rfl <| RW.nil <| CW.ret ?_
  refine q182 ?_; refine q412 (.inl rfl) rfl (.slice none 0 0) (.int .i64 0) (.int .i64 v3) rfl rfl rfl ?_
  replace hM := hM.nilRow 92 1
  exact ⟨_, _, hM, (([] : List (List Sec)), 0, v3), hm, none, 0, 0, [], [], rfl, (DeepL.nil : DeepL (α := List Sec) [108] H4 [] [] []), rfl, rfl⟩
 ·
  replace hm := And.right hm hc6
  refine CW.skip <| CW.sr <| RW.st (Ex.move (.slice A1 n1 c1) rfl) rfl ?_
  refine RW.callP hM (q259 x0 (hF1.mono hle5) hm) en53 rfl rfl rfl rfl ?_; rintro _ w H8 _ hle9 ⟨v7, hm, A10, n10, c10, s10, rs11, rfl, hd12, hn13, rfl⟩ hM
  replace hM := Mem.toTail (a := [.row (.slice A10 n10 c10) 92 1 n10 s10]) (b := rs11) (c := []) hM
  refine RW.st (Ex.assign (.slice A10 n10 c10) rfl) rfl <| RW.nil <| CW.seq <| CW.sr <| RW.st (Ex.move (.slice A2 n2 c2) rfl) rfl <| RW.st (Ex.lenN st24.1 rfl hF2.hn) rfl <| RW.st (Ex.move (.int .i64 0) rfl) rfl <| RW.nil <| CW.block ?_
  obtain ⟨m88, hm⟩ := hm
  skip
  refine CW.loop (β := Nat) (fun n σ w => ∃ (v16 : List (List Sec)), ∃ (A17 : Option Addr), ∃ (n18 : Nat), ∃ (c19 : Nat), ∃ (s20 : List Value), ∃ (rs21 : List Ent), ∃ (v24 : Int), ∃ Hk14, H8.le Hk14 ∧ (∃ τ, σ = sl [(8, .slice A17 n18 c19), (19, .slice A2 n2 c2), (20, .int .i64 ((x1.length : Int))), (21, .int .i64 v24)] τ) ∧ Mem w0 H w Hk14 (.row (.slice A17 n18 c19) 92 1 n18 s20 :: rs21) ∧ (DeepL (α := List Sec) [108] Hk14 s20 v16 rs21) ∧ (n18 = v16.length) ∧ LoopN (Z9 x1 Φ) n (v16, v24)) (fun n => n) m88 ⟨v7, A10, n10, c10, s10, rs11, 0, H8, (Hp.le.refl _), q51 ⟨rfl, rfl, rfl, rfl, trivial⟩, hM, hd12, hn13, hm⟩ ?_
  rintro k25 _ w ⟨v16, A17, n18, c19, s20, rs21, v24, Hk14, hle15, ⟨τ, rfl⟩, hM, hd22, hn23, hm⟩
  obtain _ | k25 := k25
  · exact hm.elim
  replace hm : (Z9 x1 Φ) (v16, v24) (LoopN (Z9 x1 Φ) k25) := hm
  generalize hrec26 : LoopN (Z9 x1 Φ) k25 = rec1 at hm; refine CW.sr <| RW.st (Ex.lss rfl rfl) rfl <| RW.nil <| CW.seq ?_
  refine CW.cond_dec (p := v24 < (x1.length : Int)) rfl (fun hc27 => ?_) (fun hc27 => ?_)
  ·
   replace hm := And.left hm hc27
   refine CW.skip <| CW.seq <| CW.block <| CW.sr <| RW.st (Ex.move (.int .i64 v24) rfl) rfl ?_
   obtain ⟨hg28, hm⟩ := hm; refine RW.st (Ex.index st24 rfl rfl v24.toNat (hF2.ne hg28) hg28.nat (hF2.lt hg28)) rfl ?_; obtain ⟨_, ⟨A29, n29, c29, s29, rfl, hF29⟩, hx30⟩ := DtL.getI (α := q10) (hF2.mono ((hle5.trans hle9).trans hle15)).dat hg28; refine RW.st (Ex.loadEA hM ((hle5.trans hle9).trans hle15) hF2.rdc [.int .i64 ((ix x1 v24).Volume), .int .i64 ((ix x1 v24).Start), .slice A29 n29 c29] ta115 rfl (hF2.ne hg28) rfl (q84 (off := 0) (n := 3) hx30 rfl)) rfl ?_; refine RW.alloc hM tz115 [.int .i64 0, .int .i64 0, .slice none 0 0] rfl rfl rfl ?_; intro b31 w hM; refine RW.st (Ex.assign (.int .i64 v24) rfl) rfl ?_; refine RW.store hM 0 (.agg #[.int .i64 ((ix x1 v24).Volume), .int .i64 ((ix x1 v24).Start), .slice A29 n29 c29]) [.int .i64 ((ix x1 v24).Volume), .int .i64 ((ix x1 v24).Start), .slice A29 n29 c29] [.int .i64 ((ix x1 v24).Volume), .int .i64 ((ix x1 v24).Start), .slice A29 n29 c29] sz115 rfl rfl rfl (q112 ⟨rfl, rfl, rfl, trivial⟩) rfl (nb rfl) rfl (.box b31 115 [.int .i64 ((ix x1 v24).Volume), .int .i64 ((ix x1 v24).Start), .slice A29 n29 c29] :: .row (.slice A17 n18 c19) 92 1 n18 s20 :: rs21) rfl rfl rfl ?_; intro w hM; refine RW.nil <| CW.seq <| CW.sr <| RW.st (Ex.move (.slice A17 n18 c19) rfl) rfl <| RW.st (Ex.loadA hM 0 [.int .i64 ((ix x1 v24).Volume), .int .i64 ((ix x1 v24).Start), .slice A29 n29 c29] ta115 rfl rfl rfl rfl) rfl ?_
   have hM1 := hM; obtain ⟨H32, hM, hle33, hd34⟩ := DeepL.flat (es := [.box b31 115 [.int .i64 ((ix x1 v24).Volume), .int .i64 ((ix x1 v24).Start), .slice A29 n29 c29], .row (.slice A17 n18 c19) 92 1 n18 s20]) hM hd22; obtain ⟨H35, hM, hle36, hF37⟩ := hM.giveF (α := List Sec) 1 rfl hd34 hn23; refine RW.callB hM1 hM (q356 v16 (ix x1 v24) hF37 (hF29.mono (hle33.trans hle36)) hm) en54 rfl rfl rfl rfl ?_; clear hM hM1; intro v38 w hm hM; refine RW.st (Ex.assign (.int .i64 v38) rfl) rfl <| RW.nil <| CW.sr <| RW.st (Ex.move (.int .i64 v38) rfl) rfl <| RW.st (Ex.neq rfl rfl) rfl <| RW.nil ?_
   refine CW.cond_dec (p := v38 ≠ 0) rfl (fun hc41 => ?_) (fun hc41 => ?_)
   ·
    replace hm := And.left hm hc41
    refine CW.sr <| RW.st (Ex.move (.int .i64 v24) rfl) rfl <| RW.st (Ex.move (.int .i64 v38) rfl) rfl <| RW.st (Ex.assign (.slice none 0 0) rfl) rfl <| RW.st (Ex.assign (.int .i64 v24) rfl) rfl <| RW.st (Ex.assign (.int .i64 v38) rfl) rfl <| RW.nil <| CW.ret ?_
    refine q182 (q382 (q182 (q182 (q382 (q182 ?_))))); refine q412 (.inl rfl) rfl (.slice none 0 0) (.int .i64 v24) (.int .i64 v38) rfl rfl rfl ?_
    replace hM := hM.nilRow 92 1
    exact ⟨_, _, ((Mem.dropT (L1 := [.row (.slice none 0 0) 92 1 0 [], .box b31 115 [.int .i64 ((ix x1 v24).Volume), .int .i64 ((ix x1 v24).Start), .slice A29 n29 c29], .row (.slice A17 n18 c19) 92 1 n18 s20]) (T := rs21) hM).pick [0] rfl rfl), (([] : List (List Sec)), v24, v38), hm, none, 0, 0, [], [], rfl, (DeepL.nil : DeepL (α := List Sec) [108] Hk14 [] [] []), rfl, rfl⟩
   ·
    replace hm := And.right hm hc41
    refine CW.skip ?_; obtain ⟨hg42, hm⟩ := hm; obtain ⟨c44, _, c45, _, rs46, rfl, ⟨A43, n43, c43, s43, rfl, rfl, hF43, hn48⟩, hh47, hM⟩ := Mem.focus [.box b31 115 [.int .i64 ((ix x1 v24).Volume), .int .i64 ((ix x1 v24).Start), .slice A29 n29 c29], .row (.slice A17 n18 c19) 92 1 n18 s20] hM hd22 hg42; have hx49 := Hole.get (ch := [.slice A43 n43 c43]) hh47; obtain ⟨hg55, hm⟩ := hm
    refine CW.drawL 10 [] [(fun Hq us E => us = [.slice A17 n18 c19] ∧ E = [] ∧ True), (fun Hq us E => us = [.pointer (some ⟨b31, 0, none⟩)] ∧ E = [] ∧ True), (fun Hq us E => us = [.int .i64 ((ix x1 v24).Volume)] ∧ E = [] ∧ True), (fun Hq us E => us = [elp A17 ((((ix x1 v24).Volume).toNat) * 1 + 0)] ∧ E = [] ∧ True), (fun Hq us E => us = [.slice A43 n43 c43] ∧ E = [] ∧ True), (fun Hq us E => us = [.pointer (some ⟨b31, 1, none⟩)] ∧ E = [] ∧ True), (fun Hq us E => us = [.int .i64 ((ix x1 v24).Start)] ∧ E = [] ∧ True), (fun Hq us E => ∃ (A56 : Option Addr), ∃ (n57 : Nat), ∃ (c58 : Nat), us = [.slice A56 n57 c58] ∧ E = [] ∧ View A43 n43 c43 8 ((ix x1 v24).Start) A56 n57 c58 ∧ True), (fun Hq us E => us = [.pointer (some ⟨b31, 2, none⟩)] ∧ E = [] ∧ True), (fun Hq us E => us = [.slice A29 n29 c29] ∧ E = [] ∧ True)]
     (fun k => [[0], [1], [2], [3], [4], [5], [6], [7], [8], [9]].getD k []) (fun _ => none) (by kernel_rfl) hM (by kernel_rfl) (by kernel_rfl) (by kernel_rfl) rfl (by simp only [List.forall_mem_cons]; exact ⟨fun _ _ _ _ hle ⟨e1, e2, _⟩ => ⟨e1, e2, trivial⟩, fun _ _ _ _ hle ⟨e1, e2, _⟩ => ⟨e1, e2, trivial⟩, fun _ _ _ _ hle ⟨e1, e2, _⟩ => ⟨e1, e2, trivial⟩, fun _ _ _ _ hle ⟨e1, e2, _⟩ => ⟨e1, e2, trivial⟩, fun _ _ _ _ hle ⟨e1, e2, _⟩ => ⟨e1, e2, trivial⟩, fun _ _ _ _ hle ⟨e1, e2, _⟩ => ⟨e1, e2, trivial⟩, fun _ _ _ _ hle ⟨e1, e2, _⟩ => ⟨e1, e2, trivial⟩, fun _ _ _ _ hle ⟨A56, n57, c58, e1, e2, hV59, _⟩ => ⟨A56, n57, c58, e1, e2, hV59, trivial⟩, fun _ _ _ _ hle ⟨e1, e2, _⟩ => ⟨e1, e2, trivial⟩, fun _ _ _ _ hle ⟨e1, e2, _⟩ => ⟨e1, e2, trivial⟩, by simp⟩) ⟨?_, ?_, ?_, ?_, ?_, ?_, ?_, ?_, ?_, ?_, trivial⟩ ?_
    ·
     intro H' σ' w R E hle hMR hE0 hE hp hf; obtain rfl := hE0 rfl; obtain ⟨τ, rfl⟩ := q51 (σ := σ') (l := [(8, .slice A17 n18 c19)]) ⟨(hf 8 (by kernel_rfl)).trans rfl, trivial⟩; have hM := Mem.subR (R := R) hMR; exact RW.step (Ex.move (.slice A17 n18 c19) rfl) rfl rfl rfl (RW.nil ⟨rfl, rfl, _, rfl, H', [], Hp.le.refl _, hMR, rfl, rfl, trivial⟩)
    ·
     intro H' σ' w R E hle hMR hE0 hE hp hf; obtain rfl := hE0 rfl; obtain ⟨τ, rfl⟩ := q51 (σ := σ') (l := [(10, .pointer (some ⟨b31, 0, none⟩))]) ⟨(hf 10 (by kernel_rfl)).trans rfl, trivial⟩; have hM := Mem.subR (R := R) hMR; exact RW.step (Ex.fieldAddr fa115_0 rfl) rfl rfl rfl (RW.nil ⟨rfl, rfl, _, rfl, H', [], Hp.le.refl _, hMR, rfl, rfl, trivial⟩)
    ·
     intro H' σ' w R E hle hMR hE0 hE hp hf; obtain rfl := hE0 rfl; obtain ⟨_, hg⟩ := hp 1 (by decide) (by kernel_rfl); obtain ⟨e60, _, _⟩ := hg.get rfl; have e61 : σ' 34 = .pointer (some ⟨b31, 0, none⟩) := (List.cons.inj e60).1; obtain ⟨τ, rfl⟩ := q51 (σ := σ') (l := [(34, .pointer (some ⟨b31, 0, none⟩))]) ⟨e61, trivial⟩; have hM := Mem.subR (R := R) hMR; exact RW.step (Ex.load1 hM 1 to3 rfl rfl rfl) rfl rfl rfl (RW.nil ⟨rfl, rfl, _, rfl, H', [], Hp.le.refl _, hMR, rfl, rfl, trivial⟩)
    ·
     intro H' σ' w R E hle hMR hE0 hE hp hf; obtain rfl := hE0 rfl; obtain ⟨_, hg⟩ := hp 0 (by decide) (by kernel_rfl); obtain ⟨e62, _, _⟩ := hg.get rfl; have e63 : σ' 33 = .slice A17 n18 c19 := (List.cons.inj e62).1; obtain ⟨_, hg⟩ := hp 2 (by decide) (by kernel_rfl); obtain ⟨e64, _, _⟩ := hg.get rfl; have e65 : σ' 35 = .int .i64 ((ix x1 v24).Volume) := (List.cons.inj e64).1; obtain ⟨τ, rfl⟩ := q51 (σ := σ') (l := [(33, .slice A17 n18 c19), (35, .int .i64 ((ix x1 v24).Volume))]) ⟨e63, e65, trivial⟩; have hM := Mem.subR (R := R) hMR; exact RW.step (Ex.index st23 rfl rfl (((ix x1 v24).Volume).toNat) (hM.rowNeD (α := List Sec) (p := 2) rfl hn23 hg42) hg42.nat (Nat.lt_of_lt_of_eq hg42.lt (hn23).symm)) rfl rfl rfl (RW.nil ⟨rfl, rfl, _, rfl, H', [], Hp.le.refl _, hMR, rfl, rfl, trivial⟩)
    ·
     intro H' σ' w R E hle hMR hE0 hE hp hf; obtain rfl := hE0 rfl; obtain ⟨_, hg⟩ := hp 3 (by decide) (by kernel_rfl); obtain ⟨e66, _, _⟩ := hg.get rfl; have e67 : σ' 36 = elp A17 ((((ix x1 v24).Volume).toNat) * 1 + 0) := (List.cons.inj e66).1; obtain ⟨τ, rfl⟩ := q51 (σ := σ') (l := [(36, elp A17 ((((ix x1 v24).Volume).toNat) * 1 + 0))]) ⟨e67, trivial⟩; have hM := Mem.subR (R := R) hMR; exact RW.step (Ex.loadR hM 2 rfl to92 (hM.rowNeD (α := List Sec) (p := 2) rfl hn23 hg42) rfl (hx49 0 _ rfl)) rfl rfl rfl (RW.nil ⟨rfl, rfl, _, rfl, H', [], Hp.le.refl _, hMR, rfl, rfl, trivial⟩)
    ·
     intro H' σ' w R E hle hMR hE0 hE hp hf; obtain rfl := hE0 rfl; obtain ⟨τ, rfl⟩ := q51 (σ := σ') (l := [(10, .pointer (some ⟨b31, 0, none⟩))]) ⟨(hf 10 (by kernel_rfl)).trans rfl, trivial⟩; have hM := Mem.subR (R := R) hMR; exact RW.step (Ex.fieldAddr fa115_1 rfl) rfl rfl rfl (RW.nil ⟨rfl, rfl, _, rfl, H', [], Hp.le.refl _, hMR, rfl, rfl, trivial⟩)
    ·
     intro H' σ' w R E hle hMR hE0 hE hp hf; obtain rfl := hE0 rfl; obtain ⟨_, hg⟩ := hp 5 (by decide) (by kernel_rfl); obtain ⟨e68, _, _⟩ := hg.get rfl; have e69 : σ' 38 = .pointer (some ⟨b31, 1, none⟩) := (List.cons.inj e68).1; obtain ⟨τ, rfl⟩ := q51 (σ := σ') (l := [(38, .pointer (some ⟨b31, 1, none⟩))]) ⟨e69, trivial⟩; have hM := Mem.subR (R := R) hMR; exact RW.step (Ex.load1 hM 1 to3 rfl rfl rfl) rfl rfl rfl (RW.nil ⟨rfl, rfl, _, rfl, H', [], Hp.le.refl _, hMR, rfl, rfl, trivial⟩)
    ·
     intro H' σ' w R E hle hMR hE0 hE hp hf; obtain rfl := hE0 rfl; obtain ⟨_, hg⟩ := hp 4 (by decide) (by kernel_rfl); obtain ⟨e70, _, _⟩ := hg.get rfl; have e71 : σ' 37 = .slice A43 n43 c43 := (List.cons.inj e70).1; obtain ⟨_, hg⟩ := hp 6 (by decide) (by kernel_rfl); obtain ⟨e72, _, _⟩ := hg.get rfl; have e73 : σ' 39 = .int .i64 ((ix x1 v24).Start) := (List.cons.inj e72).1; obtain ⟨τ, rfl⟩ := q51 (σ := σ') (l := [(37, .slice A43 n43 c43), (39, .int .i64 ((ix x1 v24).Start))]) ⟨e71, e73, trivial⟩; have hM := Mem.subR (R := R) hMR; refine RW.sliceLo st92 rfl rfl hn48 hg55 rfl rfl ?_; intro A56 n57 c58 hV59; exact RW.nil ⟨rfl, rfl, _, rfl, H', [], Hp.le.refl _, hMR, A56, n57, c58, rfl, rfl, hV59, trivial⟩
    ·
     intro H' σ' w R E hle hMR hE0 hE hp hf; obtain rfl := hE0 rfl; obtain ⟨τ, rfl⟩ := q51 (σ := σ') (l := [(10, .pointer (some ⟨b31, 0, none⟩))]) ⟨(hf 10 (by kernel_rfl)).trans rfl, trivial⟩; have hM := Mem.subR (R := R) hMR; exact RW.step (Ex.fieldAddr fa115_2 rfl) rfl rfl rfl (RW.nil ⟨rfl, rfl, _, rfl, H', [], Hp.le.refl _, hMR, rfl, rfl, trivial⟩)
    ·
     intro H' σ' w R E hle hMR hE0 hE hp hf; obtain rfl := hE0 rfl; obtain ⟨_, hg⟩ := hp 8 (by decide) (by kernel_rfl); obtain ⟨e74, _, _⟩ := hg.get rfl; have e75 : σ' 41 = .pointer (some ⟨b31, 2, none⟩) := (List.cons.inj e74).1; obtain ⟨τ, rfl⟩ := q51 (σ := σ') (l := [(41, .pointer (some ⟨b31, 2, none⟩))]) ⟨e75, trivial⟩; have hM := Mem.subR (R := R) hMR; exact RW.step (Ex.load1 hM 1 to92 rfl rfl rfl) rfl rfl rfl (RW.nil ⟨rfl, rfl, _, rfl, H', [], Hp.le.refl _, hMR, rfl, rfl, trivial⟩)
    ·
     intro HR8 σ' w X miss hms hleR hM hX hX0 hf; simp [subs] at hms; rcases hms with rfl
     ·
      obtain ⟨H76, hH8⟩ : ∃ x, x = HR8 := ⟨_, rfl⟩
      subst hH8; have hle77 := hleR; obtain ⟨_, g0, y0⟩ := hX 0 (by decide) (by kernel_rfl); obtain ⟨_, rfl, _⟩ := g0.get rfl
      replace y0 : X 0 = [] := y0
      obtain ⟨_, g0, y1⟩ := hX 1 (by decide) (by kernel_rfl); obtain ⟨_, rfl, _⟩ := g0.get rfl
      replace y1 : X 1 = [] := y1
      obtain ⟨_, g0, y2⟩ := hX 2 (by decide) (by kernel_rfl); obtain ⟨_, rfl, _⟩ := g0.get rfl
      replace y2 : X 2 = [] := y2
      obtain ⟨_, g0, y3⟩ := hX 3 (by decide) (by kernel_rfl); obtain ⟨_, rfl, _⟩ := g0.get rfl
      replace y3 : X 3 = [] := y3
      obtain ⟨_, g0, y4⟩ := hX 4 (by decide) (by kernel_rfl); obtain ⟨_, rfl, _⟩ := g0.get rfl
      replace y4 : X 4 = [] := y4
      obtain ⟨_, g0, y5⟩ := hX 5 (by decide) (by kernel_rfl); obtain ⟨_, rfl, _⟩ := g0.get rfl
      replace y5 : X 5 = [] := y5
      obtain ⟨_, g0, y6⟩ := hX 6 (by decide) (by kernel_rfl); obtain ⟨_, rfl, _⟩ := g0.get rfl
      replace y6 : X 6 = [] := y6
      obtain ⟨_, g0, y7⟩ := hX 7 (by decide) (by kernel_rfl); obtain ⟨A56, n57, c58, e78, rfl, hV59, _⟩ := g0.get rfl; have e79 : σ' 40 = .slice A56 n57 c58 := (List.cons.inj e78).1
      replace y7 : X 7 = [] := y7
      obtain ⟨_, g0, y8⟩ := hX 8 (by decide) (by kernel_rfl); obtain ⟨_, rfl, _⟩ := g0.get rfl
      replace y8 : X 8 = [] := y8
      obtain ⟨_, g0, y9⟩ := hX 9 (by decide) (by kernel_rfl); obtain ⟨e80, rfl, _⟩ := g0.get rfl; have e81 : σ' 42 = .slice A29 n29 c29 := (List.cons.inj e80).1
      replace y9 : X 9 = [] := y9
      have hfl : flatX X 10 = [] := by
       show X 0 ++ (X 1 ++ (X 2 ++ (X 3 ++ (X 4 ++ (X 5 ++ (X 6 ++ (X 7 ++ (X 8 ++ (X 9 ++ []))))))))) = _; rw [y0, y1, y2, y3, y4, y5, y6, y7, y8, y9]; rfl
      rw [hfl] at hM; obtain ⟨τ, rfl⟩ := q51 (σ := σ') (l := [(8, .slice A17 n18 c19), (19, .slice A2 n2 c2), (20, .int .i64 ((x1.length : Int))), (21, .int .i64 v24), (40, .slice A56 n57 c58), (42, .slice A29 n29 c29)]) ⟨(hf 8 (by kernel_rfl)).trans rfl, (hf 19 (by kernel_rfl)).trans rfl, (hf 20 (by kernel_rfl)).trans rfl, (hf 21 (by kernel_rfl)).trans rfl, e79, e81, trivial⟩; change RA _ _ _ _ _ _ _ (sl [(8, .slice A17 n18 c19), (19, .slice A2 n2 c2), (20, .int .i64 ((x1.length : Int))), (21, .int .i64 v24), (40, .slice A56 n57 c58), (42, .slice A29 n29 c29)] τ) _ 11 _; refine RA.step [10] (by kernel_rfl) rfl ⟨⟨_, rfl, ?_⟩, trivial⟩; refine RW.copyV (α := Sec) (xs := (ix v16 ((ix x1 v24).Volume))) (ys := (ix x1 v24).Data) hM 0 st92 rfl hV59 rfl (hF43.mono hle77) hn48 hg55 rfl hle77 hF29 rfl rfl ?_; intro s82 w hd83 hM; refine RW.nil ?_; refine And.intro rfl ?_; refine RA.done (by kernel_rfl) ?_; refine CW.region ?_; obtain ⟨hg84, hm⟩ := hm; refine RW.st (Ex.add rfl rfl hg84.1 hg84.2) rfl <| RW.st (Ex.move (.int .i64 (v24 + 1)) rfl) rfl <| RW.nil ?_
      obtain ⟨s85, rs86, hd87, hM⟩ := Mem.unfocus (α := List Sec) (Ts := [108]) (x := (paste (ix v16 ((ix x1 v24).Volume)) ((ix x1 v24).Start) ((ix x1 v24).Data))) [.box b31 115 [.int .i64 ((ix x1 v24).Volume), .int .i64 ((ix x1 v24).Start), .slice A29 n29 c29], .row (.slice A17 n18 c19) 92 1 n18 (c44 ++ ([.slice A43 n43 c43] ++ c45))] hM 1 rfl (hh47.mono hle77) ⟨A43, n43, c43, s82, rfl, rfl, hd83, (hn48).trans (q242 hg55).symm⟩; exact And.intro rfl ⟨k25, ⟨(put v16 ((ix x1 v24).Volume) (paste (ix v16 ((ix x1 v24).Volume)) ((ix x1 v24).Start) ((ix x1 v24).Data))), A17, n18, c19, s85, rs86, v24 + 1, H76, hle15.trans hle77, q51 ⟨rfl, rfl, rfl, rfl, trivial⟩, (Mem.pickT (L1 := [.box b31 115 [.int .i64 ((ix x1 v24).Volume), .int .i64 ((ix x1 v24).Start), .slice A29 n29 c29], .row (.slice A17 n18 c19) 92 1 n18 s85]) (T := rs86) hM [1] rfl rfl), hd87, (hn23).trans (q185 _ _ _).symm, (by rw [hrec26]; exact hm)⟩, Nat.lt_succ_self _⟩
  ·
   replace hm := And.right hm hc27
   refine CW.exit ?_; refine CW.sr <| RW.st (Ex.move (.slice A17 n18 c19) rfl) rfl <| RW.st (Ex.assign (.slice A17 n18 c19) rfl) rfl <| RW.st (Ex.assign (.int .i64 0) rfl) rfl <| RW.st (Ex.assign (.int .i64 0) rfl) rfl <| RW.nil <| CW.ret ?_
   refine q412 (.inl rfl) rfl (.slice A17 n18 c19) (.int .i64 0) (.int .i64 0) rfl rfl rfl ?_; exact ⟨_, _, hM, (v16, 0, 0), hm, A17, n18, c19, s20, rs21, rfl, hd22, hn23, rfl⟩
theorem pk24 (v : Value) (cs : List Value) : PkR Tryz.prog 24 v cs = (cs = [v]) := by kernel_rfl
set_option maxRecDepth 100000 in
theorem ok17 : ct17.Ok Tryz.prog tab gh := by
  intro x Φ hW H vs _ hA; obtain ⟨v0, k0, q0, rfl, p0, r0, v1, k1, q1, rfl, p1, r1, hq⟩ := hA; obtain rfl : q1 = [] := hq; rw [pk23] at p0; subst p0; obtain ⟨A0, n0, c0, s0, e0, hF0⟩ := (show Dt.rd (α := List (List Sec)) H _ _ from r0)
  obtain rfl := (List.cons.inj e0).1; rw [pk24] at p1; subst p1; obtain ⟨A1, n1, c1, s1, e1, hF1⟩ := (show Dt.rd (α := List q10) H _ _ from r1)
  obtain rfl := (List.cons.inj e1).1; have hW : q39 x.1 x.2.1 (fun y => Φ (y.1, y.2.1, y.2.2, ())) := hW; intro w hw; refine (q310 x.1 x.2.1 hF0 hF1 hW w hw).mono fun e w' ⟨v, H', L', h1, hM, y, hy, A, n, c, s, rs, hv, hd, hn, hL⟩ => ?_; subst hL; obtain ⟨H2, g1, g2, g3⟩ := DeepL.flat (es := [_]) hM hd; refine ⟨v, H2, _, h1, g1, _, hy, fun nx ρ0 hn0 s' b m hre => ?_⟩; rw [show resE Tryz.prog tab ct17.rs ct17.own (y.1, y.2.1, y.2.2, ()) nx = some (.tup [.own nx, .i .i64 y.2.1, .i .i64 y.2.2], [(nx, .row 92 y.1)], nx + 1) by kernel_rfl] at hre; cases hre; obtain ⟨f1, f2⟩ := q98 hn0 (.r A n c); exact ⟨ρ0.put nx (.r A n c), f1, Nat.le_succ _, f2, fun id hid => RM.put_ne _ _ (Nat.ne_of_lt hid), ⟨_, hv, _, _, rfl, ⟨A, n, c, RM.put_same _ _ _, rfl⟩, _, _, rfl, rfl, _, _, rfl, rfl, rfl⟩, _, _, rfl, ⟨A, n, c, s, RM.put_same _ _ _, rfl, g3, hn⟩, rfl⟩
theorem ok18 : ct18.Ok Tryz.prog tab gh := okU eq18 ⟨tabOk, trivial, mo, trivial, ghUp, trivial, trivial⟩
theorem ok4 : ct4.Ok Tryz.prog tab gh := okU eq4 ⟨tabOk, ⟨ok16, ok17, ok18, trivial⟩, mo, trivial, ghUp, trivial, trivial⟩
theorem ok19 : ct19.Ok Tryz.prog tab gh := okU eq19 ⟨tabOk, trivial, mo, trivial, ghUp, trivial, trivial⟩
theorem ok101 : ct101.Ok Tryz.prog tab gh := okU eq101 ⟨tabOk, trivial, mo, trivial, ghUp, trivial, trivial⟩
theorem ok71 : ct71.Ok Tryz.prog tab gh := okU eq71 ⟨tabOk, ⟨ok75, ok101, trivial⟩, mo, trivial, ghUp, trivial, trivial⟩
theorem ok84 : ct84.Ok Tryz.prog tab gh := okU eq84 ⟨tabOk, trivial, mo, trivial, ghUp, trivial, trivial⟩
theorem ok82 : ct82.Ok Tryz.prog tab gh := okU eq82 ⟨tabOk, ⟨ok84, trivial⟩, mo, trivial, ghUp, trivial, trivial⟩
theorem ok120 : ct120.Ok Tryz.prog tab gh := okU eq120 ⟨tabOk, trivial, mo, trivial, ghUp, trivial, trivial⟩
theorem ok114 : ct114.Ok Tryz.prog tab gh := okU eq114 ⟨tabOk, ⟨ok120, trivial⟩, mo, trivial, ghUp, trivial, trivial⟩
theorem ok83 : ct83.Ok Tryz.prog tab gh := okU eq83 ⟨tabOk, ⟨ok114, trivial⟩, mo, trivial, ghUp, trivial, trivial⟩
theorem ok36 : ct36.Ok Tryz.prog tab gh := okU eq36 ⟨tabOk, trivial, mo, trivial, ghUp, trivial, trivial⟩
theorem ok55 : ct55.Ok Tryz.prog tab gh := okU eq55 ⟨tabOk, ⟨ok36, ok71, ok82, ok83, ok84, trivial⟩, mo, trivial, ghUp, trivial, ⟨q710, trivial⟩⟩
theorem ok92 : ct92.Ok Tryz.prog tab gh := okU eq92 ⟨tabOk, ⟨ok120, trivial⟩, mo, trivial, ghUp, trivial, trivial⟩
theorem ok133 : ct133.Ok Tryz.prog tab gh := okU eq133 ⟨tabOk, ⟨ok92, trivial⟩, mo, trivial, ghUp, trivial, trivial⟩
theorem ok117 : ct117.Ok Tryz.prog tab gh := okU eq117 ⟨tabOk, ⟨ok133, trivial⟩, mo, trivial, ghUp, trivial, trivial⟩
theorem ok86 : ct86.Ok Tryz.prog tab gh := okU eq86 ⟨tabOk, ⟨ok71, ok82, ok84, ok117, trivial⟩, mo, trivial, ghUp, trivial, trivial⟩
theorem ok87 : ct87.Ok Tryz.prog tab gh := okU eq87 ⟨tabOk, ⟨ok40, ok54, trivial⟩, mo, trivial, ghUp, trivial, trivial⟩
theorem ok152 : ct152.Ok Tryz.prog tab gh := okU eq152 ⟨tabOk, trivial, mo, trivial, ghUp, trivial, trivial⟩
theorem ok134 : ct134.Ok Tryz.prog tab gh := okU eq134 ⟨tabOk, ⟨ok152, trivial⟩, mo, trivial, ghUp, trivial, trivial⟩
theorem ok118 : ct118.Ok Tryz.prog tab gh := okU eq118 ⟨tabOk, ⟨ok134, trivial⟩, mo, trivial, ghUp, trivial, trivial⟩
theorem ok153 : ct153.Ok Tryz.prog tab gh := okU eq153 ⟨tabOk, trivial, mo, trivial, ghUp, trivial, trivial⟩
theorem ok138 : ct138.Ok Tryz.prog tab gh := okU eq138 ⟨tabOk, trivial, mo, trivial, ghUp, trivial, trivial⟩
theorem ok135 : ct135.Ok Tryz.prog tab gh := okU eq135 ⟨tabOk, trivial, mo, trivial, ghUp, trivial, trivial⟩
theorem ok119 : ct119.Ok Tryz.prog tab gh := okU eq119 ⟨tabOk, ⟨ok92, ok135, ok138, ok152, ok153, trivial⟩, mo, trivial, ghUp, trivial, trivial⟩
theorem ok56 : ct56.Ok Tryz.prog tab gh := okU eq56 ⟨tabOk, ⟨ok36, ok71, ok86, ok87, ok118, ok119, trivial⟩, mo, trivial, ghUp, trivial, ⟨q710, trivial⟩⟩
theorem ok20 : ct20.Ok Tryz.prog tab gh := okU eq20 ⟨tabOk, ⟨ok55, ok56, trivial⟩, mo, trivial, ghUp, trivial, trivial⟩
theorem ok57 : ct57.Ok Tryz.prog tab gh := okU eq57 ⟨tabOk, ⟨ok86, ok118, trivial⟩, mo, trivial, ghUp, trivial, trivial⟩
theorem ok21 : ct21.Ok Tryz.prog tab gh := okU eq21 ⟨tabOk, ⟨ok57, trivial⟩, mo, trivial, ghUp, trivial, trivial⟩
theorem ok5 : ct5.Ok Tryz.prog tab gh := okU eq5 ⟨tabOk, ⟨ok17, ok19, ok20, ok21, trivial⟩, mo, trivial, ghUp, trivial, trivial⟩
theorem ok91 : ct91.Ok Tryz.prog tab gh := okU eq91 ⟨tabOk, trivial, mo, trivial, ghUp, trivial, trivial⟩
theorem ok61 : ct61.Ok Tryz.prog tab gh := okU eq61 ⟨tabOk, ⟨ok91, trivial⟩, mo, trivial, ghUp, trivial, trivial⟩
theorem ok58 : ct58.Ok Tryz.prog tab gh := okU eq58 ⟨tabOk, ⟨ok40, ok61, ok91, ok92, trivial⟩, mo, trivial, ghUp, trivial, trivial⟩
theorem ok93 : ct93.Ok Tryz.prog tab gh := okU eq93 ⟨tabOk, trivial, mo, trivial, ghUp, trivial, trivial⟩
theorem ok59 : ct59.Ok Tryz.prog tab gh := okU eq59 ⟨tabOk, ⟨ok93, trivial⟩, mo, trivial, ghUp, trivial, trivial⟩
theorem ok122 : ct122.Ok Tryz.prog tab gh := okU eq122 ⟨tabOk, trivial, mo, trivial, ghUp, trivial, trivial⟩
theorem ok94 : ct94.Ok Tryz.prog tab gh := okU eq94 ⟨tabOk, ⟨ok92, ok122, trivial⟩, mo, trivial, ghUp, trivial, trivial⟩
theorem pk197 (v : Value) (cs : List Value) : PkR Tryz.prog 197 v cs = (cs = [v]) := by kernel_rfl
theorem Ret.toP {P : Program} {f : FuncId} {args : Array Value} {H : Hp} {Φ : Hp → Value → Prop} (h : Ret P f args H Φ) : RetP P f args H (fun H' v L => Φ H' v ∧ L = []) := fun w hw =>
  (h w hw).mono fun _ _ ⟨v, H', h1, h2, h3, h4, h5, h6⟩ => ⟨v, H', [], h1, ⟨h5, h2, h4, h3, by simp, List.Pairwise.nil, by simp⟩, h6, rfl⟩
theorem tz_ret (H : Hp) (x : BitVec 64) (hx : x ≠ 0#64) (hT : TabH H 0) : RetV Tryz.prog 139 #[u64 x] H (.int .i64 (Lib.ctz 64 x.toNat : Int)) := by
  obtain ⟨cs, T, fr, hb, hc⟩ := hT; obtain ⟨hi, htab, hk⟩ := tz_idx hx; refine Ret.of_code Tryz.func139 rfl (Nat.le_of_ble_eq_true rfl) fun w0 hM => ?_; refine CW.seq (CW.region (RW.step (Ex.assign (.int .i64 0) rfl) rfl rfl rfl (RW.nil ?_))); refine CW.seq (CW.seq (CW.region (RW.step (Ex.move (u64 x) rfl) rfl rfl rfl (RW.step (Ex.eql64 (a := x) (b := 0#64) rfl rfl) rfl rfl rfl (RW.nil ?_))))); refine CW.cond_dec rfl (fun h => absurd h hx) fun _ => CW.skip ?_; refine CW.seq (CW.region ?_); refine RW.step (Ex.move (u64 x) rfl) rfl rfl rfl ?_; refine RW.step (Ex.move (u64 x) rfl) rfl rfl rfl ?_; refine RW.step (Ex.neg64 (a := x) rfl) rfl rfl rfl ?_; refine RW.step (Ex.and64 (a := x) (b := -x) rfl rfl) rfl rfl rfl ?_; refine RW.step (Ex.mul64 (a := x &&& -x) (b := 285870213051353865#64) rfl rfl) rfl rfl rfl ?_; refine RW.step (Ex.shr64 (a := (x &&& -x) * 285870213051353865#64) (n := 58) rfl rfl (by omega)) rfl rfl rfl ?_; refine RW.step (Ex.indexArr (arrT_of (n := 64) (e := 5) (sz := 1) (by kernel_rfl)) rfl rfl (((x &&& -x) * 285870213051353865#64) >>> (58 : Int).toNat).toNat rfl hi) rfl rfl rfl ?_; refine RW.step (Ex.loadH hM (Hp.le.refl _) hb to5 rfl (by rw [Nat.zero_add, Nat.mul_one, hc _ hi, htab])) rfl rfl rfl ?_; refine RW.step (Ex.conv Tryz.underlying5 Tryz.underlying3 rfl (q91 (by omega) (by omega))) rfl rfl rfl ?_; refine RW.step (Ex.assign (.int .i64 (Lib.ctz 64 x.toNat : Int)) rfl) rfl rfl rfl (RW.nil ?_); refine CW.ret ?_
  refine q497 (.inl rfl) rfl (.int .i64 (Lib.ctz 64 x.toNat : Int)) rfl ?_; exact ⟨_, _, hM, rfl⟩
set_option maxRecDepth 100000 in
theorem ok139 : ct139.Ok Tryz.prog tab gh := by
  intro x Φ hW H vs hG hA; obtain ⟨v0, k0, q0, rfl, p0, r0, hq⟩ := hA; obtain rfl : q0 = [] := hq; rw [pk197] at p0; subst p0; have e0 : [v0] = [u64 x.1] := r0; cases e0; have hW : x.1 ≠ 0#64 ∧ Φ ((Lib.ctz 64 (x.1 : BitVec 64).toNat : Int), ()) := hW; refine RetP.mono (Ret.toP (tz_ret H x.1 hW.1 hG)) fun H' v L _ ⟨hv, hL⟩ => ⟨_, hW.2, fun nx ρ0 hn0 s b m hre => ?_⟩
  rw [show resE Tryz.prog tab ct139.rs ct139.own ((Lib.ctz 64 (x.1 : BitVec 64).toNat : Int), ()) nx = some (.i .i64 (Lib.ctz 64 (x.1 : BitVec 64).toNat : Int), [], nx) by kernel_rfl] at hre; cases hre; exact ⟨ρ0, RM.le.refl _, Nat.le_refl _, hn0, fun _ _ => rfl, hv, hL⟩
theorem itok137 : it137.Ok Tryz.prog gh := It.lift (E := ⟨Tryz.prog, tab, [ct92, ct138, ct139], pl137, [], gh, [], [], []⟩) ⟨tabOk, ⟨ok92, ok138, ok139, trivial⟩, mo, trivial, ghUp, trivial, trivial⟩ it137 fun x l => by rw [eqi137]; exact id
theorem ok95 : ct95.Ok Tryz.prog tab gh := Ct.lift (E := ⟨Tryz.prog, tab, [], pl95, [it137], gh, [], [], []⟩) ⟨tabOk, trivial, mo, ⟨itok137, trivial⟩, ghUp, trivial, trivial⟩ 9 ct95 fun x Φ => by rw [eq95]; exact id
theorem ok60 : ct60.Ok Tryz.prog tab gh := okU eq60 ⟨tabOk, ⟨ok94, ok95, trivial⟩, mo, trivial, ghUp, trivial, trivial⟩
theorem ok24 : ct24.Ok Tryz.prog tab gh := okU eq24 ⟨tabOk, ⟨ok58, ok59, ok60, trivial⟩, mo, trivial, ghUp, trivial, trivial⟩
theorem ok27 : ct27.Ok Tryz.prog tab gh := okU eq27 ⟨tabOk, trivial, mo, trivial, ghUp, trivial, trivial⟩
theorem ok28 : ct28.Ok Tryz.prog tab gh := okU eq28 ⟨tabOk, trivial, mo, trivial, ghUp, trivial, trivial⟩
theorem ok29 : ct29.Ok Tryz.prog tab gh := okU eq29 ⟨tabOk, ⟨ok61, trivial⟩, mo, trivial, ghUp, trivial, trivial⟩
theorem ok6 : ct6.Ok Tryz.prog tab gh := Ct.liftE (E := ⟨Tryz.prog, tab, [ct24, ct27, ct28, ct29], pl6, [], gh, [], [], []⟩) ⟨tabOk, ⟨ok24, ok27, ok28, ok29, trivial⟩, mo, trivial, ghUp, trivial, trivial⟩ 9 ct6 fun x Φ => by rw [eq6]; exact id
theorem ok96 : ct96.Ok Tryz.prog tab gh := okU eq96 ⟨tabOk, trivial, mo, trivial, ghUp, trivial, trivial⟩
theorem ok62 : ct62.Ok Tryz.prog tab gh := okU eq62 ⟨tabOk, ⟨ok40, ok76, ok96, trivial⟩, mo, trivial, ghUp, trivial, trivial⟩
theorem ok63 : ct63.Ok Tryz.prog tab gh := okU eq63 ⟨tabOk, trivial, mo, trivial, ghUp, trivial, trivial⟩
theorem ok30 : ct30.Ok Tryz.prog tab gh := okU eq30 ⟨tabOk, ⟨ok62, ok63, trivial⟩, mo, trivial, ghUp, trivial, trivial⟩
theorem ok66 : ct66.Ok Tryz.prog tab gh := okU eq66 ⟨tabOk, trivial, mo, trivial, ghUp, trivial, trivial⟩
theorem ok98 : ct98.Ok Tryz.prog tab gh := okU eq98 ⟨tabOk, trivial, mo, trivial, ghUp, trivial, trivial⟩
theorem ok67 : ct67.Ok Tryz.prog tab gh := okU eq67 ⟨tabOk, ⟨ok98, trivial⟩, mo, trivial, ghUp, trivial, trivial⟩
theorem ok31 : ct31.Ok Tryz.prog tab gh := okU eq31 ⟨tabOk, ⟨ok66, ok67, trivial⟩, mo, trivial, ghUp, trivial, trivial⟩
theorem ok109 : ct109.Ok Tryz.prog tab gh := okU eq109 ⟨tabOk, trivial, mo, trivial, ghUp, trivial, trivial⟩
theorem ok128 : ct128.Ok Tryz.prog tab gh := okU eq128 ⟨tabOk, trivial, mo, trivial, ghUp, trivial, trivial⟩
theorem ok112 : ct112.Ok Tryz.prog tab gh := okU eq112 ⟨tabOk, ⟨ok128, trivial⟩, mo, trivial, ghUp, trivial, trivial⟩
theorem ok111 : ct111.Ok Tryz.prog tab gh := okU eq111 ⟨tabOk, ⟨ok112, trivial⟩, mo, trivial, ghUp, trivial, trivial⟩
def Tryz.layE_ren : Go.Shelf.Ren := ⟨fun | 6 => 110 | 15 => 127 | 14 => 126 | 28 => 148 | 29 => 149 | 20 => 140 | 21 => 141 | 22 => 142 | 23 => 143 | 24 => 144 | 25 => 145 | 26 => 146 | 27 => 147 | 46 => 154 | 47 => 155 | 48 => 156 | 49 => 157 | 50 => 158 | 57 => 168 | n => n, fun | 22 => 145 | 24 => 149 | 25 => 189 | 3 => 3 | 39 => 204 | 0 => 0 | 53 => 223 | 55 => 197 | 4 => 4 | 46 => 216 | 45 => 215 | 50 => 220 | 5 => 5 | 9 => 9 | 66 => 229 | 70 => 233 | 76 => 240 | 77 => 81 | n => n, fun | n => n⟩
theorem Tryz.layE : Go.Proofs.SlLaysF0.n6 Tryz.prog Tryz.layE_ren := {
  mixed := by kernel_rfl
  f6 := ⟨Tryz.f110.name, by decide, Tryz.func110.trans (congrArg some (by kernel_rfl))⟩
  f14 := ⟨Tryz.f126.name, by decide, Tryz.func126.trans (congrArg some (by kernel_rfl))⟩
  f15 := Tryz.func127.trans (congrArg some (by kernel_rfl))
  f20 := ⟨Tryz.f140.name, by decide, Tryz.func140.trans (congrArg some (by kernel_rfl))⟩
  f21 := ⟨Tryz.f141.name, by decide, Tryz.func141.trans (congrArg some (by kernel_rfl))⟩
  f22 := ⟨Tryz.f142.name, by decide, Tryz.func142.trans (congrArg some (by kernel_rfl))⟩
  f23 := ⟨Tryz.f143.name, by decide, Tryz.func143.trans (congrArg some (by kernel_rfl))⟩
  f24 := ⟨Tryz.f144.name, by decide, Tryz.func144.trans (congrArg some (by kernel_rfl))⟩
  f25 := ⟨Tryz.f145.name, by decide, Tryz.func145.trans (congrArg some (by kernel_rfl))⟩
  f26 := ⟨Tryz.f146.name, by decide, Tryz.func146.trans (congrArg some (by kernel_rfl))⟩
  f27 := ⟨Tryz.f147.name, by decide, Tryz.func147.trans (congrArg some (by kernel_rfl))⟩
  f28 := Tryz.func148.trans (congrArg some (by kernel_rfl))
  f29 := Tryz.func149.trans (congrArg some (by kernel_rfl))
  f46 := ⟨Tryz.f154.name, by decide, Tryz.func154.trans (congrArg some (by kernel_rfl))⟩
  f47 := Tryz.func155.trans (congrArg some (by kernel_rfl))
  f48 := Tryz.func156.trans (congrArg some (by kernel_rfl))
  f49 := ⟨Tryz.f157.name, by decide, Tryz.func157.trans (congrArg some (by kernel_rfl))⟩
  f50 := ⟨Tryz.f158.name, by decide, Tryz.func158.trans (congrArg some (by kernel_rfl))⟩
  f57 := ⟨Tryz.f168.name, by decide, Tryz.func168.trans (congrArg some (by kernel_rfl))⟩
  t0 := Tryz.underlying0
  a0 := Tryz.isAgg0
  z0 := Tryz.sizeOf0
  v0 := Tryz.zeroValue0
  t3 := Tryz.underlying3
  a3 := Tryz.isAgg3
  z3 := Tryz.sizeOf3
  v3 := Tryz.zeroValue3
  t4 := Tryz.underlying4
  a4 := Tryz.isAgg4
  z4 := Tryz.sizeOf4
  v4 := Tryz.zeroValue4
  t5 := Tryz.underlying5
  a5 := Tryz.isAgg5
  z5 := Tryz.sizeOf5
  v5 := Tryz.zeroValue5
  t9 := Tryz.underlying9
  a9 := Tryz.isAgg9
  z9 := Tryz.sizeOf9
  v9 := Tryz.zeroValue9
  t22 := Tryz.underlying145
  a22 := Tryz.isAgg145
  z22 := Tryz.sizeOf145
  v22 := Tryz.zeroValue145
  t25 := Tryz.underlying189
  a25 := Tryz.isAgg189
  z25 := Tryz.sizeOf189
  v25 := Tryz.zeroValue189
  t39 := Tryz.underlying204
  a39 := Tryz.isAgg204
  z39 := Tryz.sizeOf204
  v39 := Tryz.zeroValue204
  t45 := Tryz.underlying215
  a45 := Tryz.isAgg215
  z45 := Tryz.sizeOf215
  v45 := Tryz.zeroValue215
  t46 := Tryz.underlying216
  a46 := Tryz.isAgg216
  z46 := Tryz.sizeOf216
  v46 := Tryz.zeroValue216
  t50 := Tryz.underlying220
  a50 := Tryz.isAgg220
  z50 := Tryz.sizeOf220
  v50 := Tryz.zeroValue220
  t53 := Tryz.underlying223
  a53 := Tryz.isAgg223
  z53 := Tryz.sizeOf223
  v53 := Tryz.zeroValue223
  t55 := Tryz.underlying197
  a55 := Tryz.isAgg197
  z55 := Tryz.sizeOf197
  v55 := Tryz.zeroValue197
  t66 := Tryz.underlying229
  a66 := Tryz.isAgg229
  z66 := Tryz.sizeOf229
  v66 := Tryz.zeroValue229
  t70 := Tryz.underlying233
  a70 := Tryz.isAgg233
  z70 := Tryz.sizeOf233
  v70 := Tryz.zeroValue233
  t76 := Tryz.underlying240
  a76 := Tryz.isAgg240
  z76 := Tryz.sizeOf240
  v76 := Tryz.zeroValue240
  t77 := Tryz.underlying81
  a77 := Tryz.isAgg81
  z77 := Tryz.sizeOf81
  v77 := Tryz.zeroValue81 }
theorem pk149 (v : Value) (cs : List Value) : PkR Tryz.prog 149 v cs = (v = .agg cs.toArray) := by kernel_rfl
def encE (x : q11) : List Value := [.int .i64 x.at_, .int .i64 x.list, .int .i64 x.step]
theorem q615 {H : Hp} (hG : gh H) (x y : q11) (W : World) (hag : ∀ b o, H b = some o → W.heap[b]? = some o) : Calls Tryz.prog 111 #[.agg (encE x).toArray, .agg (encE y).toArray] W fun e w' => e = .returned (.int .i64 (cmpE x y)) ∧ ∃ q os, w' = Sort.grow (W.drewN q) os := by
  refine (ok111 (x, y, ()) (fun v => v.1 = cmpE x y) (q775 x y) H [.agg (encE x).toArray, .agg (encE y).toArray] hG ⟨_, encE x, _, rfl, by rw [pk149], rfl, _, encE y, _, rfl, by rw [pk149], rfl, rfl⟩ W hag).mono fun e w' ⟨v, H', L', h1, hM, y', hy, hr⟩ => ?_; obtain ⟨ρ, _, _, _, _, h2, _⟩ := hr 0 (fun _ => none) (fun _ _ => rfl) _ _ _ (show resE Tryz.prog tab ct111.rs ct111.own y' 0 = some (.i .i64 y'.1, [], 0) by kernel_rfl); have h2 : v = .int .i64 y'.1 := h2; exact ⟨by rw [h1, h2, hy], hM.below.grow⟩
set_option maxRecDepth 100000 in
theorem tnh110 {xs : List q11} {Φ : List q11 → Prop} (hlen : xs.length ≤ 1099511627776) (hW : ∀ ys : List q11, ys.Perm xs → ys.Pairwise (fun a b => a.at_ ≤ b.at_) → Φ ys) {H : Hp} {w : World} {base : Nat} {v : Value} {n : Nat} {s : List Value} (hG : gh H) (hag : ∀ b o, H b = some o → w.heap[b]? = some o) (hap : ∀ b, v.ownBlock = some b → H b = none) (ho : w.ownsRow base 149 3 v n s) (hn : n = xs.length) (hd : DtL (α := q11) H s xs) : Calls Tryz.prog 110 (v :: fnVs [111]).toArray w fun e w' => e = .returned (.tuple #[]) ∧ ∃ (ys : List q11) (s' : List Value), Φ ys ∧ DtL (α := q11) H s' ys ∧ ys.length = xs.length ∧ w.grownBy w' v.ownBlock ∧ w.drawn ≤ w'.drawn ∧ w'.ownsRow base 149 3 v n s' := by
  have hs := hd.enc (enc := encE) fun _ _ _ h => h; have hk : ∀ x : q11, (encE x).length = 3 := fun _ => rfl
  have none : ∀ p cap, v = .slice p 0 cap → n = 0 → Calls Tryz.prog 110 (v :: fnVs [111]).toArray w fun e w' => e = .returned (.tuple #[]) ∧ ∃ (ys : List q11) (s' : List Value), Φ ys ∧ DtL (α := q11) H s' ys ∧ ys.length = xs.length ∧ w.grownBy w' v.ownBlock ∧ w.drawn ≤ w'.drawn ∧ w'.ownsRow base 149 3 v n s' := by
    intro p cap hv h0; have hx : xs = [] := List.eq_nil_of_length_eq_zero (hn.symm.trans h0); have hc := AnyF.slices_SortFunc_none (P := Tryz.prog) (ρ := Tryz.layE_ren) { Tryz.layE with } p cap (.func (.func 111) #[] #[]) w; change Calls Tryz.prog 110 _ _ _ at hc; rw [hv]; refine hc.mono fun e w' ⟨h2, h3⟩ => ⟨h2, xs, s, ?_, hd, rfl, ?_, ?_, ?_⟩
    · rw [hx] at hW ⊢; exact hW [] (List.Perm.refl _) List.Pairwise.nil
    · rw [h3]; exact ⟨rfl, rfl, rfl, Nat.le_refl _, fun _ _ _ => rfl⟩
    · rw [h3]; exact Nat.le_refl _
    · rw [h3, ← hv]; exact ho
  obtain ⟨_, ⟨hv, h0⟩ | ⟨b, cap, cur, hv, _⟩⟩ := id ho
  · exact none _ _ hv h0
  · subst hv
    haveI : Inhabited q11 := ⟨⟨0, 0, 0⟩⟩
    have hfl : (Sort.flatK encE 3 xs.toArray).toList = s := by rw [q398 hk, hs]
    obtain ⟨hH, hb⟩ := q613 (enc := id) (d := Sort.flatK encE 3 xs.toArray) ho (by rw [List.map_id_fun, hfl]; rfl); have hgH : H b = Option.none := hap b rfl; have eg : ∀ args w, (callFunc 111 args).run Tryz.prog w = .ok (.enter 111 args) w := enters_of Tryz.func111 (by kernel_rfl) rfl
    have hcmp : CmpLays Tryz.prog 111 #[] encE 3 cmpE b 0 xs.toArray.size w := fun m os dk _ p q => by
      refine q615 hG p q _ fun b' o hbo => ?_; have h1 := hag b' o hbo; have hne : b' ≠ b := by rintro rfl; rw [hgH] at hbo; cases hbo
      exact (q397 id 0 m (Sort.flatK encE 3 dk) os (q30 h1) hne).trans h1
    have ht : TyAgg Tryz.prog 149 3 := q416 (by kernel_rfl); obtain ⟨⟨ds, t1, t2⟩, ⟨ti, t3, t4⟩⟩ := ht; have hc := AnyQ.slices_SortFunc Tryz.layE 3 (fun w => (q94 t1 w).trans (by rw [t2])) (fun w => (q18 t3 w).trans (by rw [t4])) encE hk (fun x u hu => by simp only [encE, List.mem_cons, List.not_mem_nil, or_false] at hu; rcases hu with rfl | rfl | rfl <;> rfl) cmpE swoE 111 #[] b 0 cap xs.toArray w eg hcmp hH hb (by rw [List.size_toArray]; omega); change Calls Tryz.prog 110 _ _ _ at hc; rw [List.size_toArray, ← hn] at hc; refine hc.mono fun e w' ⟨h2, d', m, os, hp, hso, h3⟩ => ?_; rw [hn, ← List.size_toArray] at hp hso; obtain ⟨q1, q2⟩ := q614 hp hso; refine ⟨h2, d'.toList, d'.toList.flatMap encE, hW _ q1 (q2.imp fun h => leE h), DtL.ofEnc (fun _ _ => rfl) _, q1.length_eq, ?_, ?_, ?_⟩
    · rw [h3]; exact q478 id 0 m (Sort.flatK encE 3 d') os
    · rw [h3]; exact Nat.le_add_right _ _
    · rw [h3]
      have hsz : d'.size = n := by rw [hn, ← q1.length_eq, Array.length_toList]
      have := q527 id m (Sort.flatK encE 3 d') os ho (by rw [Sort.size_flatK, hsz]); rw [List.map_id_fun, id, q398 hk] at this; exact this
theorem tnok110 : tn110.Ok Tryz.prog gh := fun _ _ hW _ _ _ _ _ _ hG hag hap ho hn hd => tnh110 hW.1 hW.2 hG hag hap ho hn hd
theorem ok79 : ct79.Ok Tryz.prog tab gh := Ct.lift (E := ⟨Tryz.prog, tab, [ct109], pl79, [], gh, [tn110], [], []⟩) ⟨tabOk, ⟨ok109, trivial⟩, mo, trivial, ghUp, ⟨tnok110, trivial⟩, trivial⟩ 9 ct79 fun x Φ => by rw [eq79]; exact id
theorem ok68 : ct68.Ok Tryz.prog tab gh := okU eq68 ⟨tabOk, trivial, mo, trivial, ghUp, trivial, trivial⟩
theorem ok34 : ct34.Ok Tryz.prog tab gh := okU eq34 ⟨tabOk, ⟨ok68, ok79, trivial⟩, mo, trivial, ghUp, trivial, trivial⟩
theorem ok7 : ct7.Ok Tryz.prog tab gh := okU eq7 ⟨tabOk, ⟨ok30, ok31, ok34, trivial⟩, mo, trivial, ghUp, trivial, trivial⟩
theorem itok99 : it99.Ok Tryz.prog gh := It.lift (E := ⟨Tryz.prog, tab, [], pl99, [], gh, [], [], []⟩) ⟨tabOk, trivial, mo, trivial, ghUp, trivial, trivial⟩ it99 fun x l => by rw [eqi99]; exact id
theorem ok35 : ct35.Ok Tryz.prog tab gh := Ct.lift (E := ⟨Tryz.prog, tab, [ct31, ct40, ct70], pl35, [it99], gh, [], [], []⟩) ⟨tabOk, ⟨ok31, ok40, ok70, trivial⟩, mo, ⟨itok99, trivial⟩, ghUp, trivial, trivial⟩ 9 ct35 fun x Φ => by rw [eq35]; exact id
theorem ok38 : ct38.Ok Tryz.prog tab gh := okU eq38 ⟨tabOk, trivial, mo, trivial, ghUp, trivial, trivial⟩
theorem ok72 : ct72.Ok Tryz.prog tab gh := okU eq72 ⟨tabOk, trivial, mo, trivial, ghUp, trivial, trivial⟩
theorem ok103 : ct103.Ok Tryz.prog tab gh := okU eq103 ⟨tabOk, ⟨ok72, trivial⟩, mo, trivial, ghUp, trivial, trivial⟩
theorem ok73 : ct73.Ok Tryz.prog tab gh := okU eq73 ⟨tabOk, ⟨ok72, ok103, trivial⟩, mo, trivial, ghUp, trivial, trivial⟩
theorem ok74 : ct74.Ok Tryz.prog tab gh := okU eq74 ⟨tabOk, ⟨ok71, ok87, trivial⟩, mo, trivial, ghUp, trivial, trivial⟩
theorem ok39 : ct39.Ok Tryz.prog tab gh := okU eq39 ⟨tabOk, ⟨ok71, ok72, ok73, ok74, trivial⟩, mo, trivial, ghUp, trivial, trivial⟩
theorem ok8 : ct8.Ok Tryz.prog tab gh := okU eq8 ⟨tabOk, ⟨ok35, ok36, ok38, ok39, trivial⟩, mo, trivial, ghUp, trivial, trivial⟩
theorem ok9 : ct9.Ok Tryz.prog tab gh := okU eq9 ⟨tabOk, ⟨ok17, ok39, ok40, trivial⟩, mo, trivial, ghUp, trivial, trivial⟩
theorem ok10 : ct10.Ok Tryz.prog tab gh := okU eq10 ⟨tabOk, ⟨ok30, trivial⟩, mo, trivial, ghUp, trivial, trivial⟩
theorem ok43 : ct43.Ok Tryz.prog tab gh := okU eq43 ⟨tabOk, trivial, mo, trivial, ghUp, trivial, trivial⟩
theorem ok11 : ct11.Ok Tryz.prog tab gh := okU eq11 ⟨tabOk, ⟨ok43, ok79, trivial⟩, mo, trivial, ghUp, trivial, trivial⟩
theorem ok46 : ct46.Ok Tryz.prog tab gh := okU eq46 ⟨tabOk, trivial, mo, trivial, ghUp, trivial, trivial⟩
theorem ok45 : ct45.Ok Tryz.prog tab gh := okU eq45 ⟨tabOk, ⟨ok46, trivial⟩, mo, trivial, ghUp, trivial, trivial⟩
theorem ok12 : ct12.Ok Tryz.prog tab gh := okU eq12 ⟨tabOk, ⟨ok7, ok30, ok45, trivial⟩, mo, trivial, ghUp, trivial, trivial⟩
theorem ok48 : ct48.Ok Tryz.prog tab gh := okU eq48 ⟨tabOk, trivial, mo, trivial, ghUp, trivial, trivial⟩
theorem ok13 : ct13.Ok Tryz.prog tab gh := okU eq13 ⟨tabOk, ⟨ok48, trivial⟩, mo, trivial, ghUp, trivial, trivial⟩
theorem ok49 : ct49.Ok Tryz.prog tab gh := okU eq49 ⟨tabOk, trivial, mo, trivial, ghUp, trivial, trivial⟩
theorem ok14 : ct14.Ok Tryz.prog tab gh := okU eq14 ⟨tabOk, ⟨ok49, trivial⟩, mo, trivial, ghUp, trivial, trivial⟩
theorem ok113 : ct113.Ok Tryz.prog tab gh := okU eq113 ⟨tabOk, trivial, mo, trivial, ghUp, trivial, trivial⟩
theorem ok80 : ct80.Ok Tryz.prog tab gh := okU eq80 ⟨tabOk, ⟨ok79, ok113, trivial⟩, mo, trivial, ghUp, trivial, trivial⟩
theorem ok52 : ct52.Ok Tryz.prog tab gh := okU eq52 ⟨tabOk, ⟨ok80, trivial⟩, mo, trivial, ghUp, trivial, trivial⟩
theorem ok51 : ct51.Ok Tryz.prog tab gh := okU eq51 ⟨tabOk, ⟨ok52, trivial⟩, mo, trivial, ghUp, trivial, trivial⟩
theorem ok15 : ct15.Ok Tryz.prog tab gh := okU eq15 ⟨tabOk, ⟨ok51, trivial⟩, mo, trivial, ghUp, trivial, trivial⟩
theorem ok3 : ct3.Ok Tryz.prog tab gh := okU eq3 ⟨tabOk, ⟨ok4, ok5, ok6, ok7, ok8, ok9, ok10, ok11, ok12, ok13, ok14, ok15, trivial⟩, mo, trivial, ghUp, trivial, trivial⟩
section
theorem iI {x : Int} (h1 : -9223372036854775808 ≤ x) (h2 : x ≤ 9223372036854775807) : inI x := ⟨h1, h2⟩
theorem iX {i : Int} {n : Nat} (h1 : 0 ≤ i) (h2 : i < (n : Int)) : inX i n := ⟨h1, h2⟩
theorem iS {a b : Int} {n : Nat} (h1 : 0 ≤ a) (h2 : a ≤ b) (h3 : b ≤ (n : Int)) : inS a b n := ⟨h1, h2, h3⟩
theorem iL {n b : Nat} (h : n ≤ 1000000) (hb : b ≤ 1000000) : lenOk n b := by
  have := Nat.mul_le_mul h hb; refine ⟨by omega, ?_⟩; simp only [maxLen]; omega
section
variable {α : Type} [Dt α]
theorem q479 (xs : List α) (k : Nat) : ix xs (k : Int) = xs.getD k default := rfl
theorem q34 {xs : List α} {k : Nat} (h : k < xs.length) : ix xs (k : Int) = xs[k] := by
  show xs.getD k default = _; rw [List.getD_eq_getElem?_getD, List.getElem?_eq_getElem h]; rfl
theorem q119 {xs : List α} {k : Nat} (h : k < xs.length) : xs.take (k + 1) = xs.take k ++ [ix xs (k : Int)] := by
  rw [q34 h]; exact (List.take_append_getElem h).symm
theorem q45 {xs : List α} {i : Int} (h : inX i xs.length) : ix xs i ∈ xs := by
  have e := h.nat; have hl := h.lt; rw [e, q34 hl]; exact List.getElem_mem hl
theorem q713 {xs : List α} {k : Nat} (h : k < xs.length) : xs.drop k = ix xs (k : Int) :: xs.drop (k + 1) := by
  rw [q34 h]; exact List.drop_eq_getElem_cons h
theorem q303 {xs ys : List α} (hl : xs.length = ys.length) (h : ∀ k : Nat, k < xs.length → ix xs (k : Int) = ix ys (k : Int)) : xs = ys := by
  apply List.ext_getElem hl
  intro k h1 h2; have := h k h1; rwa [q34 h1, q34 h2] at this
omit [Dt α] in
theorem q528 (xs : List α) (k : Nat) (x : α) : put xs (k : Int) x = xs.set k x := rfl
end
section
variable {A : Type}
theorem LoopW.upS {S : Type} {step : S → (S → Prop) → Prop} (n : Nat) (idx : S → Int) (Inv : Nat → S → Prop) (h : ∀ (k : Nat) s rec, k ≤ n → idx s = (k : Int) → Inv k s → (∀ s', k < n → idx s' = (k : Int) + 1 → Inv (k + 1) s' → rec s') → step s rec) {s0 : S} (k0 : Nat) (hi : idx s0 = (k0 : Int)) (hk : k0 ≤ n) (h0 : Inv k0 s0) : LoopW step s0 := by
  refine LoopW.of_inv (fun s => ∃ k : Nat, idx s = (k : Int) ∧ k ≤ n ∧ Inv k s) (fun s => n - (idx s).toNat) ?_ ⟨k0, hi, hk, h0⟩
  rintro s rec ⟨k, he, hk, hI⟩ hrec
  refine h k s rec hk he hI fun s' hlt he' hI' => hrec s' ⟨k + 1, by rw [he']; rfl, hlt, hI'⟩ ?_; show n - (idx s').toNat < n - (idx s).toNat; rw [he, he']; omega
def q101 (f : Nat → Int) : Nat → Int
  | 0 => 0
  | n + 1 => if q101 f n ≠ 0 then q101 f n else f n
theorem q399 {f : Nat → Int} : ∀ {n k : Nat}, k < n → (∀ j, j < k → f j = 0) → f k ≠ 0 → q101 f n = f k
  | 0, _, hk, _, _ => by omega
  | n + 1, k, hk, h0, h1 => by
    unfold q101; rcases Nat.lt_or_ge k n with h | h
    · rw [q399 h h0 h1, if_pos h1]
    · have e : k = n := by omega
      subst e
      have : q101 f k = 0 := by
        clear h1 hk h
        induction k with
        | zero => rfl
        | succ k ih => unfold q101; rw [ih fun j hj => h0 j (by omega), if_neg (by simp), h0 k (by omega)]
      rw [this, if_neg (by simp)]
theorem q46 {f : Nat → Int} : ∀ {n : Nat}, q101 f n = 0 ↔ ∀ k, k < n → f k = 0
  | 0 => by simp [q101]
  | n + 1 => by
    unfold q101; constructor
    · intro h k hk
      by_cases h1 : q101 f n ≠ 0
      · rw [if_pos h1] at h; exact absurd h h1
      · rw [if_neg h1] at h
        rcases Nat.lt_or_ge k n with hlt | hge
        · exact (q46.1 (Classical.not_not.1 h1)) k hlt
        · have : k = n := by omega
          subst this; exact h
    · intro h
      rw [if_neg (by rw [q46.2 fun k hk => h k (by omega)]; simp), h n (by omega)]
end
end
theorem LoopW.upI {S : Type} {step : S → (S → Prop) → Prop} (n : Nat) (st : Nat → S) (I : Nat → Prop) {s : S} (hs : s = st 0) (h0 : I 0)
    (h : ∀ (k : Nat) rec, k < n → I k → (I (k + 1) → ∀ s, s = st (k + 1) → rec s) → step (st k) rec) (he : ∀ rec, I n → step (st n) rec) : LoopW step s := by
  have key : ∀ m k, k + m = n → I k → LoopN step (m + 1) (st k) := by
    intro m
    induction m with
    | zero => intro k hk hI; obtain rfl : k = n := hk; exact he _ hI
    | succ m ih => intro k hk hI; exact h k _ (by omega) hI fun hI' s hs => by rw [hs]; exact ih (k + 1) (by omega) hI'
  exact ⟨n + 1, by rw [hs]; exact key n 0 (by omega) h0⟩
theorem LoopW.upT {S : Type} {step : S → (S → Prop) → Prop} (n : Nat) (st : Nat → S) {s : S} (hs : s = st 0)
    (h : ∀ (k : Nat) rec, k < n → (∀ s, s = st (k + 1) → rec s) → step (st k) rec) (he : ∀ rec, step (st n) rec) : LoopW step s :=
  LoopW.upI n st (fun _ => True) hs trivial (fun k rec hk _ hr => h k rec hk (hr trivial)) fun rec _ => he rec
theorem LoopW.findI {step : Int → (Int → Prop) → Prop} (n : Nat) (p : Nat → Bool) (h : ∀ (k : Nat) rec, k < n → (∀ j, j < k → p j = false) → (p k = false → rec ((k : Int) + 1)) → step (k : Int) rec)
    (he : ∀ rec, (∀ j, j < n → p j = false) → step (n : Int) rec) : LoopW step 0 :=
  LoopW.upI n (fun k => (k : Int)) (fun k => ∀ j, j < k → p j = false) rfl (fun j hj => absurd hj (Nat.not_lt_zero j)) (fun k rec hk hI hr => h k rec hk hI fun hp => hr (fun j hj => by
    rcases Nat.lt_or_ge j k with h2 | h2
    · exact hI j h2
    · obtain rfl : j = k := by omega
      exact hp) _ rfl) he
theorem q825 {α : Type} [Dt α] {xs : List α} {p : α → Bool} : xs.any p = true ↔ ∃ k, k < xs.length ∧ p (ix xs (k : Int)) = true := by
  rw [List.any_eq_true]; constructor
  · rintro ⟨x, hx, hp⟩
    obtain ⟨k, hk, rfl⟩ := List.getElem_of_mem hx; exact ⟨k, hk, by rw [q34 hk]; exact hp⟩
  · rintro ⟨k, hk, hp⟩
    exact ⟨xs[k], List.getElem_mem hk, by rw [q34 hk] at hp; exact hp⟩
theorem q480 {α : Type} [Dt α] {xs : List α} {p : α → Bool} (h : ∀ k, k < xs.length → p (ix xs (k : Int)) = false) : xs.any p = false := by
  rw [Bool.eq_false_iff]; intro q; obtain ⟨k, hk, hp⟩ := q825.1 q; rw [h k hk] at hp; cases hp
theorem q529 {α : Type} [Dt α] {xs : List α} {p : α → Bool} {k : Nat} (hk : k < xs.length) (h : p (ix xs (k : Int)) = true) : xs.any p = true := q825.2 ⟨k, hk, h⟩
theorem LoopW.anyL {α : Type} [Dt α] {step : Int → (Int → Prop) → Prop} (xs : List α) (p : α → Bool) {Φ : Bool → Prop} (hΦ : Φ (xs.any p)) (h : ∀ (k : Nat) rec, k < xs.length → (p (ix xs (k : Int)) = true → Φ true) → (p (ix xs (k : Int)) = false → rec ((k : Int) + 1)) → step (k : Int) rec)
    (he : ∀ rec, Φ false → step (xs.length : Int) rec) : LoopW step 0 :=
  LoopW.findI xs.length (fun k => p (ix xs (k : Int))) (fun k rec hk _ hr => h k rec hk (fun hp => by rw [q529 hk hp] at hΦ; exact hΦ) hr) fun rec hn => he rec (by rw [q480 hn] at hΦ; exact hΦ)
theorem q93 {α : Type} (xs : List α) (x : α) : (xs ++ [x]).length = xs.length + 1 := by simp
theorem lenT {α : Type} {xs : List α} {k : Nat} (h : k ≤ xs.length) : (xs.take k).length = k := by rw [List.length_take]; omega
theorem q31 {α : Type} (xs : List α) : xs.take xs.length = xs := List.take_length
theorem q27 {α β : Type} [Dt α] {xs : List α} {k : Nat} (f : α → β) (h : k < xs.length) : (xs.take (k + 1)).map f = (xs.take k).map f ++ [f (ix xs (k : Int))] := by rw [q119 h, List.map_append]; rfl
theorem q283 (k : Nat) (p : Nat → Bool) : (List.range (k + 1)).filter p = (List.range k).filter p ++ (if p k then [k] else []) := by
  rw [List.range_succ, List.filter_append]; congr 1; by_cases hp : p k = true <;> simp [hp]
theorem LoopW.errI {S : Type} {step : S → (S → Prop) → Prop} (n : Nat) (st : Nat → S) (f : Nat → Int) {Ψ : Int → Prop} {s : S} (hs : s = st 0) (hΨ : Ψ (q101 f n))
    (h : ∀ (k : Nat) rec, k < n → (∀ j, j < k → f j = 0) → (f k ≠ 0 → Ψ (f k)) → (f k = 0 → ∀ s, s = st (k + 1) → rec s) → step (st k) rec) (he : ∀ rec, (∀ j, j < n → f j = 0) → Ψ 0 → step (st n) rec) : LoopW step s :=
  LoopW.upI n st (fun k => ∀ j, j < k → f j = 0) hs (fun j hj => absurd hj (Nat.not_lt_zero j)) (fun k rec hk hI hr => h k rec hk hI (fun h1 => by rw [q399 hk hI h1] at hΨ; exact hΨ) fun h0 => hr fun j hj => by
    rcases Nat.lt_or_ge j k with h2 | h2
    · exact hI j h2
    · obtain rfl : j = k := by omega
      exact h0) fun rec hI => he rec hI (by rw [q46.2 hI] at hΨ; exact hΨ)
def inE (e : q8) (x : Int) : Prop := e.Start ≤ x ∧ x < e.Start + e.Count
def memE (l : List q8) (x : Int) : Prop := ∃ e ∈ l, inE e x
structure CanE (l : List q8) : Prop where
  asc : l.Pairwise fun a b => a.Start + a.Count < b.Start
  pos : ∀ e ∈ l, 0 < e.Count
theorem q260 {x : Int} : ¬ memE [] x := fun ⟨_, h, _⟩ => by cases h
theorem q41 {e : q8} {l : List q8} {x : Int} : memE (e :: l) x ↔ inE e x ∨ memE l x := by simp [memE]
theorem q167 {l m : List q8} {x : Int} : memE (l ++ m) x ↔ memE l x ∨ memE m x := by
  simp only [memE, List.mem_append]; constructor
  · rintro ⟨e, h | h, hx⟩
    · exact .inl ⟨e, h, hx⟩
    · exact .inr ⟨e, h, hx⟩
  · rintro (⟨e, h, hx⟩ | ⟨e, h, hx⟩)
    · exact ⟨e, .inl h, hx⟩
    · exact ⟨e, .inr h, hx⟩
theorem CanE.tail {e : q8} {l : List q8} (h : CanE (e :: l)) : CanE l := ⟨(List.pairwise_cons.1 h.asc).2, fun x hx => h.pos x (List.mem_cons_of_mem _ hx)⟩
theorem CanE.behind {e : q8} {l : List q8} (h : CanE (e :: l)) {x : Int} (hx : memE l x) : e.Start + e.Count < x := by
  obtain ⟨f, hf, h1, h2⟩ := hx; have := (List.pairwise_cons.1 h.asc).1 f hf; omega
theorem CanE.uniq : ∀ {a b : List q8}, CanE a → CanE b → (∀ x, memE a x ↔ memE b x) → a = b
  | [], [], _, _, _ => rfl
  | [], f :: s, _, hb, h => absurd ((h f.Start).2 (q41.2 (.inl ⟨Int.le_refl _, by have := hb.pos f List.mem_cons_self; omega⟩))) q260
  | e :: r, [], ha, _, h => absurd ((h e.Start).1 (q41.2 (.inl ⟨Int.le_refl _, by have := ha.pos e List.mem_cons_self; omega⟩))) q260
  | e :: r, f :: s, ha, hb, h => by
    have he := ha.pos e List.mem_cons_self; have hf := hb.pos f List.mem_cons_self
    have low : ∀ {e f : q8} {r s : List q8}, CanE (e :: r) → CanE (f :: s) → (∀ x, memE (e :: r) x → memE (f :: s) x) → 0 < e.Count → 0 < f.Count → f.Start ≤ e.Start := fun {e f r s} ha hb h he hf => by
      rcases q41.1 (h e.Start (q41.2 (.inl ⟨Int.le_refl _, by omega⟩))) with h1 | h1
      · exact h1.1
      · have := hb.behind h1; omega
    have h1 := low ha hb (fun x => (h x).1) he hf; have h2 := low hb ha (fun x => (h x).2) hf he
    have top : ∀ {e f : q8} {r s : List q8}, CanE (e :: r) → (∀ x, memE (f :: s) x → memE (e :: r) x) → 0 < e.Count → e.Start = f.Start → f.Count ≤ e.Count := fun {e f r s} ha h he hs => by
      refine Int.not_lt.1 fun hlt => ?_; rcases q41.1 (h (e.Start + e.Count) (q41.2 (.inl ⟨by omega, by omega⟩))) with h1 | h1
      · exact absurd h1.2 (by omega)
      · have := ha.behind h1; omega
    have h3 := top ha (fun x => (h x).2) he (by omega); have h4 := top hb (fun x => (h x).1) hf (by omega)
    have hef : e = f := by
      obtain ⟨a1, a2⟩ := e; obtain ⟨b1, b2⟩ := f; simp only at h1 h2 h3 h4; rw [show a1 = b1 by omega, show a2 = b2 by omega]
    subst hef
    have := CanE.uniq ha.tail hb.tail fun x => by
      constructor
      · intro hx
        rcases q41.1 ((h x).1 (q41.2 (.inr hx))) with h5 | h5
        · have := ha.behind hx; have := h5.2; omega
        · exact h5
      · intro hx
        rcases q41.1 ((h x).2 (q41.2 (.inr hx))) with h5 | h5
        · have := hb.behind hx; have := h5.2; omega
        · exact h5
    rw [this]
structure GoodE (l : List q8) : Prop where
  ok : ∀ e ∈ l, 0 ≤ e.Start ∧ 0 < e.Count ∧ e.Start + e.Count ≤ 4096
def ends1 (j : Int) (e : q8) : List q11 := [⟨e.Start, j, 1⟩, ⟨e.Start + e.Count, j, -1⟩]
def endsE (j : Int) (l : List q8) : List q11 := l.flatMap (ends1 j)
theorem q120 (j : Int) : ∀ l : List q8, (endsE j l).length = 2 * l.length
  | [] => rfl
  | e :: l => by unfold endsE; rw [List.flatMap_cons, List.length_append]; have := q120 j l; unfold endsE at this; rw [this, List.length_cons]; simp [ends1]; omega
def stpD (j : Int) (q : q11) : Int := if q.list = j then q.step else 0
def dep (j : Int) (L : List q11) : Int := (L.map (stpD j)).sum
theorem q212 (j : Int) (l m : List q11) : dep j (l ++ m) = dep j l + dep j m := by unfold dep; rw [List.map_append, List.sum_append]
theorem q590 (j : Int) {l m : List q11} (h : l.Perm m) : dep j l = dep j m := by
  induction h with
  | nil => rfl
  | cons x _ ih => unfold dep at *; rw [List.map_cons, List.map_cons, List.sum_cons, List.sum_cons, ih]
  | swap x y l => unfold dep; simp only [List.map_cons, List.sum_cons]; omega
  | trans _ _ h1 h2 => exact h1.trans h2
def covE1 (e : q8) (x : Int) : Int := if e.Start ≤ x ∧ x < e.Start + e.Count then 1 else 0
def covE (l : List q8) (x : Int) : Int := (l.map fun e => covE1 e x).sum
theorem q168 : ∀ {l : List q8} {x : Int}, 0 ≤ covE l x ∧ (0 < covE l x ↔ memE l x)
  | [], x => ⟨by simp [covE], by simp [covE, memE]⟩
  | e :: l, x => by
    obtain ⟨h1, h2⟩ := q168 (l := l) (x := x); have e1 : covE (e :: l) x = covE1 e x + covE l x := by unfold covE; rw [List.map_cons, List.sum_cons]
    rw [e1, q41]; unfold covE1; by_cases hx : e.Start ≤ x ∧ x < e.Start + e.Count
    · rw [if_pos hx]; exact ⟨by omega, fun _ => .inl hx, fun _ => by omega⟩
    · rw [if_neg hx]
      refine ⟨by omega, ?_⟩; rw [Int.zero_add, h2]; exact ⟨.inr, fun h => h.resolve_left hx⟩
theorem q261 {j k x : Int} : ∀ {l : List q8}, (∀ e ∈ l, 0 < e.Count) → dep j ((endsE k l).filter fun q => decide (q.at_ ≤ x)) = if k = j then covE l x else 0
  | [], _ => by simp [dep, endsE, covE]
  | e :: l, h => by
    have ih := q261 (j := j) (k := k) (x := x) (l := l) fun e he => h e (List.mem_cons_of_mem _ he); have he := h e List.mem_cons_self; have e1 : endsE k (e :: l) = ends1 k e ++ endsE k l := by unfold endsE; rw [List.flatMap_cons]
    have e2 : covE (e :: l) x = covE1 e x + covE l x := by unfold covE; rw [List.map_cons, List.sum_cons]
    rw [e1, List.filter_append, q212, ih, e2]
    have e3 : dep j ((ends1 k e).filter fun q => decide (q.at_ ≤ x)) = if k = j then covE1 e x else 0 := by
      unfold ends1 covE1; have d2 : ∀ p q : q11, dep j [p, q] = stpD j p + stpD j q := fun p q => by simp [dep]
      have d1 : ∀ p : q11, dep j [p] = stpD j p := fun p => by simp [dep]
      have s1 : stpD j (⟨e.Start, k, 1⟩ : q11) = if k = j then 1 else 0 := rfl; have s2 : stpD j (⟨e.Start + e.Count, k, -1⟩ : q11) = if k = j then -1 else 0 := rfl; by_cases h1 : e.Start ≤ x
      · by_cases h2 : e.Start + e.Count ≤ x
        · rw [if_neg (show ¬ (e.Start ≤ x ∧ x < e.Start + e.Count) by omega), List.filter_cons_of_pos (by simpa using h1), List.filter_cons_of_pos (by simpa using h2), List.filter_nil, d2, s1, s2]
          split <;> rfl
        · rw [if_pos (show e.Start ≤ x ∧ x < e.Start + e.Count by omega), List.filter_cons_of_pos (by simpa using h1), List.filter_cons_of_neg (by simpa using h2), List.filter_nil, d1, s1]
      · rw [if_neg (show ¬ (e.Start ≤ x ∧ x < e.Start + e.Count) by omega)]
        have h2 : ¬ e.Start + e.Count ≤ x := by omega
        rw [List.filter_cons_of_neg (by simpa using h1), List.filter_cons_of_neg (by simpa using h2), List.filter_nil]
        split <;> rfl
    rw [e3]
    split <;> omega
structure EndsL (a b : List q8) (L : List q11) : Prop where
  perm : L.Perm (endsE 0 a ++ endsE 1 b)
  asc : L.Pairwise fun p q => p.at_ ≤ q.at_
theorem q776 {L : List q11} {k : Nat} {x : Int} (h1 : ∀ q ∈ L.take k, q.at_ ≤ x) (h2 : ∀ q ∈ L.drop k, x < q.at_) : L.take k = L.filter fun q => decide (q.at_ ≤ x) := by
  conv => rhs; rw [← List.take_append_drop k L]
  rw [List.filter_append, List.filter_eq_self.2 fun q hq => decide_eq_true (h1 q hq), List.filter_eq_nil_iff.2 fun q hq => by simpa using h2 q hq, List.append_nil]
theorem q591 {L : List q11} (h : L.Pairwise fun p q => p.at_ ≤ q.at_) {i j : Nat} (hij : i ≤ j) (hj : j < L.length) : (ix L (i : Int)).at_ ≤ (ix L (j : Int)).at_ := by
  rw [q34 hj, q34 (by omega)]; rcases Nat.lt_or_ge i j with h1 | h1
  · exact List.pairwise_iff_getElem.1 h i j (by omega) hj h1
  · obtain rfl : i = j := by omega
    exact Int.le_refl _
theorem q530 {L : List q11} {k : Nat} {q : q11} (h : q ∈ L.take k) : ∃ i : Nat, i < k ∧ i < L.length ∧ q = ix L (i : Int) := by
  obtain ⟨i, hi, rfl⟩ := List.getElem_of_mem h; rw [List.length_take] at hi; exact ⟨i, by omega, by omega, by rw [q34 (by omega), List.getElem_take]⟩
theorem q531 {L : List q11} {k : Nat} {q : q11} (h : q ∈ L.drop k) : ∃ i : Nat, k ≤ i ∧ i < L.length ∧ q = ix L (i : Int) := by
  obtain ⟨i, hi, rfl⟩ := List.getElem_of_mem h; rw [List.length_drop] at hi; exact ⟨k + i, by omega, by omega, by rw [q34 (by omega), List.getElem_drop]⟩
theorem EndsL.at_pass {a b : List q8} {L : List q11} (h : EndsL a b L) (ha : ∀ e ∈ a, 0 < e.Count) (hb : ∀ e ∈ b, 0 < e.Count) {k : Nat} {x : Int} (h1 : ∀ i : Nat, i < k → i < L.length → (ix L (i : Int)).at_ ≤ x) (h2 : ∀ i : Nat, k ≤ i → i < L.length → x < (ix L (i : Int)).at_) :
    dep 0 (L.take k) = covE a x ∧ dep 1 (L.take k) = covE b x := by
  have e := q776 (L := L) (k := k) (x := x) (fun q hq => by obtain ⟨i, h3, h4, rfl⟩ := q530 hq; exact h1 i h3 h4) (fun q hq => by obtain ⟨i, h3, h4, rfl⟩ := q531 hq; exact h2 i h3 h4); have hp := h.perm.filter fun q => decide (q.at_ ≤ x); rw [e]; constructor
  · rw [q590 0 hp, List.filter_append, q212, q261 ha, q261 hb]; simp
  · rw [q590 1 hp, List.filter_append, q212, q261 ha, q261 hb]; simp
theorem q262 {j : Int} : ∀ {L : List q11}, (∀ q ∈ L, q.step = 1 ∨ q.step = -1) → -(L.length : Int) ≤ dep j L ∧ dep j L ≤ (L.length : Int)
  | [], _ => by simp [dep]
  | q :: L, h => by
    have ih := q262 (j := j) (L := L) fun q hq => h q (List.mem_cons_of_mem _ hq); have e : dep j (q :: L) = stpD j q + dep j L := by unfold dep; rw [List.map_cons, List.sum_cons]
    rw [e, List.length_cons]; unfold stpD; rcases h q List.mem_cons_self with h1 | h1 <;> split <;> omega
theorem EndsL.mem {a b : List q8} {L : List q11} (h : EndsL a b L) {q : q11} (hq : q ∈ L) : (q.list = 0 ∨ q.list = 1) ∧ (q.step = 1 ∨ q.step = -1) ∧ ∃ e, (e ∈ a ∨ e ∈ b) ∧ (q.at_ = e.Start ∨ q.at_ = e.Start + e.Count) := by
  have h1 := h.perm.mem_iff.1 hq; rcases List.mem_append.1 h1 with h2 | h2
  · obtain ⟨e, he, h3⟩ := List.mem_flatMap.1 h2
    simp only [ends1, List.mem_cons, List.not_mem_nil, or_false] at h3; rcases h3 with rfl | rfl
    · exact ⟨.inl rfl, .inl rfl, e, .inl he, .inl rfl⟩
    · exact ⟨.inl rfl, .inr rfl, e, .inl he, .inr rfl⟩
  · obtain ⟨e, he, h3⟩ := List.mem_flatMap.1 h2
    simp only [ends1, List.mem_cons, List.not_mem_nil, or_false] at h3; rcases h3 with rfl | rfl
    · exact ⟨.inr rfl, .inl rfl, e, .inr he, .inl rfl⟩
    · exact ⟨.inr rfl, .inr rfl, e, .inr he, .inr rfl⟩
theorem EndsL.len {a b : List q8} {L : List q11} (h : EndsL a b L) : L.length = 2 * a.length + 2 * b.length := by
  rw [h.perm.length_eq, List.length_append, q120, q120]
structure Desc (f : Int → Prop) (out : List q8) (start : Int) (ins : Bool) (p : Int) : Prop where
  can : CanE out
  low : ∀ e ∈ out, e.Start + e.Count < p
  opn : ins = true → start < p ∧ ∀ e ∈ out, e.Start + e.Count < start
  all : ∀ x, x < p → (f x ↔ memE out x ∨ (ins = true ∧ start ≤ x))
theorem q592 {out : List q8} {p x : Int} (h : ∀ e ∈ out, e.Start + e.Count < p) (hx : p ≤ x) : ¬ memE out x := fun ⟨e, he, h1⟩ => by
  have := h e he; have := h1.2; omega
theorem Desc.opened {f : Int → Prop} {out : List q8} {start x p : Int} (h : Desc f out start false x) (hxp : x < p) (hf : ∀ y, x ≤ y → y < p → f y) : Desc f out x true p where
  can := h.can
  low e he := by have := h.low e he; omega
  opn _ := ⟨hxp, h.low⟩
  all y hy := by
    rcases Int.lt_or_le y x with h1 | h1
    · rw [h.all y h1]
      exact ⟨fun q => q.elim .inl fun q => by simp at q, fun q => q.elim .inl fun q => absurd q.2 (by omega)⟩
    · exact ⟨fun _ => .inr ⟨rfl, h1⟩, fun _ => hf y h1 hy⟩
theorem Desc.closed {f : Int → Prop} {out : List q8} {start x p : Int} (h : Desc f out start true x) (hxp : x < p) (hf : ∀ y, x ≤ y → y < p → ¬ f y) : Desc f (out ++ [⟨start, x - start⟩]) start false p where
  can := by
    obtain ⟨h1, h2⟩ := h.opn rfl; refine ⟨List.pairwise_append.2 ⟨h.can.asc, List.pairwise_singleton _ _, fun a ha b hb => ?_⟩, fun e he => ?_⟩
    · obtain rfl := List.mem_singleton.1 hb; exact h2 a ha
    · rcases List.mem_append.1 he with he | he
      · exact h.can.pos e he
      · obtain rfl := List.mem_singleton.1 he; show 0 < x - start; omega
  low e he := by
    rcases List.mem_append.1 he with he | he
    · have := h.low e he; omega
    · obtain rfl := List.mem_singleton.1 he; show start + (x - start) < p; omega
  opn q := by cases q
  all y hy := by
    rw [q167]
    have hone : memE [⟨start, x - start⟩] y ↔ start ≤ y ∧ y < x := by
      rw [q41]; constructor
      · rintro (q | q)
        · exact ⟨q.1, by have := q.2; simp only at this; omega⟩
        · exact absurd q q260
      · rintro ⟨q1, q2⟩; exact .inl ⟨q1, by show y < start + (x - start); omega⟩
    rw [hone]; rcases Int.lt_or_le y x with h1 | h1
    · rw [h.all y h1]
      exact ⟨fun q => q.elim (fun q => .inl (.inl q)) fun q => .inl (.inr ⟨q.2, h1⟩), fun q => q.elim (fun q => q.elim .inl fun q => .inr ⟨rfl, q.1⟩) fun q => by simp at q⟩
    · exact ⟨fun q => absurd q (hf y h1 hy), fun q => q.elim (fun q => q.elim (fun q => absurd q (q592 h.low h1)) fun q => by omega) fun q => by simp at q⟩
theorem Desc.kept {f : Int → Prop} {out : List q8} {start x p : Int} {ins : Bool} (h : Desc f out start ins x) (hxp : x < p) (hf : ∀ y, x ≤ y → y < p → (f y ↔ ins = true)) : Desc f out start ins p where
  can := h.can
  low e he := by have := h.low e he; omega
  opn q := ⟨by have := (h.opn q).1; omega, (h.opn q).2⟩
  all y hy := by
    rcases Int.lt_or_le y x with h1 | h1
    · exact h.all y h1
    · rw [hf y h1 hy]
      exact ⟨fun q => .inr ⟨q, by have := (h.opn q).1; omega⟩, fun q => q.elim (fun q => absurd q (q592 h.low h1)) fun q => q.1⟩
theorem Desc.done {f : Int → Prop} {out : List q8} {start : Int} {ins : Bool} (h : ∀ p0, ∃ p, p0 < p ∧ Desc f out start ins p) {x0 : Int} (hf : ∀ x, x0 ≤ x → ¬ f x) : CanE out ∧ ∀ x, f x ↔ memE out x := by
  obtain ⟨p, h1, h2⟩ := h (if x0 < start then start else x0)
  have hins : ins = false := by
    cases ins with
    | false => rfl
    | true =>
      have := (h2.all (if x0 < start then start else x0) h1).2 (.inr ⟨rfl, by split <;> omega⟩); exact absurd this (hf _ (by split <;> omega))
  refine ⟨h2.can, fun x => ?_⟩; obtain ⟨q, h3, h4⟩ := h x; rw [h4.all x h3, hins]; exact ⟨fun q => q.elim id fun q => by simp at q, .inl⟩
section
def DescK (f : Int → Prop) (L : List q11) (k : Nat) (out : List q8) (start : Int) (ins : Bool) : Prop :=
  (k < L.length → Desc f out start ins (ix L (k : Int)).at_) ∧ (k = L.length → ∀ p0, ∃ p, p0 < p ∧ Desc f out start ins p)
def keepF (kF : Bool → Bool → Bool) (a b : List q8) (x : Int) : Prop := kF (decide (0 < covE a x)) (decide (0 < covE b x)) = true
section
variable {kF : Bool → Bool → Bool} {a b : List q8} {L : List q11}
theorem q481 (h : EndsL a b L) (ha : ∀ e ∈ a, 0 < e.Count) (hb : ∀ e ∈ b, 0 < e.Count) {k : Nat} {y : Int} (h1 : ∀ i : Nat, i < k → i < L.length → (ix L (i : Int)).at_ ≤ y) (h2 : ∀ i : Nat, k ≤ i → i < L.length → y < (ix L (i : Int)).at_) :
    keepF kF a b y ↔ kF (decide (0 < dep 0 (L.take k))) (decide (0 < dep 1 (L.take k))) = true := by
  obtain ⟨e1, e2⟩ := h.at_pass ha hb h1 h2; unfold keepF; rw [e1, e2]
theorem q284 (h : EndsL a b L) (ha : ∀ e ∈ a, 0 < e.Count) (hb : ∀ e ∈ b, 0 < e.Count) {k : Nat} (hk : k < L.length) {out : List q8} {start : Int} {ins : Bool} (hD : Desc (keepF kF a b) out start ins (ix L (k : Int)).at_) (hbd : k + 1 < L.length → (ix L ((k + 1 : Nat) : Int)).at_ ≠ (ix L (k : Int)).at_) {now : Bool} (hnow : now = kF (decide (0 < dep 0 (L.take (k + 1)))) (decide (0 < dep 1 (L.take (k + 1))))) :
    (now = true → ins = false → DescK (keepF kF a b) L (k + 1) out (ix L (k : Int)).at_ true) ∧ (now = false → ins = true → DescK (keepF kF a b) L (k + 1) (out ++ [⟨start, (ix L (k : Int)).at_ - start⟩]) start false) ∧ (now = ins → DescK (keepF kF a b) L (k + 1) out start ins) := by
  have cst : ∀ (p : Int), (ix L (k : Int)).at_ < p → (∀ i : Nat, k + 1 ≤ i → i < L.length → p ≤ (ix L (i : Int)).at_) → ∀ y, (ix L (k : Int)).at_ ≤ y → y < p → (keepF kF a b y ↔ now = true) := fun p _ h2 y h3 h4 => by
    rw [hnow]; exact q481 h ha hb (fun i hi hl => by have := q591 h.asc (show i ≤ k by omega) hk; omega) fun i hi hl => by have := h2 i hi hl; omega
  have next : ∀ (P : Int → Prop), (∀ p, (ix L (k : Int)).at_ < p → (∀ i : Nat, k + 1 ≤ i → i < L.length → p ≤ (ix L (i : Int)).at_) → P p) → (k + 1 < L.length → P (ix L ((k + 1 : Nat) : Int)).at_) ∧ (k + 1 = L.length → ∀ p0, ∃ p, p0 < p ∧ P p) := fun P hP => by
    refine ⟨fun h1 => hP _ ?_ fun i h2 h3 => q591 h.asc h2 h3, fun h1 p0 => ?_⟩
    · have h2 := q591 h.asc (Nat.le_succ k) h1
      have h3 := hbd h1; have h2 : (ix L (k : Int)).at_ ≤ (ix L ((k + 1 : Nat) : Int)).at_ := h2
      omega
    · refine ⟨(if p0 < (ix L (k : Int)).at_ then (ix L (k : Int)).at_ else p0) + 1, by split <;> omega, hP _ (by split <;> omega) fun i h2 h3 => by omega⟩
  refine ⟨fun h1 h2 => ?_, fun h1 h2 => ?_, fun h1 => ?_⟩
  · subst h2
    exact next (fun p => Desc (keepF kF a b) out (ix L (k : Int)).at_ true p) fun p h3 h4 => hD.opened h3 fun y h5 h6 => (cst p h3 h4 y h5 h6).2 h1
  · subst h2
    exact next (fun p => Desc (keepF kF a b) (out ++ [⟨start, (ix L (k : Int)).at_ - start⟩]) start false p) fun p h3 h4 => hD.closed h3 fun y h5 h6 q => by rw [(cst p h3 h4 y h5 h6).1 q] at h1; cases h1
  · subst h1
    exact next (fun p => Desc (keepF kF a b) out start now p) fun p h3 h4 => hD.kept h3 fun y h5 h6 => cst p h3 h4 y h5 h6
theorem q285 (h0 : kF false false = false) (h : EndsL a b L) (ha : ∀ e ∈ a, 0 < e.Count) (hb : ∀ e ∈ b, 0 < e.Count) : DescK (keepF kF a b) L 0 [] 0 false := by
  have key : ∀ p, (∀ i : Nat, i < L.length → p ≤ (ix L (i : Int)).at_) → Desc (keepF kF a b) [] 0 false p := fun p hp =>
    ⟨⟨List.Pairwise.nil, fun e he => by cases he⟩, (fun e he => by cases he), (fun q => by cases q), fun x hx => by
      rw [q481 (k := 0) h ha hb (fun i hi _ => absurd hi (Nat.not_lt_zero i)) fun i _ hl => by have := hp i hl; omega]
      simp [dep, h0, memE]⟩
  refine ⟨fun hl => key _ fun i hi => q591 h.asc (Nat.zero_le i) hi, fun hl p0 => ⟨p0 + 1, by omega, key _ fun i hi => by omega⟩⟩
theorem q438 (h0 : kF false false = false) (ha : GoodE a) (hb : GoodE b) {x : Int} (hx : 4096 ≤ x) : ¬ keepF kF a b x := by
  have z : ∀ {l : List q8}, GoodE l → ¬ 0 < covE l x := fun {l} hl q => by
    obtain ⟨e, he, h1⟩ := q168.2.1 q; have := hl.ok e he; have := h1.2; omega
  unfold keepF; rw [decide_eq_false (z ha), decide_eq_false (z hb), h0]; simp
end
theorem q73 {v3 now : Bool} {at0 v2 k1 : Int} {v7 : List q8} {R : Int → Bool → List q8 → Prop} (hi : inI k1) (g : (now = true → v3 = false → R at0 now v7) ∧ (now = true → v3 = true → R v2 now v7) ∧ (now = false → v3 = false → R v2 now v7) ∧ (now = false → v3 = true → inI (at0 - v2) ∧ lenOk (v7 ++ ([(q8.mk v2 (at0 - v2))] : List q8)).length 16 ∧ R v2 now (v7 ++ [⟨v2, at0 - v2⟩]))) :
    let J3 : Int → Prop := fun st => (¬ (now = true) → (v3 = true → inI (at0 - st) ∧ lenOk (v7 ++ ([(q8.mk st (at0 - st))] : List q8)).length 16 ∧ inI k1 ∧ R st now (v7 ++ ([(q8.mk st (at0 - st))] : List q8))) ∧ (¬ (v3 = true) → inI k1 ∧ R st now v7)) ∧ (¬ (¬ (now = true)) → inI k1 ∧ R st now v7)
    let J4 : Bool → Prop := fun b => (b = true → J3 at0) ∧ (¬ (b = true) → J3 v2)
    (now = true → J4 (decide (¬ (v3 = true)))) ∧ (¬ (now = true) → J4 false) := by
  obtain ⟨g1, g2, g3, g4⟩ := g; cases now <;> cases v3
  · refine ⟨fun q => (by cases q), fun _ => ⟨fun q => (by cases q), fun _ => ⟨fun _ => ⟨fun q => (by cases q), fun _ => ⟨hi, g3 rfl rfl⟩⟩, fun q => absurd (fun h => by cases h) q⟩⟩⟩
  · refine ⟨fun q => (by cases q), fun _ => ⟨fun q => (by cases q), fun _ => ⟨fun _ => ⟨fun _ => ⟨(g4 rfl rfl).1, (g4 rfl rfl).2.1, hi, (g4 rfl rfl).2.2⟩, fun q => absurd rfl q⟩, fun q => absurd (fun h => by cases h) q⟩⟩⟩
  · refine ⟨fun _ => ⟨fun _ => ⟨fun q => absurd rfl q, fun _ => ⟨hi, g1 rfl rfl⟩⟩, fun q => absurd (by simp) q⟩, fun q => absurd rfl q⟩
  · refine ⟨fun _ => ⟨fun q => absurd q (by simp), fun _ => ⟨fun q => absurd rfl q, fun _ => ⟨hi, g2 rfl rfl⟩⟩⟩, fun q => absurd rfl q⟩
theorem q213 (j : Int) {L : List q11} {k : Nat} (hk : k < L.length) : dep j (L.take (k + 1)) = dep j (L.take k) + stpD j (ix L (k : Int)) := by
  rw [q119 hk, q212]; simp [dep]
theorem q263 {e : q8} {Φ : Int × Int × Bool → Prop} (h : 0 ≤ e.Start ∧ 0 < e.Count ∧ e.Start + e.Count ≤ 4096) (hΦ : Φ (e.Start, e.Start + e.Count, true)) : Z80 e Φ := by
  obtain ⟨h1, h2, h3⟩ := h; refine ⟨fun q => by omega, fun _ => ⟨fun q => by omega, fun _ => ⟨iI (by omega) (by omega), ?_⟩⟩⟩; have e1 : (if e.Start < 0 then 0 else e.Start) = e.Start := if_neg (by omega)
  have fin : ∀ v, v = e.Start + e.Count → Z78 e Φ v := fun v hv => by
    show Φ _; rw [e1, hv, decide_eq_true (show e.Start < e.Start + e.Count by omega)]; exact hΦ
  refine ⟨fun q => ⟨iI (by omega) (by omega), fin _ (if_neg (by omega))⟩, fun q => fin _ ?_⟩; have q : ¬ e.Count < 4096 - e.Start := by simpa using q
  omega
theorem q616 (j : Int) {l : List q8} {k : Nat} (hk : k < l.length) : endsE j (l.take (k + 1)) = endsE j (l.take k) ++ ends1 j (ix l (k : Int)) := by
  unfold endsE; rw [q119 hk, List.flatMap_append]; simp
theorem q136 {a b : List q8} {Φ : List q11 → Prop} (ha : GoodE a) (hb : GoodE b) (la : a.length ≤ 100000) (lb : b.length ≤ 100000) (hΦ : ∀ L, EndsL a b L → Φ L) : q63 [a, b] Φ := by
  have row : ∀ (j : Int) (l : List q8) (pre : List q11) (rec1 : (Int × List q11) → Prop) (i : Int) (X : List (List q8)), GoodE l → l.length ≤ 100000 → pre.length ≤ 200000 → ix X i = l → i = j → 0 ≤ j → j ≤ 5 → rec1 (i + 1, pre ++ endsE j l) → LoopW (Z85 X i rec1 Φ) (0, pre) := by
    intro j l pre rec1 i X hl hn hp hX hij h0 h5 hr; subst hij; refine LoopW.upI l.length (fun k => ((k : Int), pre ++ endsE i (l.take k))) (fun _ => True) (by simp [endsE]) trivial (fun k rec hk _ hrec => ?_) fun rec _ => ?_
    · unfold Z85
      rw [hX]; refine ⟨fun _ => ⟨iX (by omega) (by omega), q263 (hl.ok _ (q45 (iX (by omega) (by omega)))) ⟨fun _ => ?_, fun q => absurd rfl q⟩⟩, fun q => absurd (by exact_mod_cast hk) q⟩; have e1 : endsE i (l.take (k + 1)) = endsE i (l.take k) ++ ends1 i (ix l (k : Int)) := q616 i hk; have hlen : (endsE i (l.take k)).length = 2 * k := by rw [q120, List.length_take]; omega
      refine ⟨iL (by rw [List.length_append, List.length_append, hlen]; simp; omega) (by omega), iI (by omega) (by omega), hrec trivial _ ?_⟩; rw [e1, ← List.append_assoc]; rfl
    · unfold Z85
      rw [hX]; refine ⟨fun q => absurd q (by simp), fun _ => ⟨iI (by omega) (by omega), ?_⟩⟩; rw [List.take_length]; exact hr
  unfold q63; refine ⟨3, ⟨fun _ => ⟨iX (by omega) (by simp), ?_⟩, fun q => absurd (show (0 : Int) < _ by simp) q⟩⟩; refine row 0 a [] _ 0 [a, b] ha la (by simp) rfl rfl (by omega) (by omega) ?_; refine ⟨fun _ => ⟨iX (by omega) (by simp), ?_⟩, fun q => absurd (show (0 : Int) + 1 < _ by simp) q⟩; refine row 1 b ([] ++ endsE 0 a) _ (0 + 1) [a, b] hb lb (by rw [List.nil_append, q120]; omega) rfl rfl (by omega) (by omega) ?_; refine ⟨fun q => absurd q (by simp), fun _ => ⟨?_, fun ys hp hs => hΦ ys ⟨by rw [List.nil_append] at hp; exact hp, hs⟩⟩⟩; rw [List.nil_append, List.length_append, q120, q120]; omega
theorem q74 {x y : Bool} {Φ : Bool → Prop} (h : ∀ now, now = (fun p q => p || q) x y → Φ now) : Z147 x y Φ := by
  have := h _ rfl; cases x <;> cases y <;> simpa [Z147] using this
theorem q264 {a b : List q8} {Φ : List q8 → Prop} (ha : GoodE a) (hb : GoodE b) (la : a.length ≤ 100000) (lb : b.length ≤ 100000) (hΦ : ∀ l, CanE l → (∀ x, memE l x ↔ keepF (fun p q => p || q) a b x) → l.length ≤ 400000 → Φ l) : Z161 a b Φ := by
  have pa : ∀ e ∈ a, 0 < e.Count := fun e he => (ha.ok e he).2.1; have pb : ∀ e ∈ b, 0 < e.Count := fun e he => (hb.ok e he).2.1; refine q136 ha hb la lb fun L hL => ?_; have hlen := hL.len; have hst : ∀ q ∈ L, q.step = 1 ∨ q.step = -1 := fun q hq => (hL.mem hq).2.1
  have hat : ∀ k : Nat, k < L.length → 0 ≤ (ix L (k : Int)).at_ ∧ (ix L (k : Int)).at_ ≤ 4096 := fun k hk => by
    obtain ⟨_, _, e, he, h1⟩ := hL.mem (q45 (iX (Int.natCast_nonneg _) (by exact_mod_cast hk))); have := he.elim (fun q => ha.ok e q) fun q => hb.ok e q; omega
  have hsm : ∀ (j : Int) (k : Nat), -(500000 : Int) ≤ dep j (L.take k) ∧ dep j (L.take k) ≤ 500000 := fun j k => by
    have := q262 (j := j) (L := L.take k) fun q hq => hst q (List.mem_of_mem_take hq); have h2 : (L.take k).length ≤ L.length := List.length_take_le' k L; omega
  refine LoopW.upS L.length (fun s => s.2.2.1) (fun k s => s.2.2.2.1 = dep 0 (L.take k) ∧ s.2.2.2.2.1 = dep 1 (L.take k) ∧ s.2.2.2.2.2.length ≤ k ∧ (s.2.1 = true → -1 ≤ s.1 ∧ s.1 ≤ 5000) ∧ DescK (keepF (fun p q => p || q) a b) L k s.2.2.2.2.2 s.1 s.2.1) ?_ (s0 := (0, false, 0, 0, 0, [])) 0 rfl (Nat.zero_le _) ⟨rfl, rfl, Nat.zero_le _, (fun q => by cases q), q285 rfl hL pa pb⟩
  rintro k ⟨v2, v3, v4, v5, v6, v7⟩ rec hk hidx ⟨i1, i2, i3, i4, i5⟩ hrec
  simp only at hidx i1 i2 i3 i4 i5; subst hidx; subst i1; subst i2; unfold Z160; refine ⟨fun q => ?_, fun q => ?_⟩
  · have hkl : k < L.length := by omega
    have hm := hL.mem (q45 (iX (Int.natCast_nonneg _) (by exact_mod_cast hkl))); have hA := hat k hkl; have d0 := q213 0 hkl; have d1 := q213 1 hkl; have s0 := hsm 0 k; have s1 := hsm 1 k; have two : ((0 : Int) ≤ 0 ∧ (0 : Int) < 2) ∧ ((0 : Int) ≤ 1 ∧ (1 : Int) < 2) := ⟨by omega, by omega⟩
    have hlr : 0 ≤ (ix L (k : Int)).list ∧ (ix L (k : Int)).list < 2 := by have := hm.1; omega
    have hi1 : inI ((k : Int) + 1) := iI (by omega) (by omega)
    -- the end of a round
    have fin : ∀ (st : Int) (ins : Bool) (o : List q8) (x0 x1 : Int), x0 = dep 0 (L.take (k + 1)) → x1 = dep 1 (L.take (k + 1)) → o.length ≤ k + 1 → (ins = true → -1 ≤ st ∧ st ≤ 5000) → DescK (keepF (fun p q => p || q) a b) L (k + 1) o st ins → rec (st, ins, (k : Int) + 1, x0, x1, o) := fun st ins o x0 x1 e0 e1 e2 e3 e4 => hrec _ hkl rfl ⟨e0, e1, e2, e3, e4⟩
    have same : k + 1 < L.length → (ix L ((k : Int) + 1)).at_ = (ix L (k : Int)).at_ → DescK (keepF (fun p q => p || q) a b) L (k + 1) v7 v2 v3 := fun h1 h2 => ⟨fun _ => by
      have := i5.1 hkl
      rw [← h2] at this; exact this, fun h3 => by omega⟩
    have pass : (k + 1 < L.length → (ix L ((k : Int) + 1)).at_ ≠ (ix L (k : Int)).at_) → ∀ now, now = (fun p q => p || q) (decide (0 < dep 0 (L.take (k + 1)))) (decide (0 < dep 1 (L.take (k + 1)))) → _ := fun h1 now hn => q284 hL pa pb hkl (i5.1 hkl) h1 hn
    -- behind the group: what is kept now
    have go : ∀ (x0 x1 : Int), x0 = dep 0 (L.take (k + 1)) → x1 = dep 1 (L.take (k + 1)) → (k + 1 < L.length → (ix L ((k : Int) + 1)).at_ ≠ (ix L (k : Int)).at_) → ∀ now, now = (fun p q => p || q) (decide (0 < x0)) (decide (0 < x1)) →
        (now = true → v3 = false → rec ((ix L (k : Int)).at_, now, (k : Int) + 1, x0, x1, v7)) ∧ (now = true → v3 = true → rec (v2, now, (k : Int) + 1, x0, x1, v7)) ∧ (now = false → v3 = false → rec (v2, now, (k : Int) + 1, x0, x1, v7)) ∧ (now = false → v3 = true → inI ((ix L (k : Int)).at_ - v2) ∧ lenOk (v7 ++ ([(q8.mk v2 ((ix L (k : Int)).at_ - v2))] : List q8)).length 16 ∧ rec (v2, now, (k : Int) + 1, x0, x1, v7 ++ [⟨v2, (ix L (k : Int)).at_ - v2⟩])) := fun x0 x1 e0 e1 hb now hn => by
      rw [e0, e1] at hn; obtain ⟨p1, p2, p3⟩ := pass hb now hn; refine ⟨fun h1 h2 => ?_, fun h1 h2 => ?_, fun h1 h2 => ?_, fun h1 h2 => ?_⟩
      · have := p1 h1 h2; subst h1; exact fin _ _ _ _ _ e0 e1 (by omega) (fun _ => by omega) this
      · have := p3 (h1.trans h2.symm); subst h1; subst h2; exact fin _ _ _ _ _ e0 e1 (by omega) i4 this
      · have := p3 (h1.trans h2.symm); subst h1; subst h2; exact fin _ _ _ _ _ e0 e1 (by omega) i4 this
      · have h4 := i4 h2
        have := p2 h1 h2; subst h1; refine ⟨iI (by omega) (by omega), iL (by rw [List.length_append, List.length_singleton]; omega) (by omega), fin _ _ _ _ _ e0 e1 (by rw [List.length_append, List.length_singleton]; omega) (fun q => by cases q) this⟩
    refine ⟨iX (by omega) q, hlr, fun hl => ⟨two.1, iI (by have := hm.2.1; omega) (by have := hm.2.1; omega), hlr, fun _ => ⟨two.1, hi1, fun q2 => ⟨hi1, iX (by omega) q2, ?_⟩, fun q2 => ?_⟩, fun hl2 => absurd (hl.symm.trans hl2) (by omega), trivial⟩, fun hl => ⟨two.2, iI (by have := hm.2.1; omega) (by have := hm.2.1; omega), hlr, fun hl2 => absurd (hl2.symm.trans hl) (by omega), fun _ => ⟨two.2, hi1, fun q2 => ⟨hi1, iX (by omega) q2, ?_⟩, fun q2 => ?_⟩, trivial⟩, trivial⟩
    all_goals
      have e0 : stpD 0 (ix L (k : Int)) = if (ix L (k : Int)).list = 0 then (ix L (k : Int)).step else 0 := rfl; have e1 : stpD 1 (ix L (k : Int)) = if (ix L (k : Int)).list = 1 then (ix L (k : Int)).step else 0 := rfl; rw [hl] at e0 e1; simp at e0 e1; rw [e0] at d0; rw [e1] at d1
    · refine ⟨fun h1 => ⟨hi1, ?_⟩, fun h1 => ⟨two.1, two.2, ?_⟩⟩
      · exact fin _ _ _ _ _ d0.symm (by omega) (by omega) i4 (same (by omega) (by simpa using h1))
      · exact q74 fun now hn => q73 (R := fun st nw o => rec (st, nw, (k : Int) + 1, dep 0 (L.take k) + (ix L (k : Int)).step, dep 1 (L.take k), o)) hi1 (go _ _ d0.symm (by omega) (fun _ => by simpa using h1) now hn)
    · refine ⟨fun h1 => absurd h1 (by simp), fun h1 => ⟨two.1, two.2, ?_⟩⟩
      exact q74 fun now hn => q73 (R := fun st nw o => rec (st, nw, (k : Int) + 1, dep 0 (L.take k) + (ix L (k : Int)).step, dep 1 (L.take k), o)) hi1 (go _ _ d0.symm (by omega) (fun h2 => absurd (by exact_mod_cast h2) q2) now hn)
    · refine ⟨fun h1 => ⟨hi1, ?_⟩, fun h1 => ⟨two.1, two.2, ?_⟩⟩
      · exact fin _ _ _ _ _ (by omega) d1.symm (by omega) i4 (same (by omega) (by simpa using h1))
      · exact q74 fun now hn => q73 (R := fun st nw o => rec (st, nw, (k : Int) + 1, dep 0 (L.take k), dep 1 (L.take k) + (ix L (k : Int)).step, o)) hi1 (go _ _ (by omega) d1.symm (fun _ => by simpa using h1) now hn)
    · refine ⟨fun h1 => absurd h1 (by simp), fun h1 => ⟨two.1, two.2, ?_⟩⟩
      exact q74 fun now hn => q73 (R := fun st nw o => rec (st, nw, (k : Int) + 1, dep 0 (L.take k), dep 1 (L.take k) + (ix L (k : Int)).step, o)) hi1 (go _ _ (by omega) d1.symm (fun h2 => absurd (by exact_mod_cast h2) q2) now hn)
  · have hkn : k = L.length := by omega
    obtain ⟨c1, c2⟩ := Desc.done (x0 := 4096) (i5.2 hkn) fun x hx => q438 rfl ha hb hx; exact hΦ _ c1 (fun x => (c2 x).symm) (by omega)
theorem q49 {x y : Bool} {Φ : Bool → Prop} (h : ∀ now, now = (fun p q => p && q) x y → Φ now) : Z87 x y Φ := by
  have := h _ rfl; cases x <;> cases y <;> simpa [Z87] using this
theorem q178 {a b : List q8} {Φ : List q8 → Prop} (ha : GoodE a) (hb : GoodE b) (la : a.length ≤ 100000) (lb : b.length ≤ 100000) (hΦ : ∀ l, CanE l → (∀ x, memE l x ↔ keepF (fun p q => p && q) a b x) → l.length ≤ 400000 → Φ l) : Z101 a b Φ := by
  have pa : ∀ e ∈ a, 0 < e.Count := fun e he => (ha.ok e he).2.1; have pb : ∀ e ∈ b, 0 < e.Count := fun e he => (hb.ok e he).2.1; refine q136 ha hb la lb fun L hL => ?_; have hlen := hL.len; have hst : ∀ q ∈ L, q.step = 1 ∨ q.step = -1 := fun q hq => (hL.mem hq).2.1
  have hat : ∀ k : Nat, k < L.length → 0 ≤ (ix L (k : Int)).at_ ∧ (ix L (k : Int)).at_ ≤ 4096 := fun k hk => by
    obtain ⟨_, _, e, he, h1⟩ := hL.mem (q45 (iX (Int.natCast_nonneg _) (by exact_mod_cast hk))); have := he.elim (fun q => ha.ok e q) fun q => hb.ok e q; omega
  have hsm : ∀ (j : Int) (k : Nat), -(500000 : Int) ≤ dep j (L.take k) ∧ dep j (L.take k) ≤ 500000 := fun j k => by
    have := q262 (j := j) (L := L.take k) fun q hq => hst q (List.mem_of_mem_take hq); have h2 : (L.take k).length ≤ L.length := List.length_take_le' k L; omega
  refine LoopW.upS L.length (fun s => s.2.2.1) (fun k s => s.2.2.2.1 = dep 0 (L.take k) ∧ s.2.2.2.2.1 = dep 1 (L.take k) ∧ s.2.2.2.2.2.length ≤ k ∧ (s.2.1 = true → -1 ≤ s.1 ∧ s.1 ≤ 5000) ∧ DescK (keepF (fun p q => p && q) a b) L k s.2.2.2.2.2 s.1 s.2.1) ?_ (s0 := (0, false, 0, 0, 0, [])) 0 rfl (Nat.zero_le _) ⟨rfl, rfl, Nat.zero_le _, (fun q => by cases q), q285 rfl hL pa pb⟩
  rintro k ⟨v2, v3, v4, v5, v6, v7⟩ rec hk hidx ⟨i1, i2, i3, i4, i5⟩ hrec
  simp only at hidx i1 i2 i3 i4 i5; subst hidx; subst i1; subst i2; unfold Z100; refine ⟨fun q => ?_, fun q => ?_⟩
  · have hkl : k < L.length := by omega
    have hm := hL.mem (q45 (iX (Int.natCast_nonneg _) (by exact_mod_cast hkl))); have hA := hat k hkl; have d0 := q213 0 hkl; have d1 := q213 1 hkl; have s0 := hsm 0 k; have s1 := hsm 1 k; have two : ((0 : Int) ≤ 0 ∧ (0 : Int) < 2) ∧ ((0 : Int) ≤ 1 ∧ (1 : Int) < 2) := ⟨by omega, by omega⟩
    have hlr : 0 ≤ (ix L (k : Int)).list ∧ (ix L (k : Int)).list < 2 := by have := hm.1; omega
    have hi1 : inI ((k : Int) + 1) := iI (by omega) (by omega)
    -- the end of a round
    have fin : ∀ (st : Int) (ins : Bool) (o : List q8) (x0 x1 : Int), x0 = dep 0 (L.take (k + 1)) → x1 = dep 1 (L.take (k + 1)) → o.length ≤ k + 1 → (ins = true → -1 ≤ st ∧ st ≤ 5000) → DescK (keepF (fun p q => p && q) a b) L (k + 1) o st ins → rec (st, ins, (k : Int) + 1, x0, x1, o) := fun st ins o x0 x1 e0 e1 e2 e3 e4 => hrec _ hkl rfl ⟨e0, e1, e2, e3, e4⟩
    have same : k + 1 < L.length → (ix L ((k : Int) + 1)).at_ = (ix L (k : Int)).at_ → DescK (keepF (fun p q => p && q) a b) L (k + 1) v7 v2 v3 := fun h1 h2 => ⟨fun _ => by
      have := i5.1 hkl
      rw [← h2] at this; exact this, fun h3 => by omega⟩
    have pass : (k + 1 < L.length → (ix L ((k : Int) + 1)).at_ ≠ (ix L (k : Int)).at_) → ∀ now, now = (fun p q => p && q) (decide (0 < dep 0 (L.take (k + 1)))) (decide (0 < dep 1 (L.take (k + 1)))) → _ := fun h1 now hn => q284 hL pa pb hkl (i5.1 hkl) h1 hn
    -- behind the group: what is kept now
    have go : ∀ (x0 x1 : Int), x0 = dep 0 (L.take (k + 1)) → x1 = dep 1 (L.take (k + 1)) → (k + 1 < L.length → (ix L ((k : Int) + 1)).at_ ≠ (ix L (k : Int)).at_) → ∀ now, now = (fun p q => p && q) (decide (0 < x0)) (decide (0 < x1)) →
        (now = true → v3 = false → rec ((ix L (k : Int)).at_, now, (k : Int) + 1, x0, x1, v7)) ∧ (now = true → v3 = true → rec (v2, now, (k : Int) + 1, x0, x1, v7)) ∧ (now = false → v3 = false → rec (v2, now, (k : Int) + 1, x0, x1, v7)) ∧ (now = false → v3 = true → inI ((ix L (k : Int)).at_ - v2) ∧ lenOk (v7 ++ ([(q8.mk v2 ((ix L (k : Int)).at_ - v2))] : List q8)).length 16 ∧ rec (v2, now, (k : Int) + 1, x0, x1, v7 ++ [⟨v2, (ix L (k : Int)).at_ - v2⟩])) := fun x0 x1 e0 e1 hb now hn => by
      rw [e0, e1] at hn; obtain ⟨p1, p2, p3⟩ := pass hb now hn; refine ⟨fun h1 h2 => ?_, fun h1 h2 => ?_, fun h1 h2 => ?_, fun h1 h2 => ?_⟩
      · have := p1 h1 h2; subst h1; exact fin _ _ _ _ _ e0 e1 (by omega) (fun _ => by omega) this
      · have := p3 (h1.trans h2.symm); subst h1; subst h2; exact fin _ _ _ _ _ e0 e1 (by omega) i4 this
      · have := p3 (h1.trans h2.symm); subst h1; subst h2; exact fin _ _ _ _ _ e0 e1 (by omega) i4 this
      · have h4 := i4 h2
        have := p2 h1 h2; subst h1; refine ⟨iI (by omega) (by omega), iL (by rw [List.length_append, List.length_singleton]; omega) (by omega), fin _ _ _ _ _ e0 e1 (by rw [List.length_append, List.length_singleton]; omega) (fun q => by cases q) this⟩
    refine ⟨iX (by omega) q, hlr, fun hl => ⟨two.1, iI (by have := hm.2.1; omega) (by have := hm.2.1; omega), hlr, fun _ => ⟨two.1, hi1, fun q2 => ⟨hi1, iX (by omega) q2, ?_⟩, fun q2 => ?_⟩, fun hl2 => absurd (hl.symm.trans hl2) (by omega), trivial⟩, fun hl => ⟨two.2, iI (by have := hm.2.1; omega) (by have := hm.2.1; omega), hlr, fun hl2 => absurd (hl2.symm.trans hl) (by omega), fun _ => ⟨two.2, hi1, fun q2 => ⟨hi1, iX (by omega) q2, ?_⟩, fun q2 => ?_⟩, trivial⟩, trivial⟩
    all_goals
      have e0 : stpD 0 (ix L (k : Int)) = if (ix L (k : Int)).list = 0 then (ix L (k : Int)).step else 0 := rfl; have e1 : stpD 1 (ix L (k : Int)) = if (ix L (k : Int)).list = 1 then (ix L (k : Int)).step else 0 := rfl; rw [hl] at e0 e1; simp at e0 e1; rw [e0] at d0; rw [e1] at d1
    · refine ⟨fun h1 => ⟨hi1, ?_⟩, fun h1 => ⟨two.1, two.2, ?_⟩⟩
      · exact fin _ _ _ _ _ d0.symm (by omega) (by omega) i4 (same (by omega) (by simpa using h1))
      · exact q49 fun now hn => q73 (R := fun st nw o => rec (st, nw, (k : Int) + 1, dep 0 (L.take k) + (ix L (k : Int)).step, dep 1 (L.take k), o)) hi1 (go _ _ d0.symm (by omega) (fun _ => by simpa using h1) now hn)
    · refine ⟨fun h1 => absurd h1 (by simp), fun h1 => ⟨two.1, two.2, ?_⟩⟩
      exact q49 fun now hn => q73 (R := fun st nw o => rec (st, nw, (k : Int) + 1, dep 0 (L.take k) + (ix L (k : Int)).step, dep 1 (L.take k), o)) hi1 (go _ _ d0.symm (by omega) (fun h2 => absurd (by exact_mod_cast h2) q2) now hn)
    · refine ⟨fun h1 => ⟨hi1, ?_⟩, fun h1 => ⟨two.1, two.2, ?_⟩⟩
      · exact fin _ _ _ _ _ (by omega) d1.symm (by omega) i4 (same (by omega) (by simpa using h1))
      · exact q49 fun now hn => q73 (R := fun st nw o => rec (st, nw, (k : Int) + 1, dep 0 (L.take k), dep 1 (L.take k) + (ix L (k : Int)).step, o)) hi1 (go _ _ (by omega) d1.symm (fun _ => by simpa using h1) now hn)
    · refine ⟨fun h1 => absurd h1 (by simp), fun h1 => ⟨two.1, two.2, ?_⟩⟩
      exact q49 fun now hn => q73 (R := fun st nw o => rec (st, nw, (k : Int) + 1, dep 0 (L.take k), dep 1 (L.take k) + (ix L (k : Int)).step, o)) hi1 (go _ _ (by omega) d1.symm (fun h2 => absurd (by exact_mod_cast h2) q2) now hn)
  · have hkn : k = L.length := by omega
    obtain ⟨c1, c2⟩ := Desc.done (x0 := 4096) (i5.2 hkn) fun x hx => q438 rfl ha hb hx; exact hΦ _ c1 (fun x => (c2 x).symm) (by omega)
theorem q53 {x y : Bool} {Φ : Bool → Prop} (h : ∀ now, now = (fun p q => p && !q) x y → Φ now) : Z121 x y Φ := by
  have := h _ rfl; cases x <;> cases y <;> simpa [Z121] using this
theorem q196 {a b : List q8} {Φ : List q8 → Prop} (ha : GoodE a) (hb : GoodE b) (la : a.length ≤ 100000) (lb : b.length ≤ 100000) (hΦ : ∀ l, CanE l → (∀ x, memE l x ↔ keepF (fun p q => p && !q) a b x) → l.length ≤ 400000 → Φ l) : Z135 a b Φ := by
  have pa : ∀ e ∈ a, 0 < e.Count := fun e he => (ha.ok e he).2.1; have pb : ∀ e ∈ b, 0 < e.Count := fun e he => (hb.ok e he).2.1; refine q136 ha hb la lb fun L hL => ?_; have hlen := hL.len; have hst : ∀ q ∈ L, q.step = 1 ∨ q.step = -1 := fun q hq => (hL.mem hq).2.1
  have hat : ∀ k : Nat, k < L.length → 0 ≤ (ix L (k : Int)).at_ ∧ (ix L (k : Int)).at_ ≤ 4096 := fun k hk => by
    obtain ⟨_, _, e, he, h1⟩ := hL.mem (q45 (iX (Int.natCast_nonneg _) (by exact_mod_cast hk))); have := he.elim (fun q => ha.ok e q) fun q => hb.ok e q; omega
  have hsm : ∀ (j : Int) (k : Nat), -(500000 : Int) ≤ dep j (L.take k) ∧ dep j (L.take k) ≤ 500000 := fun j k => by
    have := q262 (j := j) (L := L.take k) fun q hq => hst q (List.mem_of_mem_take hq); have h2 : (L.take k).length ≤ L.length := List.length_take_le' k L; omega
  refine LoopW.upS L.length (fun s => s.2.2.1) (fun k s => s.2.2.2.1 = dep 0 (L.take k) ∧ s.2.2.2.2.1 = dep 1 (L.take k) ∧ s.2.2.2.2.2.length ≤ k ∧ (s.2.1 = true → -1 ≤ s.1 ∧ s.1 ≤ 5000) ∧ DescK (keepF (fun p q => p && !q) a b) L k s.2.2.2.2.2 s.1 s.2.1) ?_ (s0 := (0, false, 0, 0, 0, [])) 0 rfl (Nat.zero_le _) ⟨rfl, rfl, Nat.zero_le _, (fun q => by cases q), q285 rfl hL pa pb⟩
  rintro k ⟨v2, v3, v4, v5, v6, v7⟩ rec hk hidx ⟨i1, i2, i3, i4, i5⟩ hrec
  simp only at hidx i1 i2 i3 i4 i5; subst hidx; subst i1; subst i2; unfold Z134; refine ⟨fun q => ?_, fun q => ?_⟩
  · have hkl : k < L.length := by omega
    have hm := hL.mem (q45 (iX (Int.natCast_nonneg _) (by exact_mod_cast hkl))); have hA := hat k hkl; have d0 := q213 0 hkl; have d1 := q213 1 hkl; have s0 := hsm 0 k; have s1 := hsm 1 k; have two : ((0 : Int) ≤ 0 ∧ (0 : Int) < 2) ∧ ((0 : Int) ≤ 1 ∧ (1 : Int) < 2) := ⟨by omega, by omega⟩
    have hlr : 0 ≤ (ix L (k : Int)).list ∧ (ix L (k : Int)).list < 2 := by have := hm.1; omega
    have hi1 : inI ((k : Int) + 1) := iI (by omega) (by omega)
    -- the end of a round
    have fin : ∀ (st : Int) (ins : Bool) (o : List q8) (x0 x1 : Int), x0 = dep 0 (L.take (k + 1)) → x1 = dep 1 (L.take (k + 1)) → o.length ≤ k + 1 → (ins = true → -1 ≤ st ∧ st ≤ 5000) → DescK (keepF (fun p q => p && !q) a b) L (k + 1) o st ins → rec (st, ins, (k : Int) + 1, x0, x1, o) := fun st ins o x0 x1 e0 e1 e2 e3 e4 => hrec _ hkl rfl ⟨e0, e1, e2, e3, e4⟩
    have same : k + 1 < L.length → (ix L ((k : Int) + 1)).at_ = (ix L (k : Int)).at_ → DescK (keepF (fun p q => p && !q) a b) L (k + 1) v7 v2 v3 := fun h1 h2 => ⟨fun _ => by
      have := i5.1 hkl
      rw [← h2] at this; exact this, fun h3 => by omega⟩
    have pass : (k + 1 < L.length → (ix L ((k : Int) + 1)).at_ ≠ (ix L (k : Int)).at_) → ∀ now, now = (fun p q => p && !q) (decide (0 < dep 0 (L.take (k + 1)))) (decide (0 < dep 1 (L.take (k + 1)))) → _ := fun h1 now hn => q284 hL pa pb hkl (i5.1 hkl) h1 hn
    -- behind the group: what is kept now
    have go : ∀ (x0 x1 : Int), x0 = dep 0 (L.take (k + 1)) → x1 = dep 1 (L.take (k + 1)) → (k + 1 < L.length → (ix L ((k : Int) + 1)).at_ ≠ (ix L (k : Int)).at_) → ∀ now, now = (fun p q => p && !q) (decide (0 < x0)) (decide (0 < x1)) →
        (now = true → v3 = false → rec ((ix L (k : Int)).at_, now, (k : Int) + 1, x0, x1, v7)) ∧ (now = true → v3 = true → rec (v2, now, (k : Int) + 1, x0, x1, v7)) ∧ (now = false → v3 = false → rec (v2, now, (k : Int) + 1, x0, x1, v7)) ∧ (now = false → v3 = true → inI ((ix L (k : Int)).at_ - v2) ∧ lenOk (v7 ++ ([(q8.mk v2 ((ix L (k : Int)).at_ - v2))] : List q8)).length 16 ∧ rec (v2, now, (k : Int) + 1, x0, x1, v7 ++ [⟨v2, (ix L (k : Int)).at_ - v2⟩])) := fun x0 x1 e0 e1 hb now hn => by
      rw [e0, e1] at hn; obtain ⟨p1, p2, p3⟩ := pass hb now hn; refine ⟨fun h1 h2 => ?_, fun h1 h2 => ?_, fun h1 h2 => ?_, fun h1 h2 => ?_⟩
      · have := p1 h1 h2; subst h1; exact fin _ _ _ _ _ e0 e1 (by omega) (fun _ => by omega) this
      · have := p3 (h1.trans h2.symm); subst h1; subst h2; exact fin _ _ _ _ _ e0 e1 (by omega) i4 this
      · have := p3 (h1.trans h2.symm); subst h1; subst h2; exact fin _ _ _ _ _ e0 e1 (by omega) i4 this
      · have h4 := i4 h2
        have := p2 h1 h2; subst h1; refine ⟨iI (by omega) (by omega), iL (by rw [List.length_append, List.length_singleton]; omega) (by omega), fin _ _ _ _ _ e0 e1 (by rw [List.length_append, List.length_singleton]; omega) (fun q => by cases q) this⟩
    refine ⟨iX (by omega) q, hlr, fun hl => ⟨two.1, iI (by have := hm.2.1; omega) (by have := hm.2.1; omega), hlr, fun _ => ⟨two.1, hi1, fun q2 => ⟨hi1, iX (by omega) q2, ?_⟩, fun q2 => ?_⟩, fun hl2 => absurd (hl.symm.trans hl2) (by omega), trivial⟩, fun hl => ⟨two.2, iI (by have := hm.2.1; omega) (by have := hm.2.1; omega), hlr, fun hl2 => absurd (hl2.symm.trans hl) (by omega), fun _ => ⟨two.2, hi1, fun q2 => ⟨hi1, iX (by omega) q2, ?_⟩, fun q2 => ?_⟩, trivial⟩, trivial⟩
    all_goals
      have e0 : stpD 0 (ix L (k : Int)) = if (ix L (k : Int)).list = 0 then (ix L (k : Int)).step else 0 := rfl; have e1 : stpD 1 (ix L (k : Int)) = if (ix L (k : Int)).list = 1 then (ix L (k : Int)).step else 0 := rfl; rw [hl] at e0 e1; simp at e0 e1; rw [e0] at d0; rw [e1] at d1
    · refine ⟨fun h1 => ⟨hi1, ?_⟩, fun h1 => ⟨two.1, two.2, ?_⟩⟩
      · exact fin _ _ _ _ _ d0.symm (by omega) (by omega) i4 (same (by omega) (by simpa using h1))
      · exact q53 fun now hn => q73 (R := fun st nw o => rec (st, nw, (k : Int) + 1, dep 0 (L.take k) + (ix L (k : Int)).step, dep 1 (L.take k), o)) hi1 (go _ _ d0.symm (by omega) (fun _ => by simpa using h1) now hn)
    · refine ⟨fun h1 => absurd h1 (by simp), fun h1 => ⟨two.1, two.2, ?_⟩⟩
      exact q53 fun now hn => q73 (R := fun st nw o => rec (st, nw, (k : Int) + 1, dep 0 (L.take k) + (ix L (k : Int)).step, dep 1 (L.take k), o)) hi1 (go _ _ d0.symm (by omega) (fun h2 => absurd (by exact_mod_cast h2) q2) now hn)
    · refine ⟨fun h1 => ⟨hi1, ?_⟩, fun h1 => ⟨two.1, two.2, ?_⟩⟩
      · exact fin _ _ _ _ _ (by omega) d1.symm (by omega) i4 (same (by omega) (by simpa using h1))
      · exact q53 fun now hn => q73 (R := fun st nw o => rec (st, nw, (k : Int) + 1, dep 0 (L.take k), dep 1 (L.take k) + (ix L (k : Int)).step, o)) hi1 (go _ _ (by omega) d1.symm (fun _ => by simpa using h1) now hn)
    · refine ⟨fun h1 => absurd h1 (by simp), fun h1 => ⟨two.1, two.2, ?_⟩⟩
      exact q53 fun now hn => q73 (R := fun st nw o => rec (st, nw, (k : Int) + 1, dep 0 (L.take k), dep 1 (L.take k) + (ix L (k : Int)).step, o)) hi1 (go _ _ (by omega) d1.symm (fun h2 => absurd (by exact_mod_cast h2) q2) now hn)
  · have hkn : k = L.length := by omega
    obtain ⟨c1, c2⟩ := Desc.done (x0 := 4096) (i5.2 hkn) fun x hx => q438 rfl ha hb hx; exact hΦ _ c1 (fun x => (c2 x).symm) (by omega)
end
def chkB (b : q9) : Int := chk b.Size b.Words
theorem q197 {n : Int} {Φ : Int → Prop} (h0 : 0 ≤ n) (h1 : n ≤ 1000000) (hΦ : Φ ((n + 64 - 1) / 64)) : Z16 n Φ :=
  ⟨iI (by omega) (by omega), iI (by omega) (by omega), ⟨by omega, iI (by omega) (by omega), by omega⟩, hΦ⟩
theorem q35 {b : q9} {Φ : Int → Prop} (hΦ : Φ (chkB b)) : Z23 b Φ := by
  unfold chkB at hΦ; refine ⟨fun h => ?_, fun h1 => ⟨fun h2 => ?_, fun h2 => ⟨((b.Size + 64 - 1) / 64, ()), q197 (by omega) (by omega) rfl, fun h3 => ?_, fun h3 => ?_⟩⟩⟩
  · rw [q498 (by omega)] at hΦ; exact hΦ
  · rw [q498 (by omega)] at hΦ; exact hΦ
  · rw [q498 (by simp only at h3; omega)] at hΦ; exact hΦ
  · have h3 : (b.Words.length : Int) = (b.Size + 64 - 1) / 64 := Classical.not_not.1 h3
    have e : ∀ h : 0 < b.Size % 64, ix b.Words ((b.Words.length : Int) - 1) = b.Words.getD (b.Words.length - 1) 0#64 := fun h => by
      show b.Words.getD ((b.Words.length : Int) - 1).toNat default = _; rw [show ((b.Words.length : Int) - 1).toNat = b.Words.length - 1 by omega]; rfl
    refine ⟨⟨by omega, by omega⟩, fun h4 => ⟨iI (by omega) (by omega), iX (by omega) (by omega), by omega, fun h5 => ?_, fun h5 => ?_⟩, fun h4 => ?_⟩
    · rw [e h4] at h5
      rw [chk_top (by omega) (by omega) (by omega) h4 h5] at hΦ; exact hΦ
    · rw [q384 (by omega) (by omega) (by omega) fun h6 => by rw [e h6] at h5; exact Classical.not_not.1 h5] at hΦ; exact hΦ
    · rw [q384 (by omega) (by omega) (by omega) fun h6 => absurd h6 h4] at hΦ; exact hΦ
theorem q110 {b : q9} (h : ¬ chkB b ≠ 0) : 0 ≤ b.Size ∧ b.Size ≤ 4096 ∧ (b.Words.length : Int) = (b.Size + 63) / 64 := wf_len (Classical.not_not.1 h)
def bmOf (r : BR) : q9 × Int := (⟨r.n, r.ws⟩, r.e)
def newB (n : Int) : q9 := ⟨n, List.replicate ((n + 63) / 64).toNat 0#64⟩
theorem q439 {n : Int} {Φ : q9 × Int → Prop} (h0 : 0 ≤ n) (h1 : n ≤ 4096) (hΦ : Φ (newB n, 0)) : q194 n Φ := by
  refine ⟨fun q => absurd q (by omega), fun _ => ?_⟩; rw [decide_eq_false (show ¬ 4096 < n by omega)]; refine ⟨fun q => (by cases q), fun _ => q197 h0 (by omega) ⟨by omega, iL (by omega) (by omega), ?_⟩⟩; rw [show n + 64 - 1 = n + 63 by omega]; exact hΦ
theorem fits_of {s c n : Int} {Φ : Bool → Prop} (h0 : 0 ≤ n) (h1 : n ≤ 4096) (hΦ : Φ (fitsB s c n)) : (0 ≤ s → (0 ≤ c → (s ≤ n → inI (n - s) ∧ Φ (decide (c ≤ n - s))) ∧ (¬ s ≤ n → Φ false)) ∧ (¬ 0 ≤ c → Φ false)) ∧ (¬ 0 ≤ s → Φ false) := by
  have hf : ∀ q : ¬ (0 ≤ s ∧ 0 ≤ c ∧ s ≤ n ∧ c ≤ n - s), Φ false := fun q => by
    have : fitsB s c n = false := by rw [Bool.eq_false_iff]; exact fun z => q (q183.1 z)
    rw [this] at hΦ; exact hΦ
  refine ⟨fun a => ⟨fun b => ⟨fun d => ⟨iI (by omega) (by omega), ?_⟩, fun d => hf (by omega)⟩, fun b => hf (by omega)⟩, fun a => hf (by omega)⟩; by_cases hc : c ≤ n - s
  · have : fitsB s c n = true := q183.2 ⟨a, b, d, hc⟩
    rw [this] at hΦ; rw [decide_eq_true hc]; exact hΦ
  · rw [decide_eq_false hc]; exact hf (by omega)
theorem q371 {e : q8} {n : Int} {Φ : Bool → Prop} (h0 : 0 ≤ n) (h1 : n ≤ 4096) (hΦ : Φ (fitsB e.Start e.Count n)) : q161 e n Φ := fits_of h0 h1 hΦ
def setBm (b : q9) (e : q8) : q9 × Int := bmOf (chR true b.Size b.Words e.Start e.Count)
theorem q223 {i f g : Int} {Φ : BitVec 64 → Prop} (h0 : 0 ≤ i) (h1 : i ≤ 1000000) (h2 : -100000 ≤ f) (h3 : f ≤ 1000000) (h4 : -100000 ≤ g) (h5 : g ≤ 1000000) (hΦ : Φ (maskW i f g)) : q107 i f g Φ := by
  have hm : maskW i f g = if (if 64 < g - i * 64 then 64 else g - i * 64) ≤ (if f - i * 64 < 0 then 0 else f - i * 64) then 0#64 else 18446744073709551615#64 >>> (64 - ((if 64 < g - i * 64 then 64 else g - i * 64) - (if f - i * 64 < 0 then 0 else f - i * 64))).toNat <<< (if f - i * 64 < 0 then 0 else f - i * 64).toNat := rfl; rw [hm] at hΦ; refine ⟨iI (by omega) (by omega), iI (by omega) (by omega), iI (by omega) (by omega), iI (by omega) (by omega), fun q => ?_, fun q => ⟨iI (by split <;> split <;> omega) (by split <;> split <;> omega), iI (by split <;> split <;> omega) (by split <;> split <;> omega), by split <;> split <;> omega, by split <;> omega, ?_⟩⟩
  · rw [if_pos q] at hΦ; exact hΦ
  · rw [if_neg q] at hΦ; exact hΦ
theorem q265 {l : List (BitVec 64)} {Φ : List (BitVec 64) → Prop} (hl : l.length ≤ 1000000) (hΦ : Φ l) : Z29 l Φ :=
  ⟨fun h => by subst h; exact hΦ, iL (by rw [List.nil_append]; exact hl) (by omega), hΦ⟩
theorem q440 {b : q9} {e : q8} {Φ : q9 × Int → Prop} (hΦ : Φ (setBm b e)) : q133 b e Φ := by
  unfold setBm at hΦ; unfold q133; refine q35 ⟨fun q => ?_, fun q => ?_⟩
  · rw [q743 q] at hΦ; unfold chkB at *; rw [q634 q]; exact hΦ
  have hw := q110 q; refine q371 hw.1 hw.2.1 ⟨fun q2 => by rw [q632 q q2] at hΦ; exact hΦ, fun q2 => ?_⟩; have q3 := Classical.not_not.1 q2; rw [q801 q q3] at hΦ; have hf := q183.1 q3; refine q265 (by omega) ?_; refine LoopW.upI b.Words.length (fun k => ((k : Int), chK true b.Words e.Start (e.Start + e.Count) k)) (fun _ => True) ?_ trivial (fun k rec hk _ hrec => ?_) fun rec _ => ?_
  · exact Prod.ext rfl (q744 true b.Words e.Start (e.Start + e.Count)).symm
  · have hl : (chK true b.Words e.Start (e.Start + e.Count) k).length = b.Words.length := q385 _ _ _ _ _
    refine ⟨fun _ => ⟨iX (by omega) (by omega), iI (by omega) (by omega), (_, ()), q223 (by omega) (by omega) (by omega) (by omega) (by omega) (by omega) rfl, (_, ()), rfl, iX (by omega) (by omega), iI (by omega) (by omega), hrec trivial _ (Prod.ext rfl ?_)⟩, fun hge => absurd (show (k : Int) < (b.Words.length : Int) by omega) hge⟩; exact q746 true b.Words e.Start (e.Start + e.Count) hk
  · refine ⟨fun hlt => absurd (show (b.Words.length : Int) < (b.Words.length : Int) from hlt) (by omega), fun _ => ?_⟩
    rw [← q745 true b.Words e.Start (e.Start + e.Count) (Nat.le_refl _)] at hΦ; exact hΦ
def orB (a b : q9) : q9 × Int := bmOf (bothR (fun x y => x ||| y) a.Size a.Words b.Size b.Words)
theorem q482 {a b : q9} {Φ : q9 × Int → Prop} (hΦ : Φ (orB a b)) : q163 a b Φ := by
  unfold orB at hΦ; unfold q163; refine q35 ⟨fun h => ?_, fun h => q35 ⟨fun h2 => ?_, fun h2 => ⟨fun h3 => ?_, fun h3 => ?_⟩⟩⟩
  · rw [q332 (bothE_1 h) (by omega)] at hΦ; unfold chkB at *; rw [q634 h]; exact hΦ
  · rw [q332 (bothE_2 h h2) (by omega)] at hΦ; unfold chkB at *; rw [q634 h2]; exact hΦ
  · rw [q332 (bothE_3 h h2 h3) (by omega)] at hΦ; exact hΦ
  · have hw := q110 h
    have hw2 := q110 h2; rw [q542 (q633 h h2 h3)] at hΦ; have hl : a.Words.length = b.Words.length := by omega
    refine ⟨by omega, iL (by omega) (by omega), ?_⟩; have hz : (List.zipWith (fun x y => x ||| y) a.Words b.Words).length = (List.replicate (a.Words.length : Int).toNat (0#64)).length := by rw [List.length_zipWith, List.length_replicate]; omega
    have hr : (List.replicate (a.Words.length : Int).toNat (0#64)).length = a.Words.length := by simp
    refine LoopW.upI a.Words.length (fun k => ((k : Int), mixK (List.zipWith (fun x y => x ||| y) a.Words b.Words) (List.replicate (a.Words.length : Int).toNat (0#64)) k)) (fun _ => True) (Prod.ext rfl (q635 _ _).symm) trivial (fun k rec hk _ hrec => ?_) fun rec _ => ?_
    · have hml := q333 hz k
      refine ⟨fun _ => ⟨iX (by omega) (by omega), iX (by omega) (by omega), (_, ()), rfl, iX (by omega) (by omega), iI (by omega) (by omega), hrec trivial _ (Prod.ext rfl ?_)⟩, fun hge => absurd (show (k : Int) < ((List.replicate (a.Words.length : Int).toNat (0#64)).length : Int) by omega) hge⟩; exact q637 hz (q638 (by omega) (by omega))
    · refine ⟨fun hlt => absurd (show (a.Words.length : Int) < ((List.replicate (a.Words.length : Int).toNat (0#64)).length : Int) from hlt) (by omega), fun _ => ?_⟩
      rw [q636 hz (by omega)]; exact hΦ
def q25 (l : List Int) : Int := if (l.length : Int) < 1 ∨ 8 < (l.length : Int) then 6 else q101 (fun k => if ix l (k : Int) < 1 ∨ 4096 < ix l (k : Int) then 2 else 0) l.length
def szs (im : List (List Sec)) : List Int := im.map fun v => (v.length : Int)
def imgE (im : List (List Sec)) : Int := q25 (szs im)
theorem q15 (im : List (List Sec)) : (szs im).length = im.length := by unfold szs; rw [List.length_map]
theorem q88 {im : List (List Sec)} {k : Nat} (h : k < im.length) : ix (szs im) (k : Int) = ((ix im (k : Int)).length : Int) := by
  rw [q34 (by rw [q15]; exact h), q34 h]; unfold szs; rw [List.getElem_map]
theorem q19 {l : List Int} (h : q25 l = 0) : 1 ≤ l.length ∧ l.length ≤ 8 := by
  unfold q25 at h; by_cases hl : (l.length : Int) < 1 ∨ 8 < (l.length : Int)
  · rw [if_pos hl] at h; cases h
  · omega
theorem q145 {l : List Int} (h : q25 l = 0) {k : Nat} (hk : k < l.length) : 1 ≤ ix l (k : Int) ∧ ix l (k : Int) ≤ 4096 := by
  unfold q25 at h; by_cases hl : (l.length : Int) < 1 ∨ 8 < (l.length : Int)
  · rw [if_pos hl] at h; cases h
  · rw [if_neg hl] at h
    have := q46.1 h k hk; by_cases q : ix l (k : Int) < 1 ∨ 4096 < ix l (k : Int)
    · rw [if_pos q] at this; cases this
    · omega
theorem q121 {l : List Int} {Φ : Int → Prop} (hΦ : Φ (q25 l)) : Z4 l Φ := by
  unfold q25 at hΦ; by_cases h : (l.length : Int) < 1 ∨ 8 < (l.length : Int)
  · rw [if_pos h] at hΦ
    exact ⟨fun _ => hΦ, fun _ => ⟨fun _ => hΦ, fun _ => by omega⟩⟩
  · rw [if_neg h] at hΦ
    refine ⟨fun _ => by omega, fun _ => ⟨fun _ => by omega, fun _ => ?_⟩⟩; refine LoopW.errI l.length (fun k => (k : Int)) _ rfl hΦ (fun k rec hk _ h1 h2 => ?_) fun rec _ h0 => ⟨fun _ => by omega, fun _ => ⟨fun _ => by omega, fun _ => h0⟩⟩
    have go : ∀ q : ix l (k : Int) < 1 ∨ 4096 < ix l (k : Int), Φ 2 := fun q => by
      have := h1 (by rw [if_pos q]; omega); rw [if_pos q] at this; exact this
    refine ⟨fun _ => ⟨iX (by omega) (by omega), fun q => ⟨fun _ => ⟨fun _ => go (.inl q), fun _ => by omega⟩, fun r => absurd rfl r⟩, fun q => ⟨fun r => ⟨fun _ => go (.inr (of_decide_eq_true r)), fun _ => by omega⟩, fun r => ⟨iI (by omega) (by omega), h2 (if_neg (by have := of_decide_eq_false (Bool.eq_false_iff.2 r); omega)) _ rfl⟩⟩⟩, fun _ => by omega⟩
theorem q137 {im : List (List Sec)} {Φ : List Int → Prop} (hl : im.length ≤ 100000) (hΦ : Φ (szs im)) : q86 im Φ := by
  refine ⟨by omega, iL (by omega) (by omega), ?_⟩; refine LoopW.upT im.length (fun k => ((k : Int), (im.take k).map fun v => (v.length : Int))) rfl (fun k rec hk hr => ?_) fun rec => ⟨fun _ => by omega, fun _ => by rw [q31]; exact hΦ⟩
  refine ⟨fun _ => ⟨iX (by omega) (by omega), iL (by rw [q93, List.length_map, lenT (by omega)]; omega) (by omega), iI (by omega) (by omega), hr _ (by rw [q27 _ hk]; rfl)⟩, fun _ => by omega⟩
theorem q40 {im : List (List Sec)} {Φ : Int → Prop} (hl : im.length ≤ 100000) (hΦ : Φ (imgE im)) : q38 im Φ := q137 hl (q121 hΦ)
def zeroI (l : List Int) : List (List Sec) := l.map fun n => List.replicate n.toNat sec0
theorem q266 (l : List Int) : (zeroI l).length = l.length := by unfold zeroI; rw [List.length_map]
theorem q777 {l : List Int} {k : Nat} (h : k < l.length) : ix (zeroI l) (k : Int) = List.replicate (ix l (k : Int)).toNat sec0 := by
  rw [q34 (by rw [q266]; exact h), q34 h]; unfold zeroI; rw [List.getElem_map]
theorem q483 {l : List Int} (h : q25 l = 0) : szs (zeroI l) = l := by
  refine q303 (by rw [q15, q266]) fun k hk => ?_; rw [q15, q266] at hk; have := q145 h hk; rw [q88 (by rw [q266]; exact hk), q777 hk, List.length_replicate]; omega
theorem q102 {l : List Int} {Φ : List (List Sec) × Int → Prop} (h0 : q25 l = 0 → Φ (zeroI l, 0)) (h1 : q25 l ≠ 0 → Φ ([], q25 l)) : q77 l Φ := by
  refine q121 ⟨fun q => h1 q, fun q => ?_⟩; have q : q25 l = 0 := Classical.not_not.1 q; have hl := q19 q; refine ⟨by omega, iL (by omega) (by omega), ?_⟩; refine LoopW.upT l.length (fun k => ((k : Int), (l.take k).map fun n => List.replicate n.toNat sec0)) rfl (fun k rec hk hr => ?_) fun rec => ⟨fun _ => by omega, fun _ => by rw [q31]; exact h0 q⟩
  have := q145 q hk; refine ⟨fun _ => ⟨iX (by omega) (by omega), by omega, iL (by omega) (by omega), iL (by rw [q93, List.length_map, lenT (by omega)]; omega) (by omega), iI (by omega) (by omega), hr _ (by rw [q27 _ hk]; rfl)⟩, fun _ => by omega⟩
def fitW (l : List Int) (w : q10) : Int := if w.Volume < 0 ∨ (l.length : Int) ≤ w.Volume then 7 else if (w.Data.length : Int) = 0 then 1 else if w.Start < 0 ∨ ix l w.Volume - w.Start < (w.Data.length : Int) then 2 else 0
theorem q267 {im : List (List Sec)} {w : q10} {Φ : Int → Prop} (hd : w.Data.length ≤ 1000000) (hv : ∀ k : Nat, k < im.length → (ix im (k : Int)).length ≤ 1000000) (hΦ : Φ (fitW (szs im) w)) : q81 im w Φ := by
  unfold fitW at hΦ; rw [q15] at hΦ; show (_ → q106 _ _ _ _) ∧ _
  have tail : ¬ (w.Volume < 0 ∨ (im.length : Int) ≤ w.Volume) → q106 im w Φ false := fun q => by
    rw [if_neg q] at hΦ; refine ⟨fun r => (Bool.noConfusion r), fun _ => ⟨fun r => by rw [if_pos (by omega)] at hΦ; exact hΦ, fun r => ?_⟩⟩; rw [if_neg (by omega)] at hΦ; obtain ⟨v, hw⟩ := Int.eq_ofNat_of_zero_le (show 0 ≤ w.Volume by omega); have hvl : v < im.length := by omega
    rw [hw, q88 hvl] at hΦ; have := hv v hvl; refine ⟨fun s => by rw [if_pos (.inl s)] at hΦ; exact hΦ, fun s => ⟨iX (by omega) (by omega), ?_⟩⟩; rw [hw]; exact ⟨iI (by omega) (by omega), fun t => by rw [if_pos (by omega)] at hΦ; exact hΦ, fun t => by rw [if_neg (by omega)] at hΦ; exact hΦ⟩
  refine ⟨fun q => ⟨fun _ => by rw [if_pos (.inl q)] at hΦ; exact hΦ, fun r => absurd rfl r⟩, fun q => ?_⟩; by_cases r : (im.length : Int) ≤ w.Volume
  · rw [decide_eq_true r]
    exact ⟨fun _ => by rw [if_pos (.inr r)] at hΦ; exact hΦ, fun r => absurd rfl r⟩
  · rw [decide_eq_false r]; exact tail (by omega)
theorem q50 {im : List (List Sec)} (h : imgE im = 0) (k : Nat) (hk : k < im.length) : (ix im (k : Int)).length ≤ 4096 := by
  have := q145 h (k := k) (by rw [q15]; exact hk); rw [q88 hk] at this; omega
theorem q268 {im : List (List Sec)} {w : q10} {Φ : Int → Prop} (hd : w.Data.length ≤ 1000000) (h : imgE im = 0) (hΦ : Φ (fitW (szs im) w)) : q132 im w Φ := by
  have hl := q19 h; rw [q15] at hl; exact q40 (by omega) ⟨fun q => absurd h q, fun _ => q267 hd (fun k hk => Nat.le_trans (q50 h k hk) (by omega)) hΦ⟩
theorem q617 {l : List Int} {k : Nat} (h : k < l.length) : ((l.take (k + 1)).map newB) = (l.take k).map newB ++ [newB (ix l (k : Int))] := q27 newB h
theorem q311 {l : List Int} {Φ : List q9 × Int → Prop} (hl : l.length ≤ 100000) (hs : ∀ k : Nat, k < l.length → 0 ≤ ix l (k : Int) ∧ ix l (k : Int) ≤ 4096) (hΦ : Φ (l.map newB, 0)) : Z18 l Φ := by
  refine LoopW.upT l.length (fun k => ((k : Int), (l.take k).map newB)) rfl (fun k rec hk hrec => ?_) fun rec => ⟨fun q => absurd (show (l.length : Int) < (l.length : Int) from q) (by omega), fun _ => ?_⟩
  · refine ⟨fun _ => ⟨iX (by omega) (by omega), q439 (hs k hk).1 (hs k hk).2 ⟨fun q => absurd rfl q, fun _ => ⟨iL (by simp only [List.length_append, List.length_map, List.length_cons, List.length_nil]; rw [lenT (Nat.le_of_lt hk)]; omega) (by omega), iI (by omega) (by omega), hrec _ (Prod.ext rfl (q617 hk).symm)⟩⟩⟩, fun q => absurd (show (k : Int) < (l.length : Int) by omega) q⟩
  · rw [q31]; exact hΦ
def mark1 (d : List q9) (w : q10) : List q9 := put d w.Volume (setBm (ix d w.Volume) ⟨w.Start, (w.Data.length : Int)⟩).1
def markL (d : List q9) (l : List q10) : List q9 := l.foldl mark1 d
theorem q618 (d : List q9) {l : List q10} {k : Nat} (h : k < l.length) : markL d (l.take (k + 1)) = mark1 (markL d (l.take k)) (ix l (k : Int)) := by
  unfold markL; rw [q119 h, List.foldl_append]; rfl
def bmsE (d : List q9) (sizes : List Int) (k : Nat) : Int := if chkB (ix d (k : Int)) ≠ 0 then chkB (ix d (k : Int)) else if (ix d (k : Int)).Size ≠ ix sizes (k : Int) then 22 else 0
def bmsC (d : List q9) (sizes : List Int) : Int := if (d.length : Int) ≠ (sizes.length : Int) then 6 else q101 (bmsE d sizes) d.length
def peerE (t : q13) (k : Nat) : Int :=
  if (ix t.Peers (k : Int)).Site < 0 ∨ 4 ≤ (ix t.Peers (k : Int)).Site then 2 else if 0 < (k : Int) ∧ (ix t.Peers (k : Int)).Site ≤ (ix t.Peers ((k : Int) - 1)).Site then 8 else if (ix t.Peers (k : Int)).Common < 0 ∨ 1073741824 < (ix t.Peers (k : Int)).Common then 2 else bmsC (ix t.Peers (k : Int)).Dirty t.Sizes
def trkE (t : q13) : Int := if q25 t.Sizes ≠ 0 then q25 t.Sizes else if 4 < (t.Peers.length : Int) then 6 else q101 (peerE t) t.Peers.length
theorem q714 (op : BitVec 64 → BitVec 64 → BitVec 64) (f : Bool → Bool → Bool) (hf : ∀ a b j, j < 64 → (op a b).getLsbD j = f (a.getLsbD j) (b.getLsbD j)) {ws vs : List (BitVec 64)} (hl : ws.length = vs.length) {i : Nat} (hi : i < 64 * ws.length) : bitN (List.zipWith op ws vs) i = f (bitN ws i) (bitN vs i) := by
  have h1 : i / 64 < ws.length := by omega
  have h2 : i / 64 < vs.length := by omega
  unfold bitN; rw [List.getD_eq_getElem?_getD, q638 h1 h2, Option.getD_some, hf _ _ _ (Nat.mod_lt _ (by decide))]
theorem bit_or {ws vs : List (BitVec 64)} (hl : ws.length = vs.length) {i : Nat} (hi : i < 64 * ws.length) : bitN (List.zipWith (fun a b => a ||| b) ws vs) i = (bitN ws i || bitN vs i) := q714 _ (· || ·) (fun _ _ _ _ => BitVec.getLsbD_or) hl hi
theorem q286 {n : Int} {ws : List (BitVec 64)} : chk n ws = 0 ↔ 0 ≤ n ∧ n ≤ 4096 ∧ (ws.length : Int) = (n + 63) / 64 ∧ ∀ i : Nat, i < 64 * ws.length → n ≤ (i : Int) → bitN ws i = false :=
  ⟨fun h => q276.1 (q317 h), fun ⟨h1, h2, h3, h4⟩ => q800 h1 h2 h3 h4⟩
theorem chk_zip {op : BitVec 64 → BitVec 64 → BitVec 64} (f : Bool → Bool → Bool) (h0 : f false false = false) (hf : ∀ a b j, j < 64 → (op a b).getLsbD j = f (a.getLsbD j) (b.getLsbD j)) {n : Int} {ws vs : List (BitVec 64)} (h1 : chk n ws = 0) (h2 : chk n vs = 0) : chk n (List.zipWith op ws vs) = 0 := by
  obtain ⟨a1, a2, a3, a4⟩ := q286.1 h1; obtain ⟨_, _, b3, b4⟩ := q286.1 h2; have hl : ws.length = vs.length := by omega
  have hz : (List.zipWith op ws vs).length = ws.length := by rw [List.length_zipWith]; omega
  refine q286.2 ⟨a1, a2, by rw [hz]; exact a3, fun i hi hn => ?_⟩; rw [hz] at hi; rw [q714 op f hf hl hi, a4 i hi hn, b4 i (by omega) hn, h0]
def cov (es : List (Int × Int)) (i : Int) : Prop := ∃ e ∈ es, e.1 ≤ i ∧ i < e.1 + e.2
theorem q778 {n : Int} {ws : List (BitVec 64)} {s c : Int} (h : chk n ws = 0) (hf : fitsB s c n = true) : chk n (chW true ws s (s + c)) = 0 := by
  obtain ⟨a1, a2, a3, a4⟩ := q286.1 h; have hff := q183.1 hf; refine q286.2 ⟨a1, a2, by rw [q89]; exact a3, fun i hi hn => ?_⟩; rw [q89] at hi; rw [q631 true ws _ _ i hi, if_neg (by omega)]; exact a4 i hi hn
theorem chk_new {n : Int} (h1 : 0 ≤ n) (h2 : n ≤ 4096) : chk n (List.replicate ((n + 63) / 64).toNat 0#64) = 0 := by
  refine q286.2 ⟨h1, h2, by rw [List.length_replicate]; omega, fun i hi _ => ?_⟩; rw [List.length_replicate] at hi; unfold bitN; rw [List.getD_eq_getElem?_getD, List.getElem?_replicate]
  split <;> simp
theorem bit_new {m i : Nat} : bitN (List.replicate m 0#64) i = false := by
  unfold bitN; rw [List.getD_eq_getElem?_getD, List.getElem?_replicate]
  split <;> simp
theorem q779 {x : Int} : ∀ {l : List Int}, (∀ y ∈ l, x ≤ y) → insZ x l = x :: l
  | [], _ => rfl
  | y :: r, h => by unfold insZ; rw [if_pos (h y List.mem_cons_self)]
theorem q484 : ∀ {l : List Int}, l.Pairwise (fun a b => a < b) → sortZ l = l
  | [], _ => rfl
  | x :: r, h => by
    have h1 := List.pairwise_cons.1 h; show insZ x (sortZ r) = _; rw [q484 h1.2]; exact q779 fun y hy => Int.le_of_lt (h1.1 y hy)
theorem q715 : ∀ {l m : List Int}, l.Pairwise (fun a b => a < b) → m.Pairwise (fun a b => a < b) → (∀ x, x ∈ l ↔ x ∈ m) → l = m
  | [], [], _, _, _ => rfl
  | [], y :: m, _, _, h => absurd ((h y).2 List.mem_cons_self) List.not_mem_nil
  | x :: l, [], _, _, h => absurd ((h x).1 List.mem_cons_self) List.not_mem_nil
  | x :: l, y :: m, h1, h2, h => by
    have a := List.pairwise_cons.1 h1; have b := List.pairwise_cons.1 h2
    have e : x = y := by
      rcases List.mem_cons.1 ((h x).1 List.mem_cons_self) with p | p
      · exact p
      · rcases List.mem_cons.1 ((h y).2 List.mem_cons_self) with q | q
        · exact q.symm
        · have := b.1 x p; have := a.1 y q; omega
    subst e
    congr 1
    refine q715 a.2 b.2 fun z => ⟨fun hz => ?_, fun hz => ?_⟩
    · rcases List.mem_cons.1 ((h z).1 (List.mem_cons_of_mem _ hz)) with e | e
      · subst e; have := a.1 z hz; omega
      · exact e
    · rcases List.mem_cons.1 ((h z).2 (List.mem_cons_of_mem _ hz)) with e | e
      · subst e; have := b.1 z hz; omega
      · exact e
theorem q780 {l : List Int} (h : l.Nodup) : (sortZ l).Pairwise (fun a b => a < b) := by
  have h1 : (sortZ l).Nodup := (q210 l).nodup_iff.2 h; exact ((q193 l).and h1).imp fun q => by have := q.1; have := q.2; omega
theorem q716 {l : List Int} {x : Int} : x ∈ sortZ l ↔ x ∈ l := (q210 l).mem_iff
theorem q593 {b : q9} {e : q8} (h : chkB b = 0) (hf : fitsB e.Start e.Count b.Size = true) : (setBm b e).2 = 0 ∧ chkB (setBm b e).1 = 0 ∧ (setBm b e).1.Size = b.Size ∧ ∀ i : Nat, (i : Int) < b.Size → (bitN (setBm b e).1.Words i = true ↔ bitN b.Words i = true ∨ (e.Start ≤ (i : Int) ∧ (i : Int) < e.Start + e.Count)) := by
  have hw := q110 (b := b) (by simpa using h)
  have e1 : setBm b e = (⟨b.Size, chW true b.Words e.Start (e.Start + e.Count)⟩, 0) := by
    unfold setBm; rw [q801 (by simpa [chkB] using h) hf]; rfl
  rw [e1]; refine ⟨rfl, q778 h hf, rfl, fun i hi => ?_⟩; show bitN (chW true b.Words e.Start (e.Start + e.Count)) i = true ↔ _; rw [q631 _ _ _ _ _ (by omega)]; by_cases hc : e.Start ≤ (i : Int) ∧ (i : Int) < e.Start + e.Count
  · rw [if_pos hc]; exact ⟨fun _ => .inr hc, fun _ => rfl⟩
  · rw [if_neg hc]; exact ⟨fun z => .inl z, fun z => z.resolve_right hc⟩
theorem q717 {n : Int} (h0 : 0 ≤ n) (h1 : n ≤ 4096) : chkB (newB n) = 0 ∧ ∀ i, bitN (newB n).Words i = false := ⟨chk_new h0 h1, fun _ => bit_new⟩
def covT (w : q10) (v i : Nat) : Prop := w.Volume = (v : Int) ∧ w.Start ≤ (i : Int) ∧ (i : Int) < w.Start + (w.Data.length : Int)
structure BmsOk (sizes : List Int) (d : List q9) : Prop where
  len : d.length = sizes.length
  chk : ∀ v : Nat, v < sizes.length → chkB (ix d (v : Int)) = 0 ∧ (ix d (v : Int)).Size = ix sizes (v : Int)
structure q357 (sizes : List Int) (d : List q9) (P : Nat → Nat → Prop) : Prop extends BmsOk sizes d where
  bit : ∀ v i : Nat, v < sizes.length → (i : Int) < ix sizes (v : Int) → (bitN (ix d (v : Int)).Words i = true ↔ P v i)
theorem q619 {b : q9} (h : chkB b = 0) : b.Words.length ≤ 1000 := by
  have := q110 (b := b) (by simpa using h); omega
theorem BmsOk.words {sizes : List Int} {d : List q9} (h : BmsOk sizes d) : ∀ b ∈ d, chkB b = 0 ∧ b.Words.length ≤ 1000 := fun b hb => by
  obtain ⟨k, hk, rfl⟩ := List.getElem_of_mem hb; have := (h.chk k (by have := h.len; omega)).1; rw [q34 hk] at this; exact ⟨this, q619 this⟩
theorem q594 {sizes : List Int} {v : Nat} (hv : v < sizes.length) : ix (sizes.map newB) (v : Int) = newB (ix sizes (v : Int)) := by
  rw [q34 (by rw [List.length_map]; exact hv), List.getElem_map, q34 hv]
theorem q61 {sizes : List Int} (hs : q25 sizes = 0) : q357 sizes (sizes.map newB) (fun _ _ => False) := by
  refine ⟨⟨List.length_map _, fun v hv => ?_⟩, fun v i hv _ => ?_⟩
  · have := q145 hs hv
    rw [q594 hv]; exact ⟨(q717 (by omega) (by omega)).1, rfl⟩
  · have := q145 hs hv
    rw [q594 hv, (q717 (by omega) (by omega)).2 i]; simp
theorem q324 {sizes : List Int} {w : q10} (h : fitW sizes w = 0) : ∃ v : Nat, w.Volume = (v : Int) ∧ v < sizes.length ∧ 0 ≤ w.Start ∧ 1 ≤ (w.Data.length : Int) ∧ w.Start + (w.Data.length : Int) ≤ ix sizes (v : Int) := by
  unfold fitW at h
  split at h
  · omega
  split at h
  · omega
  split at h
  · omega
  rename_i a b c; refine ⟨w.Volume.toNat, by omega, by omega, by omega, by omega, ?_⟩; rw [show ((w.Volume.toNat : Nat) : Int) = w.Volume by omega]; omega
theorem q400 {sizes : List Int} {d : List q9} (h : BmsOk sizes d) {w : q10} (hw : fitW sizes w = 0) : fitsB w.Start (w.Data.length : Int) (ix d w.Volume).Size = true := by
  obtain ⟨v, hv, hl, h0, h1, h2⟩ := q324 hw; rw [hv, (h.chk v hl).2]; exact q183.2 ⟨by omega, by omega, by omega, by omega⟩
theorem q718 {sizes : List Int} {d : List q9} (h : BmsOk sizes d) {w : q10} (hw : fitW sizes w = 0) : (setBm (ix d w.Volume) ⟨w.Start, (w.Data.length : Int)⟩).2 = 0 := by
  obtain ⟨v, hv, hl, h0, h1, h2⟩ := q324 hw; have hf := q400 h hw; rw [hv] at hf ⊢; exact (q593 (e := ⟨w.Start, (w.Data.length : Int)⟩) (h.chk v hl).1 hf).1
theorem q719 {α : Type} [Dt α] (xs : List α) {k : Nat} (x : α) (hk : k < xs.length) (j : Nat) : ix (put xs (k : Int) x) (j : Int) = if j = k then x else ix xs (j : Int) := by
  show (xs.set k x).getD j default = _; rw [List.getD_eq_getElem?_getD, List.getElem?_set]; by_cases h : k = j
  · subst h; rw [if_pos rfl, if_pos rfl, if_pos hk]; rfl
  · rw [if_neg h, if_neg (Ne.symm h)]; rw [← List.getD_eq_getElem?_getD]; rfl
theorem q358 {sizes : List Int} {d : List q9} {P : Nat → Nat → Prop} (h : q357 sizes d P) {w : q10} (hw : fitW sizes w = 0) : q357 sizes (mark1 d w) (fun v i => P v i ∨ covT w v i) := by
  obtain ⟨v0, hv, hl, h0, h1, h2⟩ := q324 hw; have hf := q400 h.toBmsOk hw; have hlen := h.len; rw [hv] at hf; obtain ⟨s1, s2, s3, s4⟩ := q593 (e := ⟨w.Start, (w.Data.length : Int)⟩) (h.chk v0 hl).1 hf
  have e : ∀ v : Nat, ix (mark1 d w) (v : Int) = if v = v0 then (setBm (ix d (v0 : Int)) ⟨w.Start, (w.Data.length : Int)⟩).1 else ix d (v : Int) := fun v => by
    unfold mark1; rw [hv, q719 _ _ (by omega)]
  have c2 := (h.chk v0 hl).2; refine ⟨⟨(q185 _ _ _).trans hlen, fun v hv' => ?_⟩, fun v i hv' hi => ?_⟩
  · rw [e v]
    by_cases hc : v = v0
    · subst hc; rw [if_pos rfl]; exact ⟨s2, s3.trans c2⟩
    · rw [if_neg hc]; exact h.chk v hv'
  · rw [e v]
    by_cases hc : v = v0
    · subst hc
      rw [if_pos rfl, s4 i (by rw [c2]; exact hi), h.bit v i hv' hi]; exact or_congr Iff.rfl ⟨fun q => ⟨hv, q.1, q.2⟩, fun q => ⟨q.2.1, q.2.2⟩⟩
    · rw [if_neg hc, h.bit v i hv' hi]
      exact ⟨fun q => .inl q, fun q => q.resolve_right fun z => hc (by have := z.1; omega)⟩
theorem q781 {sizes : List Int} {d : List q9} (h : BmsOk sizes d) {w : q10} (hw : fitW sizes w = 0) : BmsOk sizes (mark1 d w) :=
  (q358 (P := fun v i => bitN (ix d (v : Int)).Words i = true) ⟨h, fun _ _ _ _ => Iff.rfl⟩ hw).toBmsOk
theorem q214 {sizes : List Int} : ∀ {l : List q10} {d : List q9}, BmsOk sizes d → (∀ w ∈ l, fitW sizes w = 0) → BmsOk sizes (markL d l)
  | [], _, h, _ => h
  | w :: l, d, h, hf => q214 (l := l) (d := mark1 d w) (q781 h (hf w List.mem_cons_self)) fun x hx => hf x (List.mem_cons_of_mem _ hx)
theorem q235 {sizes : List Int} : ∀ {l : List q10} {d : List q9} {P : Nat → Nat → Prop}, q357 sizes d P → (∀ w ∈ l, fitW sizes w = 0) → q357 sizes (markL d l) (fun v i => P v i ∨ ∃ w ∈ l, covT w v i)
  | [], d, P, h, _ => ⟨h.toBmsOk, fun v i hv hi => (h.bit v i hv hi).trans ⟨.inl, fun q => q.resolve_right fun ⟨w, hw, _⟩ => absurd hw List.not_mem_nil⟩⟩
  | w :: l, d, P, h, hf => by
    have := q235 (l := l) (q358 h (hf w List.mem_cons_self)) fun x hx => hf x (List.mem_cons_of_mem _ hx); refine ⟨this.toBmsOk, fun v i hv hi => (this.bit v i hv hi).trans ?_⟩; constructor
    · rintro ((q | q) | ⟨x, hx, q⟩)
      · exact .inl q
      · exact .inr ⟨w, List.mem_cons_self, q⟩
      · exact .inr ⟨x, List.mem_cons_of_mem _ hx, q⟩
    · rintro (q | ⟨x, hx, q⟩)
      · exact .inl (.inl q)
      · rcases List.mem_cons.1 hx with rfl | hx
        · exact .inl (.inr q)
        · exact .inr ⟨x, hx, q⟩
structure TrkOk (t : q13) : Prop where
  hs : q25 t.Sizes = 0
  n4 : t.Peers.length ≤ 4
  bms : ∀ k : Nat, k < t.Peers.length → BmsOk t.Sizes (ix t.Peers (k : Int)).Dirty
  site : ∀ k : Nat, k < t.Peers.length → 0 ≤ (ix t.Peers (k : Int)).Site ∧ (ix t.Peers (k : Int)).Site < 4
  com : ∀ k : Nat, k < t.Peers.length → 0 ≤ (ix t.Peers (k : Int)).Common ∧ (ix t.Peers (k : Int)).Common ≤ 1073741824
  asc : ∀ i j : Nat, i < j → j < t.Peers.length → (ix t.Peers (i : Int)).Site < (ix t.Peers (j : Int)).Site
theorem q720 {d : List q9} {sizes : List Int} (h : bmsC d sizes = 0) : BmsOk sizes d := by
  unfold bmsC at h
  split at h
  · omega
  · rename_i hl
    refine ⟨by omega, fun v hv => ?_⟩; have := q46.1 h v (by omega); unfold bmsE at this
    split at this
    · rename_i q; exact absurd this q
    · rename_i q
      split at this
      · omega
      · rename_i q2; exact ⟨Classical.not_not.1 q, Classical.not_not.1 q2⟩
theorem bmsC_of {d : List q9} {sizes : List Int} (h : BmsOk sizes d) : bmsC d sizes = 0 := by
  have hl := h.len; unfold bmsC; rw [if_neg (by omega)]; refine q46.2 fun k hk => ?_; have := h.chk k (by omega); unfold bmsE; rw [if_neg (fun q => q this.1), if_neg (fun q => q this.2)]
theorem q826 {t : q13} (h : trkE t = 0) : TrkOk t := by
  unfold trkE at h
  split at h
  · rename_i q; exact absurd h q
  rename_i q
  split at h
  · omega
  have hz := q46.1 h
  have pk : ∀ k : Nat, k < t.Peers.length → (0 ≤ (ix t.Peers (k : Int)).Site ∧ (ix t.Peers (k : Int)).Site < 4) ∧ ¬ (0 < (k : Int) ∧ (ix t.Peers (k : Int)).Site ≤ (ix t.Peers ((k : Int) - 1)).Site) ∧ (0 ≤ (ix t.Peers (k : Int)).Common ∧ (ix t.Peers (k : Int)).Common ≤ 1073741824) ∧ bmsC (ix t.Peers (k : Int)).Dirty t.Sizes = 0 := fun k hk => by
    have := hz k hk; unfold peerE at this
    split at this
    · omega
    split at this
    · omega
    split at this
    · omega
    rename_i n1 n2 n3; exact ⟨by omega, n2, by omega, this⟩
  refine ⟨Classical.not_not.1 q, by omega, fun k hk => q720 (pk k hk).2.2.2, fun k hk => (pk k hk).1, fun k hk => (pk k hk).2.2.1, fun i j hij hj => ?_⟩
  induction j with
  | zero => omega
  | succ j ih =>
    have h1 := (pk (j + 1) hj).2.1; rw [show ((j + 1 : Nat) : Int) - 1 = (j : Int) by omega] at h1; rcases Nat.lt_or_ge i j with h2 | h2
    · have := ih h2 (by omega); omega
    · have : i = j := by omega
      subst this; omega
theorem q827 {t : q13} (h : TrkOk t) : trkE t = 0 := by
  have h4 := h.n4; unfold trkE; rw [if_neg (fun q => q h.hs), if_neg (by omega)]; refine q46.2 fun k hk => ?_; have h1 := h.site k hk; have h2 := h.com k hk; unfold peerE; rw [if_neg (by omega), if_neg, if_neg (by omega)]
  · exact bmsC_of (h.bms k hk)
  · rintro ⟨q1, q2⟩
    obtain ⟨j, rfl⟩ : ∃ j, k = j + 1 := ⟨k - 1, by omega⟩
    have := h.asc j (j + 1) (by omega) hk; rw [show ((j + 1 : Nat) : Int) - 1 = (j : Int) by omega] at q2; omega
theorem q782 {l : List Int} (h : ¬ q25 l ≠ 0) : l.length ≤ 8 ∧ 1 ≤ l.length ∧ ∀ k : Nat, k < l.length → 1 ≤ ix l (k : Int) ∧ ix l (k : Int) ≤ 4096 := by
  have h0 := Classical.not_not.1 h; unfold q25 at h0
  split at h0
  · omega
  · refine ⟨by omega, by omega, fun k hk => ?_⟩
    have := q46.1 h0 k hk
    split at this <;> omega
theorem q485 {sizes : List Int} {w : q10} (hs : ¬ q25 sizes ≠ 0) (h : fitW sizes w = 0) : 0 ≤ w.Volume ∧ w.Volume < (sizes.length : Int) ∧ 1 ≤ w.Data.length ∧ 0 ≤ w.Start ∧ w.Start + (w.Data.length : Int) ≤ ix sizes w.Volume ∧ ix sizes w.Volume ≤ 4096 := by
  unfold fitW at h
  split at h
  · omega
  split at h
  · omega
  split at h
  · omega
  obtain ⟨v, hv⟩ := Int.eq_ofNat_of_zero_le (show 0 ≤ w.Volume by omega); have hz := (q782 hs).2.2 v (by omega); rw [← hv] at hz; omega
theorem q828 {α : Type} [Dt α] (xs : List α) {i j : Nat} (x : α) (hi : i < xs.length) : ix (put xs (i : Int) x) (j : Int) = if j = i then x else ix xs (j : Int) := by
  show (xs.set i x).getD j default = if j = i then x else xs.getD j default; rw [List.getD_eq_getElem?_getD, List.getD_eq_getElem?_getD]; by_cases h : j = i
  · subst h; rw [List.getElem?_set_self hi, if_pos rfl]; rfl
  · rw [List.getElem?_set_ne (by omega), if_neg h]
theorem q783 {α : Type} [Dt α] {xs ys : List α} {s i : Nat} (h : s + ys.length ≤ xs.length) : ix (paste xs (s : Int) ys) (i : Int) = if s ≤ i ∧ i < s + ys.length then ix ys ((i : Int) - (s : Int)) else ix xs (i : Int) := by
  show (paste xs (s : Int) ys).getD i default = if _ then ys.getD ((i : Int) - (s : Int)).toNat default else xs.getD i default; unfold paste; rw [Int.toNat_natCast, List.getD_eq_getElem?_getD, List.getD_eq_getElem?_getD, List.getD_eq_getElem?_getD]; have e1 : (xs.take s).length = s := by rw [List.length_take]; omega
  have e2 : ys.take (xs.length - s) = ys := List.take_of_length_le (by omega); have e3 : min ys.length (xs.length - s) = ys.length := by omega
  rw [e2, e3]; by_cases h1 : i < s
  · rw [if_neg (by omega), List.getElem?_append_left (by omega), List.getElem?_take_of_lt h1]
  · by_cases h2 : i < s + ys.length
    · rw [if_pos (by omega), List.getElem?_append_right (by omega), e1, List.getElem?_append_left (by omega), show ((i : Int) - (s : Int)).toNat = i - s by omega]
    · rw [if_neg (by omega), List.getElem?_append_right (by omega), e1, List.getElem?_append_right (by omega), List.getElem?_drop]
      congr 2
      omega
theorem paste_len' {α : Type} {xs ys : List α} {s : Nat} (h : s ≤ xs.length) : (paste xs (s : Int) ys).length = xs.length := q242 ⟨by omega, by omega, by omega⟩
def q198 (im : List (List Sec)) (w : q10) : List (List Sec) := put im w.Volume (paste (ix im w.Volume) w.Start w.Data)
def appL (im : List (List Sec)) (l : List q10) : List (List Sec) := l.foldl q198 im
theorem q721 (im : List (List Sec)) (l : List q10) (w : q10) : appL im (l ++ [w]) = q198 (appL im l) w := by unfold appL; rw [List.foldl_append]; rfl
structure FitW (sizes : List Int) (w : q10) (v s : Nat) : Prop where
  vol : w.Volume = (v : Int)
  start : w.Start = (s : Int)
  hv : v < sizes.length
  len : 1 ≤ w.Data.length
  le : ((s + w.Data.length : Nat) : Int) ≤ ix sizes (v : Int)
  top : ix sizes (v : Int) ≤ 4096
theorem q287 {sizes : List Int} {w : q10} (hs : ¬ q25 sizes ≠ 0) (h : fitW sizes w = 0) : ∃ v s : Nat, FitW sizes w v s := by
  have := q485 hs h; obtain ⟨v, hv⟩ := Int.eq_ofNat_of_zero_le this.1; obtain ⟨s, hst⟩ := Int.eq_ofNat_of_zero_le this.2.2.2.1; rw [hv, hst] at this; exact ⟨v, s, hv, hst, by omega, by omega, by omega, by omega⟩
theorem q288 {im : List (List Sec)} {w : q10} {v s : Nat} (h : FitW (szs im) w v s) : szs (q198 im w) = szs im := by
  have hv := h.hv; rw [q15] at hv; have hle := h.le; rw [q88 hv] at hle; unfold q198; rw [h.vol, h.start]; refine q303 (by rw [q15, q15, q185]) fun k hk => ?_; rw [q15, q185] at hk; rw [q88 (by rw [q185]; exact hk), q88 hk, q828 _ _ hv]; by_cases hkv : k = v
  · rw [if_pos hkv, paste_len' (by omega), hkv]
  · rw [if_neg hkv]
theorem q169 {im : List (List Sec)} (hs : ¬ q25 (szs im) ≠ 0) : ∀ {l : List q10}, (∀ w ∈ l, fitW (szs im) w = 0) → szs (appL im l) = szs im := by
  intro l
  induction l generalizing im with
  | nil => intro _; rfl
  | cons w l ih =>
    intro h; obtain ⟨v, s, hw⟩ := q287 hs (h w (List.mem_cons_self ..)); have e := q288 hw; show szs (appL (q198 im w) l) = _; rw [ih (by rw [e]; exact hs) fun x hx => by rw [e]; exact h x (List.mem_cons_of_mem _ hx), e]
def sec (im : List (List Sec)) (v i : Nat) : Sec := ix (ix im (v : Int)) (i : Int)
def covW (w : q10) (v i : Nat) : Prop := w.Volume = (v : Int) ∧ w.Start ≤ (i : Int) ∧ (i : Int) < w.Start + (w.Data.length : Int)
instance (w : q10) (v i : Nat) : Decidable (covW w v i) := by unfold covW; infer_instance
theorem q401 {im : List (List Sec)} {w : q10} {v0 s0 : Nat} (h : FitW (szs im) w v0 s0) (v i : Nat) : sec (q198 im w) v i = if covW w v i then ix w.Data ((i : Int) - w.Start) else sec im v i := by
  have hv := h.hv; rw [q15] at hv; have hle := h.le; rw [q88 hv] at hle; have h1 := h.vol; have h2 := h.start; have hc : covW w v i ↔ v = v0 ∧ s0 ≤ i ∧ i < s0 + w.Data.length := by unfold covW; omega
  have e : sec (q198 im w) v i = ix (if v = v0 then paste (ix im (v0 : Int)) (s0 : Int) w.Data else ix im (v : Int)) (i : Int) := by
    unfold sec q198; rw [h1, h2, q828 _ _ hv]
  rw [e]; by_cases hkv : v = v0
  · rw [if_pos hkv, q783 (by omega)]
    subst hkv; by_cases hq : s0 ≤ i ∧ i < s0 + w.Data.length
    · rw [if_pos hq, if_pos (hc.2 ⟨rfl, hq⟩), h2]
    · rw [if_neg hq, if_neg (fun q => hq (hc.1 q).2)]; rfl
  · rw [if_neg hkv, if_neg (fun q => hkv (hc.1 q).1)]; rfl
theorem q595 {v i : Nat} : ∀ {l : List q10} {im : List (List Sec)}, ¬ q25 (szs im) ≠ 0 → (∀ w ∈ l, fitW (szs im) w = 0) → (∀ w ∈ l, ¬ covW w v i) → sec (appL im l) v i = sec im v i := by
  intro l
  induction l with
  | nil => intro im _ _ _; rfl
  | cons w l ih =>
    intro im hs h hn; obtain ⟨v0, s0, hw⟩ := q287 hs (h w (List.mem_cons_self ..)); have e := q288 hw; show sec (appL (q198 im w) l) v i = _; rw [ih (by rw [e]; exact hs) (fun x hx => by rw [e]; exact h x (List.mem_cons_of_mem _ hx)) fun x hx => hn x (List.mem_cons_of_mem _ hx), q401 hw, if_neg (hn w (List.mem_cons_self ..))]
theorem q784 {b : List (List Sec)} {v i : Nat} : ∀ {l : List q10} {im : List (List Sec)}, ¬ q25 (szs im) ≠ 0 → (∀ w ∈ l, fitW (szs im) w = 0) → (∀ w ∈ l, covW w v i → ix w.Data ((i : Int) - w.Start) = sec b v i) → (∃ w ∈ l, covW w v i) ∨ sec im v i = sec b v i → sec (appL im l) v i = sec b v i := by
  intro l
  induction l with
  | nil =>
    intro im _ _ _ h; rcases h with ⟨w, hw, _⟩ | h
    · exact absurd hw List.not_mem_nil
    · exact h
  | cons w l ih =>
    intro im hs h hd hc; obtain ⟨v0, s0, hw⟩ := q287 hs (h w (List.mem_cons_self ..)); have e := q288 hw; refine ih (im := q198 im w) (by rw [e]; exact hs) (fun x hx => by rw [e]; exact h x (List.mem_cons_of_mem _ hx)) (fun x hx => hd x (List.mem_cons_of_mem _ hx)) ?_; rw [q401 hw]; by_cases hcw : covW w v i
    · right; rw [if_pos hcw]; exact hd w (List.mem_cons_self ..) hcw
    · rw [if_neg hcw]
      rcases hc with ⟨x, hx, hcx⟩ | hc
      · rcases List.mem_cons.1 hx with rfl | hx
        · exact absurd hcx hcw
        · exact .inl ⟨x, hx, hcx⟩
      · exact .inr hc
theorem im_ext {a b : List (List Sec)} (hs : szs a = szs b) (h : ∀ v i : Nat, v < a.length → i < (ix a (v : Int)).length → sec a v i = sec b v i) : a = b := by
  have hl : a.length = b.length := by rw [← q15 a, ← q15 b, hs]
  refine q303 hl fun v hv => q303 ?_ fun i hi => h v i hv hi; have : ix (szs a) (v : Int) = ix (szs b) (v : Int) := by rw [hs]
  rw [q88 hv, q88 (by omega)] at this; omega
theorem q596 {l : List Int} {w : q10} (hs : q25 l = 0) (h : fitW l w = 0) : w.Data.length ≤ 4096 := by
  have := q485 (by omega) h; omega
theorem q122 {l : List Sec} {Φ : List Sec → Prop} (hl : l.length ≤ 1000000) (hΦ : Φ l) : Z5 l Φ :=
  ⟨fun h => (by subst h; exact hΦ), iL hl (by omega), hΦ⟩
theorem q175 {im : List (List Sec)} {Φ : List (List Sec) → Prop} (h : imgE im = 0) (hΦ : Φ im) : Z8 im Φ := by
  have hl := q19 h; rw [q15] at hl; refine ⟨by omega, iL (by omega) (by omega), ?_⟩; refine LoopW.upT im.length (fun k => (im.take k, (k : Int))) rfl (fun k rec hk hr => ?_) fun rec => ⟨fun _ => by omega, fun _ => by rw [q31]; exact hΦ⟩
  have := q50 h k hk; refine ⟨fun _ => ⟨iX (by omega) (by omega), q122 (by omega) ⟨iL (by rw [q93, lenT (by omega)]; omega) (by omega), iI (by omega) (by omega), hr _ (by rw [q119 hk]; rfl)⟩⟩, fun _ => by omega⟩
theorem q486 {im : List (List Sec)} {l : List q10} {k : Nat} (h : k < l.length) : appL im (l.take (k + 1)) = q198 (appL im (l.take k)) (ix l (k : Int)) := by rw [q119 h, q721]
theorem q722 {im : List (List Sec)} {l : List q10} (hs : imgE im = 0) (hf : ∀ w ∈ l, fitW (szs im) w = 0) (k : Nat) : szs (appL im (l.take k)) = szs im := q169 (by rw [show q25 (szs im) = 0 from hs]; simp) fun w hw => hf w (List.mem_of_mem_take hw)
theorem q138 {im : List (List Sec)} {l : List q10} {Φ : List (List Sec) × Int × Int → Prop} (hl : l.length ≤ 1000000) (hs : imgE im = 0) (hf : ∀ w ∈ l, fitW (szs im) w = 0) (hΦ : Φ (appL im l, 0, 0)) : q39 im l Φ := by
  have h8 := q19 hs; rw [q15] at h8; refine q40 (by omega) ⟨fun q => absurd hs q, fun _ => q175 hs ?_⟩; refine LoopW.upT l.length (fun k => (appL im (l.take k), (k : Int))) rfl (fun k rec hk hr => ?_) fun rec => ⟨fun _ => by omega, fun _ => by rw [q31]; exact hΦ⟩
  have hw := hf _ (q45 (iX (i := (k : Int)) (n := l.length) (by omega) (by omega))); have e := q722 hs hf k; have hs' : imgE (appL im (l.take k)) = 0 := by unfold imgE; rw [e]; exact hs
  obtain ⟨v, s, hfw⟩ := q287 (by rw [show q25 (szs im) = 0 from hs]; simp) hw; have hv := hfw.hv; have hle := hfw.le; rw [← e, q15] at hv; rw [← e, q88 hv] at hle; refine ⟨fun _ => ⟨iX (by omega) (by omega), q267 (by have := q596 (show q25 (szs im) = 0 from hs) hw; omega) (fun j hj => Nat.le_trans (q50 hs' j hj) (by omega)) ?_⟩, fun _ => by omega⟩; rw [e, hw]; refine ⟨fun q => absurd rfl q, fun _ => ?_⟩; refine ⟨by rw [hfw.vol]; exact iX (by omega) (by omega), by rw [hfw.vol, hfw.start]; exact iS (by omega) (by omega) (by omega), iI (by omega) (by omega), hr _ (by rw [q486 hk]; rfl)⟩
theorem q236 {x lo hi : Int} {Φ : Bool → Prop} (h : Φ (decide (lo ≤ x ∧ x ≤ hi))) : q143 x lo hi Φ := by
  refine ⟨fun q => ?_, fun q => ?_⟩
  · rw [show decide (lo ≤ x ∧ x ≤ hi) = decide (x ≤ hi) from by simp [q]] at h; exact h
  · rw [show decide (lo ≤ x ∧ x ≤ hi) = false from decide_eq_false fun r => q r.1] at h; exact h
def fewL (l : List q10) : Bool := decide (l.length ≤ 40 ∧ ∀ w ∈ l, w.Data.length ≤ 24)
theorem q487 {l : List q10} {Φ : Bool → Prop} (hΦ : Φ (fewL l)) : q158 l Φ := by
  have h0 : ¬ (l.length ≤ 40 ∧ ∀ w ∈ l, w.Data.length ≤ 24) → Φ false := fun q => by
    unfold fewL at hΦ; rw [decide_eq_false q] at hΦ; exact hΦ
  have h1 : (l.length ≤ 40 ∧ ∀ w ∈ l, w.Data.length ≤ 24) → Φ true := fun q => by
    unfold fewL at hΦ; rw [decide_eq_true q] at hΦ; exact hΦ
  refine LoopW.upI (min l.length 60) (fun k => (k : Int)) (fun k => ∀ j : Nat, j < k → (ix l (j : Int)).Data.length ≤ 24) rfl (fun j hj => absurd hj (Nat.not_lt_zero j)) (fun k rec hk hI hr => ?_) fun rec hI => ?_
  · refine ⟨fun _ => ?_, fun q => by omega⟩
    rw [decide_eq_true (show (k : Int) < 60 by omega)]; refine ⟨fun _ => ⟨iX (by omega) (by omega), fun q => h0 fun r => ?_, fun q => ⟨iI (by omega) (by omega), hr (fun j hj => ?_) _ rfl⟩⟩, fun q => absurd rfl q⟩
    · have := r.2 _ (q45 (iX (i := (k : Int)) (n := l.length) (by omega) (by omega)))
      omega
    · rcases Nat.lt_or_ge j k with h2 | h2
      · exact hI j h2
      · obtain rfl : j = k := by omega
        omega
  · have fin : Φ (decide ((l.length : Int) ≤ 40)) := by
      by_cases q : l.length ≤ 40
      · rw [decide_eq_true (by omega)]
        refine h1 ⟨q, fun w hw => ?_⟩; obtain ⟨k, hk, rfl⟩ := List.getElem_of_mem hw; have := hI k (by omega); rwa [q34 hk] at this
      · rw [decide_eq_false (by omega)]; exact h0 fun r => q r.1
    refine ⟨fun q => ?_, fun _ => ⟨fun r => Bool.noConfusion r, fun _ => fin⟩⟩; rw [decide_eq_false (show ¬ (((min l.length 60 : Nat) : Int) < 60) by omega)]; exact ⟨fun r => Bool.noConfusion r, fun _ => fin⟩
theorem q304 {l : List q10} {Φ : Bool → Prop} (h0 : Φ false) (h1 : l.length ≤ 40 → (∀ w ∈ l, w.Data.length ≤ 24) → Φ true) : q158 l Φ := by
  refine q487 ?_; unfold fewL; by_cases q : l.length ≤ 40 ∧ ∀ w ∈ l, w.Data.length ≤ 24
  · rw [decide_eq_true q]; exact h1 q.1 q.2
  · rw [decide_eq_false q]; exact h0
def posE (l : List Int) : Int := q101 (fun k => if ix l (k : Int) < 0 ∨ 1073741824 < ix l (k : Int) then 2 else 0) l.length
def posR (least : Int) (l : List Int) : Int := if (l.length : Int) < least ∨ 8 < (l.length : Int) then 6 else posE l
theorem q269 {l : List Int} {least : Int} {Φ : Int → Prop} (hl : l.length ≤ 100000) (hΦ : Φ (posR least l)) : Z111 l least Φ := by
  refine q236 ⟨fun q => ?_, fun q => ?_⟩
  · have := of_decide_eq_false (Bool.eq_false_iff.2 q)
    unfold posR at hΦ; rw [if_pos (by omega)] at hΦ; exact hΦ
  · have := of_decide_eq_true (Classical.not_not.1 q)
    unfold posR at hΦ; rw [if_neg (by omega)] at hΦ; refine LoopW.errI l.length (fun k => (k : Int)) _ rfl hΦ (fun k rec hk _ h1 h2 => ?_) fun rec _ h0 => ⟨fun _ => by omega, fun _ => ⟨fun _ => by omega, fun _ => h0⟩⟩
    refine ⟨fun _ => ⟨iX (by omega) (by omega), q236 ⟨fun r => ?_, fun r => ?_⟩⟩, fun _ => by omega⟩
    · have r := of_decide_eq_true r
      have r : ¬ (0 ≤ ix l (k : Int) ∧ ix l (k : Int) ≤ 1073741824) := fun t => r (decide_eq_true t); have c : ix l (k : Int) < 0 ∨ 1073741824 < ix l (k : Int) := by omega
      have := h1 (by rw [if_pos c]; omega); rw [if_pos c] at this; exact ⟨fun _ => this, fun s => by omega⟩
    · have r : ¬ ¬ (decide (0 ≤ ix l (k : Int) ∧ ix l (k : Int) ≤ 1073741824) = true) := fun t => r (decide_eq_true t)
      have r := of_decide_eq_true (Classical.not_not.1 r); exact ⟨iI (by omega) (by omega), h2 (if_neg (by omega)) _ rfl⟩
def ordW (sizes : List Int) (l : List q10) (k : Nat) : Int :=
  if fitW sizes (ix l (k : Int)) ≠ 0 then fitW sizes (ix l (k : Int)) else if k = 0 then 0 else if (ix l (k : Int)).Volume < (ix l ((k : Int) - 1)).Volume ∨ ((ix l (k : Int)).Volume = (ix l ((k : Int) - 1)).Volume ∧ (ix l (k : Int)).Start ≤ (ix l ((k : Int) - 1)).Start + ((ix l ((k : Int) - 1)).Data.length : Int)) then 3 else 0
def wrsE (sizes : List Int) (l : List q10) : Int := q101 (ordW sizes l) l.length
theorem q785 {sizes : List Int} {l : List q10} {k : Nat} (h : ordW sizes l k = 0) : fitW sizes (ix l (k : Int)) = 0 := by
  unfold ordW at h
  split at h
  · next q => exact absurd h q
  · next q => exact Classical.not_not.1 q
theorem q289 {l : List q10} {sizes : List Int} {Φ : Int → Prop} (hl : l.length ≤ 100000) (hd : ∀ w ∈ l, w.Data.length ≤ 1000000) (h0 : q25 sizes ≠ 0 → Φ (q25 sizes)) (h1 : q25 sizes = 0 → Φ (wrsE sizes l)) : Z113 l sizes Φ := by
  refine q102 (fun hs => ⟨fun q => absurd rfl q, fun _ => ?_⟩) fun hs => ⟨fun _ => h0 hs, fun q => absurd hs q⟩
  have e := q483 hs; refine LoopW.errI l.length (fun k => (k : Int)) _ rfl (h1 hs) (fun k rec hk hj g1 g2 => ⟨fun _ => ⟨iX (by omega) (by omega), ?_⟩, fun _ => by omega⟩) fun rec _ h0 => ⟨fun _ => by omega, fun _ => h0⟩
  have hmem := hd _ (q45 (iX (i := (k : Int)) (n := l.length) (by omega) (by omega))); refine q268 hmem (by unfold imgE; rw [e]; exact hs) ?_; rw [e]; unfold ordW at g1 g2; refine ⟨fun q => ?_, fun q => ?_⟩
  · rw [if_pos q] at g1; exact g1 q
  · rw [if_neg q] at g1 g2
    refine ⟨fun r => ?_, fun r => ?_⟩
    · rw [if_pos (by omega)] at g2
      exact ⟨iI (by omega) (by omega), g2 rfl _ rfl⟩
    · rw [if_neg (by omega)] at g1 g2
      have hp := q785 (hj (k - 1) (by omega)); obtain ⟨v, s, hf⟩ := q287 (by omega) hp; have z1 := hf.le; have z2 := hf.top; have z3 := hf.start; have ek : ((k - 1 : Nat) : Int) = (k : Int) - 1 := by omega
      rw [ek] at z1 z3; refine ⟨iI (by omega) (by omega), iX (by omega) (by omega), fun t => ?_, fun t => ⟨fun u => ⟨iI (by omega) (by omega), fun x => ?_, fun x => ?_⟩, fun u => ?_⟩⟩
      · rw [if_pos (.inl t)] at g1; exact g1 (by omega)
      · rw [if_pos (.inr ⟨u, x⟩)] at g1; exact g1 (by omega)
      · rw [if_neg (by omega)] at g2; exact ⟨iI (by omega) (by omega), g2 rfl _ rfl⟩
      · rw [if_neg (by omega)] at g2; exact ⟨iI (by omega) (by omega), g2 rfl _ rfl⟩
def cycE (c : q21) (sizes : List Int) : Int :=
  if q25 sizes ≠ 0 then q25 sizes else if c.Base < 0 ∨ c.Number ≤ c.Base ∨ 1073741824 < c.Number then 2 else if c.Time < 0 ∨ 1073741824 < c.Time then 24 else if posR 0 c.Positions ≠ 0 then posR 0 c.Positions else wrsE sizes c.Writes
theorem q224 {c : q21} {sizes : List Int} {Φ : Int → Prop} (hp : c.Positions.length ≤ 100000) (hl : c.Writes.length ≤ 100000) (hd : ∀ w ∈ c.Writes, w.Data.length ≤ 1000000) (hΦ : Φ (cycE c sizes)) : q109 c sizes Φ := by
  unfold cycE at hΦ; refine q102 (fun hs => ⟨fun q => absurd rfl q, fun _ => ?_⟩) fun hs => ⟨fun _ => by rw [if_pos hs] at hΦ; exact hΦ, fun q => absurd hs q⟩
  rw [if_neg (by omega)] at hΦ
  have J : ∀ b : Bool, (b = true ↔ c.Base < 0 ∨ c.Number ≤ c.Base ∨ 1073741824 < c.Number) → Z114 c sizes Φ b := fun b hb => by
    refine ⟨fun q => by rw [if_pos (hb.1 q)] at hΦ; exact hΦ, fun q => ?_⟩; rw [if_neg fun r => q (hb.2 r)] at hΦ; refine q236 ⟨fun r => ?_, fun r => ?_⟩
    · have := of_decide_eq_false (Bool.eq_false_iff.2 r)
      rw [if_pos (by omega)] at hΦ; exact hΦ
    · have := of_decide_eq_true (Classical.not_not.1 r)
      rw [if_neg (by omega)] at hΦ; refine q269 hp ⟨fun t => by rw [if_pos t] at hΦ; exact hΦ, fun t => ?_⟩; rw [if_neg t] at hΦ; exact q289 hl hd (fun u => absurd hs u) fun _ => hΦ
  exact ⟨fun q => J true ⟨fun _ => .inl q, fun _ => rfl⟩, fun q => ⟨fun r => J true ⟨fun _ => .inr (.inl r), fun _ => rfl⟩, fun r => J _ (by simp; omega)⟩⟩
theorem posR0 {l : List Int} : posR 0 l = if 8 < (l.length : Int) then 6 else posE l := by
  unfold posR; by_cases q : 8 < (l.length : Int)
  · rw [if_pos (.inr q), if_pos q]
  · rw [if_neg (by omega), if_neg q]
theorem q79 {l : List Int} {Φ : List Int → Prop} (hl : l.length ≤ 1000000) (hΦ : Φ l) : Z19 l Φ :=
  ⟨fun h => (by subst h; exact hΦ), iL hl (by omega), hΦ⟩
theorem q270 {x lo hi : Int} {Φ : Bool → Prop} (h : Φ (decide (lo ≤ x ∧ x ≤ hi))) : Z14 x lo hi Φ := by
  refine ⟨fun q => ?_, fun q => ?_⟩
  · rw [show decide (lo ≤ x ∧ x ≤ hi) = decide (x ≤ hi) from by simp [q]] at h; exact h
  · rw [show decide (lo ≤ x ∧ x ≤ hi) = false from decide_eq_false fun r => q r.1] at h; exact h
theorem q66 {x lo hi : Int} {Φ : Bool → Prop} (h1 : ¬ (lo ≤ x ∧ x ≤ hi) → Φ false) (h2 : lo ≤ x ∧ x ≤ hi → Φ true) : Z14 x lo hi Φ := by
  refine q270 ?_; by_cases q : lo ≤ x ∧ x ≤ hi
  · rw [decide_eq_true q]; exact h2 q
  · rw [decide_eq_false q]; exact h1 q
theorem q146 {x : Int} {Φ : Bool → Prop} (h1 : x < 0 ∨ 4 ≤ x → Φ false) (h2 : ¬ (x < 0 ∨ 4 ≤ x) → Φ true) : Z15 x Φ :=
  q66 (fun q => h1 (by omega)) fun q => h2 (by omega)
theorem ff {P Q : Prop} (h : P) : (¬ (false = true) → P) ∧ (¬ (¬ (false = true)) → Q) := ⟨fun _ => h, fun q => absurd (by simp) q⟩
theorem tt {P Q : Prop} (h : Q) : (¬ (true = true) → P) ∧ (¬ (¬ (true = true)) → Q) := ⟨fun q => absurd rfl q, fun _ => h⟩
theorem q170 {d : List q9} {sizes : List Int} {Φ : Int → Prop} (hl : sizes.length ≤ 100000) (hΦ : Φ (bmsC d sizes)) : Z26 d sizes Φ := by
  unfold bmsC at hΦ; refine ⟨fun q => by rw [if_pos q] at hΦ; exact hΦ, fun q => ?_⟩; rw [if_neg q] at hΦ; refine LoopW.errI d.length (fun k => ((k : Int), List.replicate k true)) (bmsE d sizes) rfl hΦ (fun k rec hk _ h1 h2 => ⟨fun _ => ⟨iX (by omega) (by omega), iX (by omega) (by omega), ?_⟩, fun z => absurd (show (k : Int) < (d.length : Int) by omega) z⟩) fun rec _ h => ⟨fun z => absurd (show (d.length : Int) < (d.length : Int) from z) (by omega), fun _ => h⟩
  by_cases a1 : chkB (ix d (k : Int)) ≠ 0
  · have e : bmsE d sizes k = chkB (ix d (k : Int)) := if_pos a1
    rw [e] at h1; exact ⟨(false, chkB (ix d (k : Int)), ()), q35 ⟨fun _ => rfl, fun z => absurd a1 z⟩, fun _ => h1 a1, fun z => absurd a1 z⟩
  · by_cases a2 : (ix d (k : Int)).Size ≠ ix sizes (k : Int)
    · have e : bmsE d sizes k = 22 := by unfold bmsE; rw [if_neg a1, if_pos a2]
      rw [e] at h1; exact ⟨(false, 22, ()), q35 ⟨fun z => absurd z a1, fun _ => ⟨fun _ => rfl, fun z => absurd a2 z⟩⟩, fun _ => h1 (by decide), fun z => absurd (show (22 : Int) ≠ 0 by decide) z⟩
    · have e : bmsE d sizes k = 0 := by unfold bmsE; rw [if_neg a1, if_neg a2]
      exact ⟨(true, 0, ()), q35 ⟨fun z => absurd z a1, fun _ => ⟨fun z => absurd z a2, fun _ => rfl⟩⟩, fun z => absurd rfl z, fun _ => ⟨iL (by rw [q93, List.length_replicate]; omega) (by omega), iI (by omega) (by omega), h2 e _ (Prod.ext rfl List.replicate_succ'.symm)⟩⟩
theorem q290 {t : q13} {Φ : Int → Prop} (hΦ : Φ (trkE t)) : Z28 t Φ := by
  unfold trkE at hΦ; refine q102 (fun q => ⟨fun z => absurd rfl z, fun _ => ?_⟩) fun q => ⟨fun _ => by rw [if_pos q] at hΦ; exact hΦ, fun z => absurd q z⟩
  rw [if_neg (fun z => z q)] at hΦ; refine ⟨fun q2 => by rw [if_pos q2] at hΦ; exact hΦ, fun q2 => ?_⟩; rw [if_neg q2] at hΦ; refine LoopW.errI t.Peers.length (fun k => ((if k = 0 then -1 else (ix t.Peers ((k : Int) - 1)).Site), (k : Int))) (peerE t) rfl hΦ (fun k rec hk _ h1 h2 => ?_) fun rec _ h => ⟨fun z => absurd (show (t.Peers.length : Int) < (t.Peers.length : Int) from z) (by omega), fun _ => h⟩
  have hlt : (k : Int) < (t.Peers.length : Int) := by omega
  refine ⟨fun _ => ⟨iX (by omega) hlt, q146 (fun n1 => ff ?_) fun n1 => tt ⟨fun q4 => ?_, fun q4 => ?_⟩⟩, fun z => absurd hlt z⟩
  · have e : peerE t k = 2 := if_pos n1
    rw [e] at h1; exact h1 (by decide)
  · have e : peerE t k = 8 := by
      unfold peerE; rw [if_neg n1]; by_cases h0 : k = 0
      · rw [if_pos h0] at q4; omega
      · rw [if_neg h0] at q4; rw [if_pos ⟨by omega, q4⟩]
    rw [e] at h1; exact h1 (by decide)
  · have n2 : ¬ (0 < (k : Int) ∧ (ix t.Peers (k : Int)).Site ≤ (ix t.Peers ((k : Int) - 1)).Site) := fun h => by
      rw [if_neg (show ¬ k = 0 by omega)] at q4; exact q4 h.2
    refine q66 (fun q5 => ff ?_) fun q5 => tt (q170 (by have := q19 q; omega) ?_)
    · have e : peerE t k = 2 := by unfold peerE; rw [if_neg n1, if_neg n2, if_pos (by omega)]
      rw [e] at h1; exact h1 (by decide)
    · have e : peerE t k = bmsC (ix t.Peers (k : Int)).Dirty t.Sizes := by unfold peerE; rw [if_neg n1, if_neg n2, if_neg (by omega)]
      rw [e] at h1 h2; refine ⟨fun q6 => h1 q6, fun q6 => ⟨iI (by omega) (by omega), h2 (Classical.not_not.1 q6) _ (Prod.ext ?_ rfl)⟩⟩; show (ix t.Peers (k : Int)).Site = if k + 1 = 0 then (-1 : Int) else (ix t.Peers (((k + 1 : Nat) : Int) - 1)).Site; rw [if_neg (Nat.succ_ne_zero k), show ((k + 1 : Nat) : Int) - 1 = (k : Int) by omega]
theorem q176 {t : q13} {Φ : Int → Prop} (_ : ∀ p ∈ t.Peers, p.Dirty.length ≤ 100000) (hΦ : Φ (trkE t)) : Z28 t Φ := q290 hΦ
theorem q359 {κ ν : Type} [DecidableEq κ] {k : κ} {v : ν} : ∀ {m : List (κ × ν)}, k ∉ m.map (·.1) → mput m k v = m ++ [(k, v)]
  | [], _ => rfl
  | p :: m, h => by
    have h1 : ¬ k = p.1 := fun e => h (by rw [e]; exact List.mem_cons_self); unfold mput; rw [if_neg h1, q359 fun q => h (List.mem_cons_of_mem _ q)]; rfl
theorem q402 {κ ν : Type} [DecidableEq κ] {k : κ} : ∀ {m : List (κ × ν)}, k ∉ m.map (·.1) → mfind m k = none
  | [], _ => rfl
  | p :: m, h => by
    have h1 : ¬ k = p.1 := fun e => h (by rw [e]; exact List.mem_cons_self); unfold mfind; rw [if_neg h1, q402 fun q => h (List.mem_cons_of_mem _ q)]
theorem q403 {κ ν : Type} [DecidableEq κ] {k : κ} : ∀ {m : List (κ × ν)}, k ∈ m.map (·.1) → (mfind m k).isSome = true
  | [], h => absurd h List.not_mem_nil
  | p :: m, h => by
    unfold mfind; by_cases h1 : k = p.1
    · rw [if_pos h1]; rfl
    · rw [if_neg h1]
      rcases List.mem_cons.1 h with e | e
      · exact absurd e h1
      · exact q403 e
theorem q325 {κ ν : Type} [DecidableEq κ] {k : κ} {m : List (κ × ν)} : mhas m k = true ↔ k ∈ m.map (·.1) := by
  unfold mhas; by_cases h : k ∈ m.map (·.1)
  · obtain ⟨v, hv⟩ := Option.isSome_iff_exists.1 (q403 h)
    rw [hv]; exact ⟨fun _ => h, fun _ => rfl⟩
  · rw [q402 h]; exact ⟨fun q => absurd q (by simp), fun q => absurd q h⟩
theorem q597 {κ ν : Type} [DecidableEq κ] : ∀ {m : List (κ × ν)} {p : κ × ν}, (m.map (·.1)).Nodup → p ∈ m → mfind m p.1 = some p.2
  | [], _, _, h => absurd h List.not_mem_nil
  | q :: m, p, hn, h => by
    have h1 := List.nodup_cons.1 hn; unfold mfind; rcases List.mem_cons.1 h with rfl | h
    · rw [if_pos rfl]
    · rw [if_neg fun e => h1.1 (List.mem_map.2 ⟨p, h, e⟩)]
      exact q597 h1.2 h
theorem q723 {κ ν : Type} [DecidableEq κ] {m : List (κ × ν)} {p : κ × ν} {z : ν} (hn : (m.map (·.1)).Nodup) (h : p ∈ m) : mget m p.1 z = p.2 := by
  unfold mget; rw [q597 hn h]
def keyP (p : q12) : Int × q12 := (p.Site, p)
theorem q199 (l : List q12) : (l.map keyP).map (fun p => p.1) = l.map (·.Site) := by rw [List.map_map]; rfl
theorem q598 {l : List q12} {p z : q12} (hn : (l.map (·.Site)).Nodup) (hp : p ∈ l) : mget (l.map keyP) p.Site z = p := by
  have := q723 (m := l.map keyP) (p := keyP p) (z := z) (by rw [q199]; exact hn) (List.mem_map_of_mem hp); exact this
def noTrk : q13 := ⟨[], []⟩
def badS (s : Int) : Bool := decide (s < 0 ∨ 4 ≤ s)
def siteK (sites : List Int) (k : Nat) : List Int := ((List.range k).map fun j : Nat => (j : Int)).filter fun s => decide (s ∈ sites)
def newP (sizes : List Int) (common s : Int) : q12 := ⟨s, common, sizes.map newB⟩
def newT (sizes sites : List Int) (common : Int) : q13 × Int :=
  if q25 sizes ≠ 0 then (noTrk, q25 sizes) else if 4 < (sites.length : Int) then (noTrk, 6) else if sites.any badS = true then (noTrk, 2) else if ¬ sites.Nodup then (noTrk, 8)
  else if common < 0 ∨ 1073741824 < common then (noTrk, 2) else (⟨sizes, (siteK sites 4).map (newP sizes common)⟩, 0)
theorem q488 {sites : List Int} {k : Nat} {x : Int} : x ∈ siteK sites k ↔ (0 ≤ x ∧ x < (k : Int)) ∧ x ∈ sites := by
  unfold siteK; rw [List.mem_filter, decide_eq_true_iff]; refine and_congr ⟨fun h => ?_, fun h => ?_⟩ Iff.rfl
  · obtain ⟨j, hj, rfl⟩ := List.mem_map.1 h
    have := List.mem_range.1 hj; omega
  · exact List.mem_map.2 ⟨x.toNat, List.mem_range.2 (by omega), by omega⟩
theorem q724 (sites : List Int) (k : Nat) : (siteK sites k).Pairwise fun a b => a < b := by
  unfold siteK; refine List.Pairwise.filter _ (List.pairwise_map.2 (List.pairwise_lt_range.imp fun h => by omega))
theorem q620 (sites : List Int) (k : Nat) : siteK sites (k + 1) = siteK sites k ++ (if (k : Int) ∈ sites then [(k : Int)] else []) := by
  unfold siteK; rw [List.range_succ, List.map_append, List.filter_append]
  congr 1
  by_cases h : (k : Int) ∈ sites <;> simp [h]
theorem q489 (sites : List Int) : ∀ k : Nat, (siteK sites k).length ≤ k
  | 0 => Nat.le_refl _
  | k + 1 => by
    rw [q620, List.length_append]; have := q489 sites k
    split
    · rw [List.length_singleton]; omega
    · rw [List.length_nil]; omega
theorem q621 {sites : List Int} (hb : ∀ s ∈ sites, badS s = false) (hn : sites.Nodup) : sortZ sites = siteK sites 4 := by
  refine q715 (q780 hn) (q724 _ _) fun x => ?_; rw [q716, q488]; refine ⟨fun h => ⟨?_, h⟩, fun h => h.2⟩; have := of_decide_eq_false (hb x h); omega
theorem q372 {sizes sites : List Int} {common : Int} {Φ : q13 × Int → Prop} (hΦ : Φ (newT sizes sites common)) : q159 sizes sites common Φ := by
  unfold newT at hΦ; refine q102 (fun q => ⟨fun z => absurd rfl z, fun _ => ?_⟩) fun q => ⟨fun _ => by rw [if_pos q] at hΦ; exact hΦ, fun z => absurd q z⟩
  rw [if_neg (fun z => z q)] at hΦ; refine ⟨fun q2 => by rw [if_pos q2] at hΦ; exact hΦ, fun q2 => ?_⟩; rw [if_neg q2] at hΦ; refine LoopW.anyL sites badS (Φ := fun b => (b = true → Φ (noTrk, 2)) ∧ (b = false → LoopW (Z21 sizes sites common Φ) (0, ([] : List (Int × q12))))) ⟨fun z => by rw [if_pos z] at hΦ; exact hΦ, fun z => ?_⟩ (fun k rec hk h1 h2 => ⟨fun _ => ⟨iX (by omega) (by omega), q146 (fun n => ff ((h1 (decide_eq_true n)).1 rfl)) fun n => tt ⟨iI (by omega) (by omega), h2 (decide_eq_false n)⟩⟩, fun q => absurd (show (k : Int) < (sites.length : Int) by omega) q⟩) fun rec h => ⟨fun q => absurd q (by omega), fun _ => h.2 rfl⟩
  rw [if_neg (by rw [z]; simp)] at hΦ
  have hb : ∀ s ∈ sites, badS s = false := fun s hs => by
    cases hx : badS s with
    | false => rfl
    | true => rw [List.any_eq_true.2 ⟨s, hs, hx⟩] at z; cases z
  have hs := q19 q; refine LoopW.upI sites.length (fun k => ((k : Int), (sites.take k).map fun s => (s, newP sizes common s))) (fun k => (sites.take k).Nodup) rfl (by simp) (fun k rec hk hI hrec => ?_) fun rec hI => ?_
  · have hkey : ((sites.take k).map fun s => (s, newP sizes common s)).map (·.1) = sites.take k := by rw [List.map_map]; exact List.map_id' _
    refine ⟨fun _ => ⟨iX (by omega) (by omega), fun hh => ?_, fun hh => q311 (by omega) (fun j hj => by have := q145 q hj; omega) ⟨fun z => absurd rfl z, fun _ => ⟨iI (by omega) (by omega), ?_⟩⟩⟩, fun q => absurd (show (k : Int) < (sites.length : Int) by omega) q⟩
    · have hh := q325.1 hh
      rw [hkey] at hh; rw [if_pos fun hn => ?_] at hΦ
      · exact hΦ
      · have h3 : (sites.take (k + 1)).Nodup := hn.sublist (List.take_sublist _ _)
        rw [q119 hk] at h3; have := (List.nodup_append.1 h3).2.2 _ hh _ (List.mem_singleton.2 rfl); exact this rfl
    · have hh : ix sites (k : Int) ∉ sites.take k := fun h => hh (q325.2 (by rw [hkey]; exact h))
      refine hrec ?_ _ (Prod.ext rfl ?_)
      · rw [q119 hk]
        exact List.nodup_append.2 ⟨hI, List.nodup_cons.2 ⟨List.not_mem_nil, List.nodup_nil⟩, fun a ha b hb e => hh (by rw [List.mem_singleton.1 hb] at e; rw [← e]; exact ha)⟩
      · rw [q27 _ hk]
        exact q359 (by rw [hkey]; exact hh)
  · rw [q31] at hI ⊢
    rw [if_neg (fun z => z hI)] at hΦ; have hkey : (sites.map fun s => (s, newP sizes common s)).map (fun p => p.1) = sites := by rw [List.map_map]; exact List.map_id' _
    refine ⟨fun z => absurd (show (sites.length : Int) < (sites.length : Int) from z) (by omega), fun _ => q66 (fun q5 => ff (by rw [if_pos (by omega)] at hΦ; exact hΦ)) fun q5 => tt (q79 (by omega) ⟨by rw [hkey]; exact hI, fun p hp => ?_, iL (by rw [List.length_map]; omega) (by omega), ?_⟩)⟩
    · obtain ⟨s, hs, rfl⟩ := List.mem_map.1 hp
      have := of_decide_eq_false (hb s hs); exact iI (by show -9223372036854775808 ≤ s; omega) (by show s ≤ 9223372036854775807; omega)
    · rw [if_neg (show ¬ (common < 0 ∨ 1073741824 < common) by omega)] at hΦ
      have hks : sortZ ((sites.map fun s => (s, newP sizes common s)).map fun p => p.1) = siteK sites 4 := by rw [hkey]; exact q621 hb hI
      have hl4 := q489 sites 4; generalize hz : Z20 (sites.map fun s => (s, newP sizes common s)) sizes Φ = step; have hstep : ∀ s rec, step s rec = Z20 (sites.map fun s => (s, newP sizes common s)) sizes Φ s rec := fun s rec => by rw [hz]
      refine LoopW.upT (siteK sites 4).length (fun k => ((k : Int), ((siteK sites 4).take k).map (newP sizes common))) rfl (fun k rec hk hrec => ?_) fun rec => ?_
      · rw [hstep]
        have hm : ix (siteK sites 4) (k : Int) ∈ sites := (q488.1 (q45 (iX (show (0 : Int) ≤ (k : Int) by omega) (by omega)))).2
        have hg : mget (sites.map fun s => (s, newP sizes common s)) (ix (siteK sites 4) (k : Int)) (q12.mk 0 0 ([] : List q9)) = newP sizes common (ix (siteK sites 4) (k : Int)) :=
          q723 (m := sites.map fun s => (s, newP sizes common s)) (p := (ix (siteK sites 4) (k : Int), newP sizes common (ix (siteK sites 4) (k : Int)))) (by rw [List.map_map]; exact (List.map_id' sites).symm ▸ hI) (List.mem_map.2 ⟨_, hm, rfl⟩)
        unfold Z20; simp only; rw [hks, hg]; exact ⟨fun _ => ⟨iX (by omega) (by omega), iL (by rw [q93, List.length_map, lenT (Nat.le_of_lt hk)]; omega) (by omega), iI (by omega) (by omega), hrec _ (Prod.ext rfl (q27 _ hk).symm)⟩, fun q => absurd (show (k : Int) < ((siteK sites 4).length : Int) by omega) q⟩
      · rw [hstep]
        unfold Z20; simp only; rw [hks, q31]; exact ⟨fun q => absurd q (by omega), fun _ => hΦ⟩
theorem TrkOk.small {t : q13} (h : TrkOk t) : t.Sizes.length ≤ 8 ∧ t.Peers.length ≤ 4 ∧ ∀ p ∈ t.Peers, p.Dirty.length ≤ 8 ∧ ∀ b ∈ p.Dirty, b.Words.length ≤ 1000 := by
  have h8 := q19 h.hs; refine ⟨h8.2, h.n4, fun p hp => ?_⟩; obtain ⟨k, hk, rfl⟩ := List.getElem_of_mem hp; have hb := h.bms k hk; rw [q34 hk] at hb; exact ⟨by have := hb.len; omega, fun b hb' => (hb.words b hb').2⟩
theorem TrkOk.sites {t : q13} (h : TrkOk t) : (t.Peers.map (·.Site)).Pairwise fun a b => a < b := by
  rw [List.pairwise_map]; refine List.pairwise_iff_getElem.2 fun i j hi hj hij => ?_; have := h.asc i j hij hj; rwa [q34 hi, q34 hj] at this
theorem q490 {l : List Int} (h : l.Pairwise fun a b => a < b) : l.Nodup := h.imp fun q => by omega
theorem q373 {b : q9} {Φ : q9 → Prop} (hl : b.Words.length ≤ 1000000) (hΦ : Φ b) : q160 b Φ := ⟨(b.Words, ()), q265 hl rfl, hΦ⟩
theorem q147 {d : List q9} {Φ : List q9 → Prop} (hl : d.length ≤ 100000) (hw : ∀ b ∈ d, b.Words.length ≤ 1000000) (hΦ : Φ d) : Z31 d Φ := by
  refine LoopW.upT d.length (fun k => ((k : Int), d.take k)) rfl (fun k rec hk hrec => ⟨fun _ => ⟨iX (by omega) (by omega), q373 (hw _ (q45 (iX (by omega) (by omega)))) ⟨iL (by rw [q93, lenT (Nat.le_of_lt hk)]; omega) (by omega), iI (by omega) (by omega), hrec _ (Prod.ext rfl (q119 hk).symm)⟩⟩, fun q => absurd (show (k : Int) < (d.length : Int) by omega) q⟩) fun rec => ⟨fun q => absurd (show (d.length : Int) < (d.length : Int) from q) (by omega), fun _ => ?_⟩
  rw [q31]; exact hΦ
def fndK (l : List q12) (n : Int) : Nat := l.findIdx fun p => decide (p.Site = n)
theorem q725 {l : List q12} {n : Int} (h : fndK l n < l.length) : (ix l (fndK l n : Int)).Site = n := by
  rw [q34 h]; exact of_decide_eq_true (List.findIdx_getElem (w := h))
theorem q786 {l : List q12} {n : Int} : fndK l n < l.length ↔ n ∈ l.map (·.Site) := by
  constructor
  · intro h
    exact List.mem_map.2 ⟨_, q45 (iX (show (0 : Int) ≤ (fndK l n : Int) by omega) (by omega)), q725 h⟩
  · intro h
    obtain ⟨p, hp, e⟩ := List.mem_map.1 h; exact List.findIdx_lt_length_of_exists ⟨p, hp, decide_eq_true e⟩
def q599 (t : q13) (n : Int) : List q9 × Int × Int :=
  if trkE t ≠ 0 then ([], 0, trkE t) else if fndK t.Peers n < t.Peers.length then ((ix t.Peers (fndK t.Peers n : Int)).Dirty, (ix t.Peers (fndK t.Peers n : Int)).Common, 0) else ([], 0, 7)
theorem q726 {l : List q12} {k : Nat} (hk : k < l.length) (hn : (l.map (·.Site)).Nodup) : mput ((l.take k).map keyP) (ix l (k : Int)).Site (ix l (k : Int)) = (l.take (k + 1)).map keyP := by
  rw [q359]
  · rw [q27 keyP hk]; rfl
  · rw [q199]
    intro h; have h2 : ((l.take (k + 1)).map (·.Site)).Nodup := hn.sublist ((List.take_sublist _ _).map _); rw [q27 (·.Site) hk] at h2; exact (List.nodup_append.1 h2).2.2 _ h _ (List.mem_singleton.2 rfl) rfl
theorem q727 {l : List q12} {n : Int} (hn : (l.map (·.Site)).Nodup) (h : fndK l n < l.length) (z : q12) : mget (l.map keyP) n z = ix l (fndK l n : Int) := by
  have := q598 (z := z) hn (q45 (iX (show (0 : Int) ≤ (fndK l n : Int) by omega) (by omega))); rwa [q725 h] at this
theorem q491 {l : List q12} {n : Int} : mhas (l.map keyP) n = true ↔ fndK l n < l.length := by
  rw [q325, q786]; show n ∈ (l.map keyP).map (fun p => p.1) ↔ _; rw [q199]
theorem q312 {t : q13} {n : Int} {Φ : List q9 × Int × Int → Prop} (hd : ∀ p ∈ t.Peers, p.Dirty.length ≤ 100000) (hΦ : Φ (q599 t n)) : Z41 t n Φ := by
  unfold q599 at hΦ; refine q176 hd ⟨fun q => by rw [if_pos q] at hΦ; exact hΦ, fun q => ?_⟩; rw [if_neg q] at hΦ; have h := q826 (Classical.not_not.1 q); obtain ⟨h8, h4, hs⟩ := h.small; have hn := q490 h.sites; refine LoopW.upT t.Peers.length (fun k => ((k : Int), (t.Peers.take k).map keyP)) rfl (fun k rec hk hrec => ?_) fun rec => ⟨fun z => absurd (show (t.Peers.length : Int) < (t.Peers.length : Int) from z) (by omega), fun _ => ?_⟩
  · have hp := hs _ (q45 (xs := t.Peers) (i := (k : Int)) (iX (by omega) (by omega)))
    exact ⟨fun _ => ⟨iX (by omega) (by omega), q147 (by omega) (fun b hb => by have := hp.2 b hb; omega) ⟨iI (by omega) (by omega), hrec _ (Prod.ext rfl (q726 hk hn))⟩⟩, fun z => absurd (show (k : Int) < (t.Peers.length : Int) by omega) z⟩
  · rw [q31]
    refine ⟨fun z => ?_, fun z => ?_⟩
    · rw [if_neg fun q2 => z (q491.2 q2)] at hΦ; exact hΦ
    · have z := q491.1 (Classical.not_not.1 z)
      rw [if_pos z] at hΦ; rw [q727 hn z]; exact hΦ
theorem q492 {l : List q12} (h : (l.map (·.Site)).Pairwise fun a b => a < b) : sortZ ((l.map keyP).map fun p => p.1) = l.map (·.Site) := by rw [q199]; exact q484 h
theorem q600 {α β : Type} [Dt α] [Dt β] (f : α → β) {l : List α} {k : Nat} (hk : k < l.length) : ix (l.map f) (k : Int) = f (ix l (k : Int)) := by
  rw [q34 (by rw [List.length_map]; exact hk), List.getElem_map, q34 hk]
theorem key_at {l : List q12} {k : Nat} (hn : (l.map (·.Site)).Nodup) (hk : k < l.length) (z : q12) : mget (l.map keyP) (ix (l.map (·.Site)) (k : Int)) z = ix l (k : Int) := by
  rw [q600 (·.Site) hk]; exact q598 hn (q45 (iX (by omega) (by omega)))
def markP (w : q10) (p : q12) : q12 := ⟨p.Site, p.Common, markL p.Dirty [w]⟩
def q493 (t : q13) (w : q10) : q13 × Int :=
  if trkE t ≠ 0 then (noTrk, trkE t) else if fitW t.Sizes w ≠ 0 then (noTrk, fitW t.Sizes w) else (⟨t.Sizes, t.Peers.map (markP w)⟩, 0)
abbrev EntD := (Int × q12) × List q9
def dE (p : q12) : EntD := ((p.Site, ⟨p.Site, p.Common, []⟩), p.Dirty)
def closeD (p : EntD) : Int × q12 := (p.1.1, ⟨p.1.2.Site, p.1.2.Common, p.2⟩)
theorem q787 (l : List q12) : (l.map dE).map closeD = l.map keyP := by rw [List.map_map]; rfl
theorem keys_dE (l : List q12) : (l.map dE).map (fun p => p.1) = l.map fun p => (p.Site, (⟨p.Site, p.Common, []⟩ : q12)) := by rw [List.map_map]; rfl
def seenL (w : q10) (l : List q12) (seen : List Nat) : List q12 := l.mapIdx fun i p => if i ∈ seen then markP w p else p
theorem q36 (w : q10) (l : List q12) (seen : List Nat) : (seenL w l seen).length = l.length := List.length_mapIdx
theorem q171 {w : q10} {l : List q12} {seen : List Nat} {k : Nat} (hk : k < l.length) : ix (seenL w l seen) (k : Int) = if k ∈ seen then markP w (ix l (k : Int)) else ix l (k : Int) := by
  rw [q34 (by rw [q36]; exact hk), q34 hk]; unfold seenL; rw [List.getElem_mapIdx]
theorem q728 (w : q10) (l : List q12) : seenL w l [] = l := by
  refine q303 (q36 _ _ _) fun k hk => ?_; rw [q36] at hk; rw [q171 hk, if_neg List.not_mem_nil]
theorem q729 {w : q10} {l : List q12} {seen : List Nat} (h : ∀ i, i < l.length → i ∈ seen) : seenL w l seen = l.map (markP w) := by
  refine q303 (by rw [q36, List.length_map]) fun k hk => ?_; rw [q36] at hk; rw [q171 hk, if_pos (h k hk), q600 _ hk]
theorem q730 {w : q10} {l : List q12} {seen : List Nat} {k : Nat} (hk : k < l.length) : (seenL w l seen).set k (markP w (ix l (k : Int))) = seenL w l (k :: seen) := by
  refine q303 (by rw [List.length_set, q36, q36]) fun j hj => ?_; rw [List.length_set, q36] at hj; rw [← q528, q719 _ _ (by rw [q36]; exact hk), q171 hj, q171 hj]; by_cases e : j = k
  · subst e; rw [if_pos rfl, if_pos List.mem_cons_self]
  · rw [if_neg e]
    by_cases h : j ∈ seen
    · rw [if_pos h, if_pos (List.mem_cons_of_mem _ h)]
    · rw [if_neg h, if_neg fun q => (List.mem_cons.1 q).elim e h]
theorem q532 (w : q10) (l : List q12) (seen : List Nat) : (seenL w l seen).map (·.Site) = l.map (·.Site) := by
  refine List.ext_getElem (by rw [List.length_map, List.length_map, q36]) fun i h1 h2 => ?_; rw [List.length_map, q36] at h1; rw [List.getElem_map, List.getElem_map]; have := q171 (w := w) (seen := seen) h1; rw [q34 (by rw [q36]; exact h1), q34 h1] at this; rw [this]
  split <;> rfl
theorem q533 {l : List q12} {k : Nat} (hk : k < l.length) : entD (l.map dE) k = dE (ix l (k : Int)) := by
  unfold entD; rw [List.getD_eq_getElem?_getD, List.getElem?_eq_getElem (by rw [List.length_map]; exact hk), List.getElem_map, q34 hk]; rfl
theorem q731 : ∀ {n : Nat} {seen : List Nat}, seen.Nodup → (∀ i ∈ seen, i < n) → seen.length ≤ n := by
  intro n
  induction n with
  | zero => intro seen _ h; cases seen with
    | nil => exact Nat.le_refl _
    | cons a r => exact absurd (h a List.mem_cons_self) (Nat.not_lt_zero _)
  | succ n ih =>
    intro seen hn h
    have h1 : (seen.erase n).length ≤ n := ih (hn.erase n) fun i hi => by
      have := h i (List.mem_of_mem_erase hi); have : i ≠ n := fun e => (hn.mem_erase_iff.1 hi).1 e; omega
    have := List.length_erase (a := n) (l := seen)
    split at this <;> omega
theorem q313 {t : q13} {w : q10} {Φ : q13 × Int → Prop} (hd : ∀ p ∈ t.Peers, p.Dirty.length ≤ 100000) (hw : w.Data.length ≤ 1000000) (hΦ : Φ (q493 t w)) : Z37 t w Φ := by
  unfold q493 at hΦ; refine q176 hd ⟨fun q => by rw [if_pos q] at hΦ; exact hΦ, fun q => ?_⟩; rw [if_neg q] at hΦ; have h := q826 (Classical.not_not.1 q); obtain ⟨h8, h4, hs⟩ := h.small; have hn := q490 h.sites; refine q102 (fun q1 => ⟨fun z => absurd rfl z, fun _ => ?_⟩) fun q1 => absurd h.hs q1; have hz : szs (zeroI t.Sizes) = t.Sizes := q483 h.hs; refine q268 hw (by show q25 (szs (zeroI t.Sizes)) = 0; rw [hz]; exact h.hs) ?_; show (fitW (szs (zeroI t.Sizes)) w ≠ 0 → Φ (noTrk, fitW (szs (zeroI t.Sizes)) w)) ∧ _; rw [hz]; refine ⟨fun q2 => by rw [if_pos q2] at hΦ; exact hΦ, fun q2 => ?_⟩; rw [if_neg q2] at hΦ; have hf := Classical.not_not.1 q2; obtain ⟨v, hv, hvl, _⟩ := q324 hf; refine LoopW.upT t.Peers.length (fun k => ((k : Int), (t.Peers.take k).map dE)) rfl (fun k rec hk hrec => ?_) fun rec => ⟨fun z => absurd (show (t.Peers.length : Int) < (t.Peers.length : Int) from z) (by omega), fun _ => ?_⟩
  · have hp := hs _ (q45 (xs := t.Peers) (i := (k : Int)) (iX (by omega) (by omega)))
    refine ⟨fun _ => ⟨iX (by omega) (by omega), q147 (by omega) (fun b hb => by have := hp.2 b hb; omega) ⟨?_, iI (by omega) (by omega), hrec _ (Prod.ext rfl (q27 dE hk).symm)⟩⟩, fun z => absurd (show (k : Int) < (t.Peers.length : Int) by omega) z⟩; rw [Bool.eq_false_iff]; intro hh; have hh := q325.1 hh; rw [keys_dE, List.map_map] at hh; have h2 : ((t.Peers.take (k + 1)).map (·.Site)).Nodup := hn.sublist ((List.take_sublist _ _).map _); rw [q27 (·.Site) hk] at h2; exact (List.nodup_append.1 h2).2.2 _ hh _ (List.mem_singleton.2 rfl) rfl
  · rw [q31]
    refine LoopW.of_inv (fun s => ∃ seen : List Nat, s = ((t.Peers.length, seen), (seenL w t.Peers seen).map dE) ∧ seen.Nodup ∧ ∀ i ∈ seen, i < t.Peers.length) (fun s => t.Peers.length - s.1.2.length) ?_ ⟨[], by rw [q728, List.length_map], List.nodup_nil, fun i hi => absurd hi List.not_mem_nil⟩
    rintro _ rec ⟨seen, rfl, hsn, hsl⟩ hrec
    have hlen : ((seenL w t.Peers seen).map dE).length = t.Peers.length := by rw [List.length_map, q36]
    have hsite := q532 w t.Peers seen; refine ⟨hlen, fun hall => ?_, fun i hi hni => ⟨hlen, hi, rfl, ?_⟩⟩
    · rw [hlen] at hall
      have hm := q729 (w := w) hall; rw [hm] at hsite ⊢; have e1 : (((t.Peers.map (markP w)).map dE).map fun p => (p.1.1, (q12.mk p.1.2.Site p.1.2.Common p.2))) = (t.Peers.map (markP w)).map keyP := q787 _; have hks : ((t.Peers.map (markP w)).map (·.Site)).Pairwise fun a b => a < b := by rw [hsite]; exact h.sites
      refine q79 (by omega) ⟨fun _ _ => rfl, ?_, ?_, ?_, ?_⟩
      · rw [e1, q199, hsite]; exact hn
      · rw [e1]
        intro p hp; obtain ⟨x, hx, rfl⟩ := List.mem_map.1 hp; obtain ⟨y, hy, rfl⟩ := List.mem_map.1 hx; obtain ⟨k, hk, rfl⟩ := List.getElem_of_mem hy; have := h.site k hk; rw [q34 hk] at this; exact iI (by show -9223372036854775808 ≤ (t.Peers[k]).Site; omega) (by show (t.Peers[k]).Site ≤ 9223372036854775807; omega)
      · rw [e1]; exact iL (by rw [List.length_map, List.length_map]; omega) (by omega)
      · have hl2 : ((t.Peers.map (markP w)).map (·.Site)).length = t.Peers.length := by rw [List.length_map, List.length_map]
        refine LoopW.upT t.Peers.length (fun k => ((k : Int), (t.Peers.take k).map (markP w))) rfl (fun k rec2 hk hrec2 => ?_) fun rec2 => ?_
        · unfold Z33
          simp only; rw [e1, q492 hks, key_at (hsite ▸ hn) (by rw [List.length_map]; exact hk), q600 _ hk]; exact ⟨fun _ => ⟨iX (by omega) (by omega), iL (by rw [q93, List.length_map, lenT (Nat.le_of_lt hk)]; omega) (by omega), iI (by omega) (by omega), hrec2 _ (Prod.ext rfl (q27 _ hk).symm)⟩, fun z => absurd (show (k : Int) < (((t.Peers.map (markP w)).map (·.Site)).length : Int) by omega) z⟩
        · unfold Z33
          simp only; rw [e1, q492 hks, q31]; exact ⟨fun z => absurd z (by omega), fun _ => hΦ⟩
    · rw [hlen] at hi
      have hx := q171 (w := w) (seen := seen) hi; rw [if_neg hni] at hx; have hb := h.bms i hi; have hin : inX v (ix t.Peers (i : Int)).Dirty.length := iX (by omega) (by have := hb.len; omega); have hml := q185 (ix t.Peers (i : Int)).Dirty w.Volume (setBm (ix (ix t.Peers (i : Int)).Dirty w.Volume) ⟨w.Start, (w.Data.length : Int)⟩).1; have hse := q718 hb hf; rw [q533 (by rw [q36]; exact hi), hx]; refine LoopW.upI 1 (fun k => ((k : Int), if k = 0 then (ix t.Peers (i : Int)).Dirty else markL (ix t.Peers (i : Int)).Dirty [w])) (fun _ => True) rfl trivial (fun k rec2 hk _ hrec2 => ?_) fun rec2 _ => ⟨fun z => absurd (show ((1 : Nat) : Int) < 1 from z) (by omega), fun _ => ⟨fun z => absurd rfl z, fun _ => ?_⟩⟩
      · obtain rfl : k = 0 := by omega
        refine ⟨fun _ => ⟨iX (by omega) (by show ((0 : Nat) : Int) < ((1 : Nat) : Int); omega), by show inX w.Volume _; rw [hv]; exact hin, ((setBm (ix (ix t.Peers (i : Int)).Dirty w.Volume) ⟨w.Start, (w.Data.length : Int)⟩).1, (setBm (ix (ix t.Peers (i : Int)).Dirty w.Volume) ⟨w.Start, (w.Data.length : Int)⟩).2, ()), q440 rfl, fun z => absurd hse z, fun _ => ⟨by show inX w.Volume _; rw [hv]; exact hin, iI (by omega) (by omega), hrec2 trivial _ rfl⟩⟩, fun z => absurd (show ((0 : Nat) : Int) < ((1 : Nat) : Int) by omega) z⟩
      · have eD : entD ((seenL w t.Peers seen).map dE) i = dE (ix t.Peers (i : Int)) := by rw [q533 (by rw [q36]; exact hi), hx]
        refine ⟨by rw [hlen]; exact hi, rfl, fun j hj => ?_, hrec _ ⟨i :: seen, ?_, List.nodup_cons.2 ⟨hni, hsn⟩, fun a ha => (List.mem_cons.1 ha).elim (fun e => by rw [e]; exact hi) (hsl a)⟩ ?_⟩
        · rw [eD, q533 (by rw [q36]; omega)]
          show (ix (seenL w t.Peers seen) (j : Int)).Site ≠ (ix t.Peers (i : Int)).Site; rw [q171 (by omega)]; have := h.asc j i hj hi
          split
          · show (ix t.Peers (j : Int)).Site ≠ _; omega
          · omega
        · rw [eD]
          refine Prod.ext rfl ?_; show ((seenL w t.Peers seen).map dE).set i (dE (markP w (ix t.Peers (i : Int)))) = _; rw [← q730 hi, List.map_set]
        · have this : (i :: seen).length ≤ t.Peers.length := q731 (List.nodup_cons.2 ⟨hni, hsn⟩) fun a ha => (List.mem_cons.1 ha).elim (fun e => by rw [e]; exact hi) (hsl a)
          rw [List.length_cons] at this; show t.Peers.length - (seen.length + 1) < t.Peers.length - seen.length; exact Nat.sub_lt_sub_left (by omega) (by omega)
theorem q732 (p : Nat → Bool) : ∀ d k : Nat, (∃ e, k ≤ e ∧ e < k + d ∧ p e = true ∧ ∀ j, k ≤ j → j < e → p j = false) ∨ ∀ j, k ≤ j → j < k + d → p j = false
  | 0, k => .inr fun j h1 h2 => absurd h2 (by omega)
  | d + 1, k => by
    cases hk : p k with
    | true => exact .inl ⟨k, Nat.le_refl _, by omega, hk, fun j h1 h2 => absurd h2 (by omega)⟩
    | false =>
      rcases q732 p d (k + 1) with ⟨e, h1, h2, h3, h4⟩ | h
      · refine .inl ⟨e, by omega, by omega, h3, fun j a b => ?_⟩
        by_cases q : j = k
        · rw [q]; exact hk
        · exact h4 j (by omega) b
      · refine .inr fun j a b => ?_
        by_cases q : j = k
        · rw [q]; exact hk
        · exact h j (by omega) (by omega)
theorem q733 {L : List Nat} {c e : Nat} (h : L[c]? = some e) : L.drop c = e :: L.drop (c + 1) := by
  obtain ⟨h1, h2⟩ := List.getElem?_eq_some_iff.1 h; rw [List.drop_eq_getElem_cons h1, h2]
theorem q788 (ws : List (BitVec 64)) (j : Nat) : elB ws 0 j = bitN ws j := by
  unfold elB; rw [decide_eq_true (show (0 : Int) ≤ (j : Int) by omega), Bool.true_and]
theorem q326 (ws : List (BitVec 64)) (k : Nat) : extsK ws k = q95 (elK ws 0 k) := by
  unfold extsK elK
  congr 1
def elF (k : Nat) : Int × Unit := ((k : Int), ())
theorem q534 (b : q9) : q78 b 0 ((elL b.Size b.Words 0).map elF) := by
  refine ⟨(chkB b, ()), q35 rfl, fun q => ?_, fun q => ?_⟩
  · rw [q544 q]; rfl
  have hc : ¬ chk b.Size b.Words ≠ 0 := q; have hn := q110 hc; refine LoopW.upT b.Words.length (fun i => (((elL b.Size b.Words 0).drop (elK b.Words 0 (64 * i)).length).map elF, (i : Int))) rfl (fun i rec hi hrec => ?_) fun rec => ⟨fun z => absurd (show (b.Words.length : Int) < (b.Words.length : Int) from z) (by omega), fun _ => ?_⟩
  · refine ⟨fun _ => ⟨iX (by omega) (by omega), (maskW (i : Int) 0 b.Size, ()), q223 (by omega) (by omega) (by omega) (by omega) (by omega) (by omega) rfl, ?_⟩, fun z => absurd (show (i : Int) < (b.Words.length : Int) by omega) z⟩
    refine LoopW.of_inv (fun s => ∃ p : Nat, s.1 = ((elL b.Size b.Words 0).drop (elK b.Words 0 p).length).map elF ∧ elX b.Size b.Words 0 i p s.2 ∧ 64 * i ≤ p ∧ p ≤ 64 * (i + 1)) (fun s => s.1.length) ?_ ⟨64 * i, rfl, q645 _ _ _ _, Nat.le_refl _, by omega⟩
    rintro ⟨_, x⟩ rec2 ⟨p, rfl, hx, h1, h2⟩ hrec2
    have hx : elX b.Size b.Words 0 i p x := hx; refine ⟨fun hne => ?_, fun he => ?_⟩
    · obtain ⟨t1, t2, t3, t4, t5, t6⟩ := q546 hx hne
      obtain ⟨g1, g2, g3⟩ := q750 hc h1 hx hne; refine ⟨iI (by omega) (by omega), ((Lib.ctz 64 x.toNat : Int), ()), ⟨hne, rfl⟩, iI (by simp only; omega) (by simp only; omega), ?_⟩
      have hd : (elL b.Size b.Words 0)[(elK b.Words 0 p).length]? = some (64 * i + Lib.ctz 64 x.toNat) := by
        rw [List.getD_eq_getElem?_getD, List.getElem?_eq_getElem g1] at g2; rw [List.getElem?_eq_getElem g1]; exact congrArg some g2
      have hd2 := q733 hd; simp only; rw [hd2]; refine ⟨Prod.ext ?_ rfl, hrec2 _ ⟨64 * i + Lib.ctz 64 x.toNat + 1, ?_, t6, by omega, by omega⟩ ?_, trivial⟩
      · show (i : Int) * 64 + (Lib.ctz 64 x.toNat : Int) = ((64 * i + Lib.ctz 64 x.toNat : Nat) : Int)
        omega
      · rw [g3]
      · simp only
        rw [hd2, List.map_cons, List.length_cons]; omega
    · have he : x = 0#64 := Classical.not_not.1 he
      subst he; refine ⟨iI (by omega) (by omega), hrec _ (Prod.ext ?_ rfl)⟩; have := elK_skip' h2 (elX_end hc hi h1 hx); simp only; rw [this]
  · have := elK_top (a := 0) hc (p := 64 * b.Words.length) (by omega) (Nat.le_refl _)
    rw [this, List.drop_eq_nil_of_le (Nat.le_refl _)]; rfl
def toX (e : Int × Int) : q8 := ⟨e.1, e.2⟩
def exts (b : q9) : List q8 := (extR b.Size b.Words).map toX
theorem ix_toX (es : List (Int × Int)) (k : Nat) : ix (es.map toX) (k : Int) = toX (es.getD k (0, 0)) := by
  show (es.map toX).getD k default = _; rw [List.getD_eq_getElem?_getD, List.getD_eq_getElem?_getD, List.getElem?_map]; cases es[k]? <;> rfl
theorem q441 (es : List (Int × Int)) (h : 0 < es.length) : ix (es.map toX) (((es.map toX).length : Int) - 1) = toX (es.getD (es.length - 1) (0, 0)) := by
  rw [← ix_toX]
  congr 1
  rw [List.length_map]; omega
theorem put_toX (es : List (Int × Int)) (h : 0 < es.length) (x : Int) : put (es.map toX) (((es.map toX).length : Int) - 1) ⟨(es.getD (es.length - 1) (0, 0)).1, x⟩ = (bumpE es (es.length - 1) x).map toX := by
  unfold put bumpE; rw [List.map_set, show (((es.map toX).length : Int) - 1).toNat = es.length - 1 by rw [List.length_map]; omega]; rfl
theorem q442 {es : List (Int × Int)} {i : Int} : ((0 < ((es.map toX).length : Int)) ∧ ((((ix (es.map toX) (((es.map toX).length : Int) - 1)).Start) + ((ix (es.map toX) (((es.map toX).length : Int) - 1)).Count)) = i)) ↔ q128 es i := by
  unfold q128; by_cases h : 0 < es.length
  · rw [q441 es h]
    simp only [toX, List.length_map]; constructor
    · rintro ⟨_, h2⟩; exact ⟨h, h2⟩
    · rintro ⟨_, h2⟩; exact ⟨by omega, h2⟩
  · constructor
    · rintro ⟨h1, _⟩; rw [List.length_map] at h1; omega
    · rintro ⟨h1, _⟩; exact absurd h1 h
theorem q789 {es : List (Int × Int)} {k : Nat} (hf : exB es (k : Int)) (hl : es.length ≤ k) (hk : k ≤ 100000) (h : 0 < ((es.map toX).length : Int)) : inI (((es.map toX).length : Int) - 1) ∧ inX (((es.map toX).length : Int) - 1) (es.map toX).length ∧
    inI (((ix (es.map toX) (((es.map toX).length : Int) - 1)).Start) + ((ix (es.map toX) (((es.map toX).length : Int) - 1)).Count)) := by
  have h' : 0 < es.length := by rw [List.length_map] at h; omega
  have hg := q499 hf (show es.length - 1 < es.length by omega); have e : (es.map toX).length = es.length := List.length_map _; rw [q441 es h']; simp only [toX]; exact ⟨iI (by omega) (by omega), iX (by omega) (by omega), iI (by omega) (by omega)⟩
theorem q734 {es : List (Int × Int)} {k : Nat} (hf : exB es (k : Int)) (hl : es.length ≤ k) (hk : k ≤ 100000) (h : q128 es (k : Int)) : inI (((es.map toX).length : Int) - 1) ∧ inX (((es.map toX).length : Int) - 1) (es.map toX).length ∧
    inI (((ix (es.map toX) (((es.map toX).length : Int) - 1)).Count) + 1) ∧
    put (es.map toX) (((es.map toX).length : Int) - 1) ⟨(ix (es.map toX) (((es.map toX).length : Int) - 1)).Start, ((ix (es.map toX) (((es.map toX).length : Int) - 1)).Count) + 1⟩ = (addX es (k : Int)).map toX := by
  have h' := h.1; have hg := q499 hf (show es.length - 1 < es.length by omega); have e : (es.map toX).length = es.length := List.length_map _; rw [q441 es h', q639 h, ← put_toX es h']; simp only [toX]; exact ⟨iI (by omega) (by omega), iX (by omega) (by omega), iI (by omega) (by omega), trivial⟩
theorem q601 {es : List (Int × Int)} {e : Nat} (h : ¬ q128 es (e : Int)) : es.map toX ++ [(q8.mk (e : Int) 1)] = (addX es (e : Int)).map toX := by
  rw [q748 h, List.map_append]; rfl
theorem q291 {b : q9} {Φ : List q8 → Prop} (hΦ : Φ (exts b)) : Z53 b Φ := by
  refine ⟨_, q534 b, ?_⟩; unfold exts at hΦ; by_cases hc : chk b.Size b.Words ≠ 0
  · rw [q544 hc]
    rw [q640 hc] at hΦ; exact ⟨1, hΦ⟩
  have hn := q110 hc; rw [q642 hc]; rw [q641 hc rfl] at hΦ; generalize hN : b.Size.toNat = n at hΦ; refine LoopW.of_inv (fun s => ∃ p : Nat, s = (((elK b.Words 0 n).drop (elK b.Words 0 p).length).map elF, (extsK b.Words p).map toX) ∧ p ≤ n) (fun s => s.1.length) ?_ ⟨0, rfl, Nat.zero_le _⟩
  rintro _ rec ⟨p, rfl, hp⟩ hrec
  rcases q732 (elB b.Words 0) (n - p) p with ⟨e, h1, h2, h3, h4⟩ | h
  · have hk := elK_skip' h1 h4
    have hg := q500 h3 (n := n) (by omega); have he : extsK b.Words p = extsK b.Words e := by rw [q326, q326, hk]
    have hy : extsK b.Words (e + 1) = addX (extsK b.Words e) (e : Int) := q451 (by rw [← q788]; exact h3); have hlen : (elK b.Words 0 (e + 1)).length = (elK b.Words 0 e).length + 1 := by rw [q643 h3, q93]
    rw [← hk]; have hd := q733 hg; have hf := q334 b.Words e; have hrec' : rec (((elK b.Words 0 n).drop ((elK b.Words 0 e).length + 1)).map elF, (addX (extsK b.Words e) (e : Int)).map toX) := hrec _ ⟨e + 1, by rw [hlen, hy], by omega⟩ (by simp only; rw [← hk, hd, List.map_cons, List.length_cons]; omega); have hdrop : ((elK b.Words 0 n).drop (elK b.Words 0 e).length).map elF = elF e :: ((elK b.Words 0 n).drop ((elK b.Words 0 e).length + 1)).map elF := by rw [hd]; rfl
    rw [hdrop, he]; refine ⟨fun hpos => ?_, fun hneg => ⟨iL (by rw [q93, List.length_map]; omega) (by omega), ?_⟩⟩
    · obtain ⟨g1, g2, g3⟩ := q789 hf.1 hf.2 (by omega) hpos
      refine ⟨g1, g2, g1, g2, g3, fun hj => ?_, fun hj => ⟨iL (by rw [q93, List.length_map]; omega) (by omega), ?_⟩⟩
      · obtain ⟨_, _, k3, k4⟩ := q734 hf.1 hf.2 (by omega) (q442.1 ⟨hpos, hj⟩)
        refine ⟨g1, g2, k3, g2, ?_⟩; rw [k4]; exact hrec'
      · have := q601 (es := extsK b.Words e) (e := e) fun q => hj (q442.2 q).2
        show rec (_, (extsK b.Words e).map toX ++ [(q8.mk (e : Int) 1)]); rw [this]; exact hrec'
    · have := q601 (es := extsK b.Words e) (e := e) fun q => hneg (q442.2 q).1
      show rec (_, (extsK b.Words e).map toX ++ [(q8.mk (e : Int) 1)]); rw [this]; exact hrec'
  · have hk := elK_skip' hp fun j a c => h j a (by omega)
    rw [← hk, List.drop_eq_nil_of_le (Nat.le_refl _)]; have he : extsK b.Words p = extsK b.Words n := by rw [q326, q326, hk]
    rw [he]; exact hΦ
theorem q404 (es : List (Int × Int)) (i : Int) : (∃ pre a c, es = pre ++ [(a, c)] ∧ a + c = i ∧ addX es i = pre ++ [(a, c + 1)] ∧ q128 es i) ∨ ((∀ pre a c, es = pre ++ [(a, c)] → a + c ≠ i) ∧ addX es i = es ++ [(i, 1)] ∧ ¬ q128 es i) := by
  rcases List.eq_nil_or_concat es with rfl | ⟨pre, p, rfl⟩
  · have hj : ¬ q128 [] i := fun h => absurd h.1 (by simp)
    exact .inr ⟨fun pre a c h => by simp at h, if_neg hj, hj⟩
  · obtain ⟨a, c⟩ := p
    rw [List.concat_eq_append]; have hl : (pre ++ [(a, c)]).length - 1 = pre.length := by simp
    have hg : (pre ++ [(a, c)]).getD ((pre ++ [(a, c)]).length - 1) (0, 0) = (a, c) := by rw [hl]; simp [List.getD_eq_getElem?_getD]
    by_cases h : a + c = i
    · have hj : q128 (pre ++ [(a, c)]) i := ⟨by simp, by rw [hg]; exact h⟩
      refine .inl ⟨pre, a, c, rfl, h, ?_, hj⟩; unfold addX; rw [if_pos hj, hg, hl]; unfold bumpE; simp
    · have hj : ¬ q128 (pre ++ [(a, c)]) i := fun q => h (by have := q.2; rw [hg] at this; exact this)
      refine .inr ⟨fun pre' a' c' q => ?_, if_neg hj, hj⟩; have := (List.append_inj' q rfl).2; cases this; exact h
def runX (n : Nat) (p : Nat → Bool) : List q8 := (q95 ((List.range n).filter p)).map toX
structure RunX (n : Nat) (p : Nat → Bool) (l : List q8) : Prop where
  can : CanE l
  mem : ∀ x, memE l x ↔ ∃ i : Nat, i < n ∧ p i = true ∧ x = (i : Int)
  low : ∀ e ∈ l, 0 ≤ e.Start ∧ e.Start + e.Count ≤ (n : Int)
  len : l.length ≤ n
theorem q148 (n : Nat) (p : Nat → Bool) : (List.range (n + 1)).filter p = (List.range n).filter p ++ (if p n then [n] else []) := q283 n p
theorem q494 (n : Nat) (p : Nat → Bool) : runX (n + 1) p = if p n = true then (addX (q95 ((List.range n).filter p)) (n : Int)).map toX else runX n p := by
  unfold runX; rw [q148]; by_cases h : p n = true
  · rw [if_pos h, if_pos h, q228]
  · rw [if_neg h, if_neg h, List.append_nil]
theorem RunX.add {n : Nat} {p : Nat → Bool} {es : List (Int × Int)} (h : RunX n p (es.map toX)) (hp : p n = true) : RunX (n + 1) p ((addX es (n : Int)).map toX) := by
  have split : ∀ x, (∃ i : Nat, i < n + 1 ∧ p i = true ∧ x = (i : Int)) ↔ (∃ i : Nat, i < n ∧ p i = true ∧ x = (i : Int)) ∨ x = (n : Int) := fun x => by
    constructor
    · rintro ⟨i, h1, h2, h3⟩
      rcases Nat.lt_or_ge i n with h4 | h4
      · exact .inl ⟨i, h4, h2, h3⟩
      · obtain rfl : i = n := by omega
        exact .inr h3
    · rintro (⟨i, h1, h2, h3⟩ | h3)
      · exact ⟨i, by omega, h2, h3⟩
      · exact ⟨n, by omega, hp, h3⟩
  rcases q404 es (n : Int) with ⟨pre, a, c, rfl, h1, h2, _⟩ | ⟨h1, h2, _⟩
  · rw [h2]
    rw [List.map_append] at h ⊢; have hm : ∀ e ∈ pre.map toX, e.Start + e.Count < a := fun e he => (List.pairwise_append.1 h.can.asc).2.2 e he _ (List.mem_singleton.2 rfl); have hlo := h.low (toX (a, c)) (List.mem_append_right _ (List.mem_singleton.2 rfl)); have hpo := h.can.pos (toX (a, c)) (List.mem_append_right _ (List.mem_singleton.2 rfl)); have hlo1 : 0 ≤ a := hlo.1; have hpo : 0 < c := hpo; refine ⟨⟨List.pairwise_append.2 ⟨(List.pairwise_append.1 h.can.asc).1, List.pairwise_singleton _ _, fun e he f hf => ?_⟩, fun e he => ?_⟩, fun x => ?_, fun e he => ?_, ?_⟩
    · obtain rfl := List.mem_singleton.1 hf; exact hm e he
    · rcases List.mem_append.1 he with he | he
      · exact h.can.pos e (List.mem_append_left _ he)
      · obtain rfl := List.mem_singleton.1 he; show 0 < c + 1; omega
    · rw [split, ← h.mem, q167, q167]
      have e1 : ∀ d, memE ([(a, d)].map toX) x ↔ a ≤ x ∧ x < a + d := fun d => by
        show memE [⟨a, d⟩] x ↔ _; rw [q41]; exact ⟨fun q => q.elim id fun q => absurd q q260, .inl⟩
      rw [e1, e1, or_assoc]; have : (a ≤ x ∧ x < a + (c + 1)) ↔ ((a ≤ x ∧ x < a + c) ∨ x = (n : Int)) := by omega
      rw [this]
    · rcases List.mem_append.1 he with he | he
      · have := h.low e (List.mem_append_left _ he); omega
      · obtain rfl := List.mem_singleton.1 he
        show 0 ≤ a ∧ a + (c + 1) ≤ ((n + 1 : Nat) : Int); omega
    · have := h.len
      simp at this ⊢; omega
  · rw [h2]
    have hlt : ∀ e ∈ es.map toX, e.Start + e.Count < (n : Int) := fun e he => by
      rcases List.eq_nil_or_concat es with rfl | ⟨pre, q, rfl⟩
      · cases he
      · obtain ⟨a, c⟩ := q
        rw [List.concat_eq_append] at *; have h3 := h1 pre a c rfl; have h4 : a + c ≤ (n : Int) := (h.low (toX (a, c)) (by simp)).2; rw [List.map_append] at he; rcases List.mem_append.1 he with he | he
        · have h5 := h.can.asc
          rw [List.map_append] at h5; have : e.Start + e.Count < a := (List.pairwise_append.1 h5).2.2 e he _ (List.mem_singleton.2 rfl); have hpo : 0 < c := h.can.pos (toX (a, c)) (by simp); omega
        · obtain rfl := List.mem_singleton.1 he
          show a + c < (n : Int); omega
    rw [List.map_append]; refine ⟨⟨List.pairwise_append.2 ⟨h.can.asc, List.pairwise_singleton _ _, fun e he f hf => ?_⟩, fun e he => ?_⟩, fun x => ?_, fun e he => ?_, ?_⟩
    · obtain rfl := List.mem_singleton.1 hf; exact hlt e he
    · rcases List.mem_append.1 he with he | he
      · exact h.can.pos e he
      · obtain rfl := List.mem_singleton.1 he; show (0 : Int) < 1; omega
    · rw [split, ← h.mem, q167]
      have e1 : memE ([((n : Int), (1 : Int))].map toX) x ↔ x = (n : Int) := by
        show memE [⟨(n : Int), 1⟩] x ↔ _; rw [q41]; constructor
        · rintro (⟨q1, q2⟩ | q)
          · simp only at q1 q2; omega
          · exact absurd q q260
        · rintro rfl; exact .inl ⟨by simp, by simp only; omega⟩
      rw [e1]
    · rcases List.mem_append.1 he with he | he
      · have := h.low e he; omega
      · obtain rfl := List.mem_singleton.1 he
        show 0 ≤ (n : Int) ∧ (n : Int) + 1 ≤ ((n + 1 : Nat) : Int); omega
    · have := h.len
      simp at this ⊢; omega
theorem q28 (p : Nat → Bool) : ∀ n : Nat, RunX n p (runX n p)
  | 0 => ⟨⟨by simp [runX, q95], fun e he => by simp [runX, q95] at he⟩, fun x => ⟨fun h => by simp [runX, q95, memE] at h, fun ⟨i, h, _⟩ => absurd h (Nat.not_lt_zero i)⟩, fun e he => by simp [runX, q95] at he, by simp [runX, q95]⟩
  | n + 1 => by
    have ih := q28 p n; rw [q494]; by_cases h : p n = true
    · rw [if_pos h]; exact RunX.add ih h
    · rw [if_neg h]
      refine ⟨ih.can, fun x => ?_, fun e he => by have := ih.low e he; omega, by have := ih.len; omega⟩; rw [ih.mem]; constructor
      · rintro ⟨i, h1, h2, h3⟩; exact ⟨i, by omega, h2, h3⟩
      · rintro ⟨i, h1, h2, h3⟩
        refine ⟨i, ?_, h2, h3⟩; rcases Nat.lt_or_ge i n with h4 | h4
        · exact h4
        · obtain rfl : i = n := by omega
          exact absurd h2 h
theorem RunX.eq {n : Nat} {p : Nat → Bool} {l : List q8} (hc : CanE l) (hm : ∀ x, memE l x ↔ ∃ i : Nat, i < n ∧ p i = true ∧ x = (i : Int)) : l = runX n p :=
  CanE.uniq hc (q28 p n).can fun x => by rw [hm, (q28 p n).mem]
theorem q200 {n : Nat} {p : Nat → Bool} (hn : n ≤ 4096) : GoodE (runX n p) :=
  ⟨fun e he => ⟨((q28 p n).low e he).1, (q28 p n).can.pos e he, by have := ((q28 p n).low e he).2; omega⟩⟩
theorem q405 {n : Nat} {p q : Nat → Bool} (h : ∀ i, i < n → p i = q i) : runX n p = runX n q := by
  refine RunX.eq (q28 p n).can fun x => ?_; rw [(q28 p n).mem]; exact ⟨fun ⟨i, h1, h2, h3⟩ => ⟨i, h1, by rw [← h i h1]; exact h2, h3⟩, fun ⟨i, h1, h2, h3⟩ => ⟨i, h1, by rw [h i h1]; exact h2, h3⟩⟩
theorem q790 {b : q9} {n : Nat} (h : chkB b = 0) (hn : b.Size = (n : Int)) : exts b = runX n (bitN b.Words) := by
  unfold exts runX; rw [q641 (k := n) (fun q => q h) (by omega)]; rfl
theorem q791 {n : Nat} {p q : Nat → Bool} {x : Int} : keepF (fun p q => p && q) (runX n p) (runX n q) x ↔ ∃ i : Nat, i < n ∧ (p i && q i) = true ∧ x = (i : Int) := by
  unfold keepF; simp only [Bool.and_eq_true, decide_eq_true_eq]; rw [q168.2, q168.2, (q28 p n).mem, (q28 q n).mem]; constructor
  · rintro ⟨⟨i, h1, h2, rfl⟩, j, h3, h4, h5⟩
    obtain rfl : i = j := by omega
    exact ⟨i, h1, ⟨h2, h4⟩, rfl⟩
  · rintro ⟨i, h1, ⟨h2, h3⟩, rfl⟩; exact ⟨⟨i, h1, h2, rfl⟩, i, h1, h3, rfl⟩
theorem q215 {n : Nat} {p q : Nat → Bool} {Φ : List q8 → Prop} (hn : n ≤ 4096) (hΦ : Φ (runX n fun i => p i && q i)) : Z101 (runX n p) (runX n q) Φ :=
  q178 (q200 hn) (q200 hn) (by have := (q28 p n).len; omega) (by have := (q28 q n).len; omega) fun l hc hm _ => by
    rw [RunX.eq (n := n) (p := fun i => p i && q i) hc fun x => by rw [hm x, q791]]; exact hΦ
theorem q216 {n : Nat} {p q : Nat → Bool} {Φ : List q8 → Prop} (hn : n ≤ 4096) (h : ∀ i, i < n → p i = true → q i = true) (hΦ : Φ []) : Z135 (runX n p) (runX n q) Φ :=
  q196 (q200 hn) (q200 hn) (by have := (q28 p n).len; omega) (by have := (q28 q n).len; omega) fun l hc hm _ => by
    have : l = [] := by
      cases l with
      | nil => rfl
      | cons e r =>
        exfalso; have h1 := (hm e.Start).1 (q41.2 (.inl ⟨Int.le_refl _, by have := hc.pos e List.mem_cons_self; omega⟩)); unfold keepF at h1; simp only [Bool.and_eq_true, decide_eq_true_eq, Bool.not_eq_true', decide_eq_false_iff_not] at h1; rw [q168.2, q168.2, (q28 p n).mem, (q28 q n).mem] at h1; obtain ⟨⟨i, h2, h3, h4⟩, h5⟩ := h1; exact h5 ⟨i, h2, h i h2 h3, h4⟩
    rw [this]; exact hΦ
theorem q792 (x : Int) : covE [] x = 0 := rfl
theorem q292 {n : Nat} {p : Nat → Bool} {Φ : List q8 → Prop} (hn : n ≤ 4096) (hΦ : Φ (runX n p)) : Z161 (runX n p) [] Φ :=
  q264 (q200 hn) ⟨fun e he => by cases he⟩ (by have := (q28 p n).len; omega) (by simp) fun l hc hm _ => by
    rw [RunX.eq (n := n) (p := p) hc fun x => by
      rw [hm x]; unfold keepF; simp only [Bool.or_eq_true, decide_eq_true_eq]; rw [q792, q168.2, (q28 p n).mem]
      exact ⟨fun q => q.elim id fun q => absurd q (by omega), .inl⟩]
    exact hΦ
theorem orB_ok {a b : q9} (ha : chkB a = 0) (hb : chkB b = 0) (hs : a.Size = b.Size) : (orB a b).2 = 0 ∧ chkB (orB a b).1 = 0 ∧ (orB a b).1.Size = a.Size ∧ ∀ i : Nat, (i : Int) < a.Size → (bitN (orB a b).1.Words i = true ↔ bitN a.Words i = true ∨ bitN b.Words i = true) := by
  have wa := q110 (b := a) (by simpa using ha); have wb := q110 (b := b) (by simpa using hb); unfold chkB at ha hb; unfold orB; rw [q542 (q633 (by simpa using ha) (by simpa using hb) (by omega))]; rw [← hs] at hb; refine ⟨rfl, chk_zip (· || ·) rfl (fun _ _ _ _ => BitVec.getLsbD_or) ha hb, rfl, fun i hi => ?_⟩; show bitN (List.zipWith (fun x y => x ||| y) a.Words b.Words) i = true ↔ _; rw [bit_or (by omega) (by omega), Bool.or_eq_true]
theorem ix_last {α : Type} [Dt α] (pre : List α) (x : α) : ix (pre ++ [x]) (((pre ++ [x]).length : Int) - 1) = x := by
  rw [show (((pre ++ [x]).length : Int) - 1) = ((pre.length : Nat) : Int) by simp, q479]; simp [List.getD_eq_getElem?_getD]
theorem q793 {α : Type} (pre : List α) (x y : α) : put (pre ++ [x]) (((pre ++ [x]).length : Int) - 1) y = pre ++ [y] := by
  rw [show (((pre ++ [x]).length : Int) - 1) = ((pre.length : Nat) : Int) by simp, q528]; simp
def difB (a b : List Sec) (i : Nat) : Bool := decide (ix a (i : Int) ≠ ix b (i : Int))
def endX (es : List (Int × Int)) : Int := match es.getLast? with
  | some p => p.1 + p.2
  | none => -1
theorem q271 (pre : List (Int × Int)) (a c : Int) : endX (pre ++ [(a, c)]) = a + c := by unfold endX; simp
theorem q314 {a b : List Sec} {Φ : List q8 → Prop} (hl : a.length = b.length) (hn : a.length ≤ 4096) (hΦ : Φ (runX a.length (difB a b))) : Z68 a b Φ := by
  unfold Z68; refine LoopW.upT a.length (fun k => ((k : Int), endX (q95 ((List.range k).filter (difB a b))), runX k (difB a b))) rfl (fun k rec hk hr => ?_) fun rec => ⟨fun q => absurd q (by omega), fun _ => hΦ⟩
  have hr := hr _ rfl; have hok := q28 (difB a b) k; have hr' : rec ((k : Int) + 1, endX (q95 ((List.range (k + 1)).filter (difB a b))), runX (k + 1) (difB a b)) := hr; rw [q494, q148] at hr'; refine ⟨fun _ => ⟨iX (by omega) (by omega), iX (by omega) (by omega), fun hd => ?_, fun hd => ?_⟩, fun q => absurd (show (k : Int) < (a.length : Int) by omega) q⟩
  · have hp : difB a b k = true := decide_eq_true hd
    rw [if_pos hp, if_pos hp, q228] at hr'; have hlen := hok.len; unfold runX at hok hlen ⊢; generalize q95 ((List.range k).filter (difB a b)) = es at hr' hok hlen ⊢; rcases q404 es (k : Int) with ⟨pre, x, c, rfl, h1, h2, _⟩ | ⟨h1, h2, _⟩
    · rw [h2, q271] at hr'
      rw [List.length_map] at hlen; have hlo := hok.low (toX (x, c)) (by simp); have hc : 0 < c := hok.can.pos (toX (x, c)) (by simp); have hx : 0 ≤ x := hlo.1; have e1 : ((pre ++ [(x, c)]).map toX) = pre.map toX ++ [toX (x, c)] := by simp
      refine ⟨fun _ => ?_, fun q => absurd (by rw [q271]; omega) q⟩; rw [e1, ix_last, q793]
      have hX : inX (((pre.map toX ++ [toX (x, c)]).length : Int) - 1) (pre.map toX ++ [toX (x, c)]).length := by
        have e2 : ((pre.map toX ++ [toX (x, c)]).length : Int) = (pre.length : Int) + 1 := by simp
        exact iX (by omega) (by omega)
      have hI : inI (((pre.map toX ++ [toX (x, c)]).length : Int) - 1) := by
        have e2 : ((pre.map toX ++ [toX (x, c)]).length : Int) = (pre.length : Int) + 1 := by simp
        have e3 : (pre ++ [(x, c)]).length = pre.length + 1 := by simp
        exact iI (by omega) (by omega)
      refine ⟨hI, hX, iI (by show -9223372036854775808 ≤ c + 1; omega) (by show c + 1 ≤ _; omega), hX, iI (by omega) (by omega), iI (by omega) (by omega), ?_⟩; rw [List.map_append] at hr'; rw [show x + (c + 1) = (k : Int) + 1 by omega] at hr'; exact hr'
    · rw [h2, q271] at hr'
      have hne : ¬ ((k : Int) = endX es) := fun q => by
        rcases List.eq_nil_or_concat es with rfl | ⟨pre, p, rfl⟩
        · have : endX [] = -1 := rfl
          omega
        · obtain ⟨x, c⟩ := p
          rw [List.concat_eq_append] at *; rw [q271] at q; exact h1 pre x c rfl q.symm
      refine ⟨fun q => absurd q hne, fun _ => ⟨iL (by rw [List.length_append, List.length_singleton]; omega) (by omega), iI (by omega) (by omega), iI (by omega) (by omega), ?_⟩⟩; rw [List.map_append] at hr'; exact hr'
  · have hp : ¬ difB a b k = true := fun q => hd (of_decide_eq_true q)
    rw [if_neg hp, if_neg hp, List.append_nil] at hr'; exact ⟨iI (by omega) (by omega), hr'⟩
theorem q622 {l : List Int} {Φ : Bool → Prop} (hl : l.length ≤ 1000000) (hΦ : Φ true) : Z66 l l Φ := by
  refine ⟨fun q => absurd rfl q, fun _ => LoopW.upT l.length (fun k => (k : Int)) rfl (fun k rec hk hr => ⟨fun _ => ⟨iX (by omega) (by omega), iX (by omega) (by omega), fun q => absurd rfl q, fun _ => ⟨iI (by omega) (by omega), hr _ rfl⟩⟩, fun q => absurd (show (k : Int) < (l.length : Int) by omega) q⟩) fun rec => ⟨fun q => absurd q (by omega), fun _ => hΦ⟩⟩
theorem q535 {l : List q8} {Φ : Bool → Prop} (hl : l.length ≤ 1000000) (hΦ : Φ true) : Z137 l l Φ := by
  refine ⟨fun q => absurd rfl q, fun _ => LoopW.upT l.length (fun k => (k : Int)) rfl (fun k rec hk hr => ⟨fun _ => ⟨iX (by omega) (by omega), iX (by omega) (by omega), fun q => absurd rfl q, fun _ => ⟨iI (by omega) (by omega), hr _ rfl⟩⟩, fun q => absurd (show (k : Int) < (l.length : Int) by omega) q⟩) fun rec => ⟨fun q => absurd q (by omega), fun _ => hΦ⟩⟩
theorem q536 {l : List Sec} {Φ : Bool → Prop} (hl : l.length ≤ 1000000) (hΦ : Φ true) : Z142 l l Φ := by
  refine ⟨fun q => absurd rfl q, fun _ => LoopW.upT l.length (fun k => (k : Int)) rfl (fun k rec hk hr => ⟨fun _ => ⟨iX (by omega) (by omega), iX (by omega) (by omega), fun q => absurd rfl q, fun _ => ⟨iI (by omega) (by omega), hr _ rfl⟩⟩, fun q => absurd (show (k : Int) < (l.length : Int) by omega) q⟩) fun rec => ⟨fun q => absurd q (by omega), fun _ => hΦ⟩⟩
theorem q360 {im : List (List Sec)} {Φ : Bool → Prop} (hs : imgE im = 0) (hΦ : Φ true) : q134 im im Φ := by
  have hl := q19 hs; rw [q15] at hl; refine ⟨fun q => absurd rfl q, fun _ => LoopW.upT im.length (fun k => (k : Int)) rfl (fun k rec hk hr => ⟨fun _ => ⟨iX (by omega) (by omega), iX (by omega) (by omega), q536 (by have := q50 hs k hk; omega) ⟨fun q => absurd rfl q, fun _ => ⟨iI (by omega) (by omega), hr _ rfl⟩⟩⟩, fun q => absurd (show (k : Int) < (im.length : Int) by omega) q⟩) fun rec => ⟨fun q => absurd q (by omega), fun _ => hΦ⟩⟩
theorem q443 {a b : List (List Sec)} {Φ : Int → Prop} (ha : imgE a = 0) (hs : szs a = szs b) (hΦ : Φ 0) : q195 a b Φ := by
  have hl := q19 ha; rw [q15] at hl; have hlb : b.length = a.length := by rw [← q15 a, hs, q15]
  have hb : imgE b = 0 := by unfold imgE at ha ⊢; rw [← hs]; exact ha
  have h1 : inX (0 : Int) ([a, b] : List (List (List Sec))).length := iX (by omega) (by simp); have h2 : inX ((0 : Int) + 1) ([a, b] : List (List (List Sec))).length := iX (by omega) (by simp); refine ⟨3, ⟨fun _ => ⟨h1, q40 (by show a.length ≤ 100000; omega) ⟨fun q => absurd ha q, fun _ => ⟨iI (by omega) (by omega), ?_⟩⟩⟩, fun q => absurd (show (0 : Int) < _ by simp) q⟩⟩; refine ⟨fun _ => ⟨h2, q40 (by show b.length ≤ 100000; omega) ⟨fun q => absurd hb q, fun _ => ⟨iI (by omega) (by omega), ?_⟩⟩⟩, fun q => absurd (show (0 : Int) + 1 < _ by simp) q⟩; refine ⟨fun q => absurd q (by simp), fun _ => q137 (by omega) (q137 (by omega) ?_)⟩; rw [← hs]; exact q622 (by rw [q15]; omega) ⟨fun q => absurd rfl q, fun _ => hΦ⟩
def difX (a b : List (List Sec)) : List (List q8) := (List.range a.length).map fun v : Nat => runX (ix a (v : Int)).length (difB (ix a (v : Int)) (ix b (v : Int)))
theorem q75 (a b : List (List Sec)) : (difX a b).length = a.length := by unfold difX; simp
theorem q305 {α : Type} [Dt α] (f : Nat → α) {n v : Nat} (h : v < n) : ix ((List.range n).map f) (v : Int) = f v := by
  rw [q34 (by simp; exact h)]; simp
theorem q293 {a b : List (List Sec)} {v : Nat} (h : v < a.length) : ix (difX a b) (v : Int) = runX (ix a (v : Int)).length (difB (ix a (v : Int)) (ix b (v : Int))) := q305 _ h
theorem q139 {α : Type} (f : Nat → α) (n : Nat) : (List.range (n + 1)).map f = (List.range n).map f ++ [f n] := by rw [List.range_succ, List.map_append]; rfl
theorem q272 {a b : List (List Sec)} (hs : szs a = szs b) : b.length = a.length ∧ ∀ v : Nat, v < a.length → (ix b (v : Int)).length = (ix a (v : Int)).length := by
  have hlb : b.length = a.length := by rw [← q15 a, hs, q15]
  refine ⟨hlb, fun v hv => ?_⟩; have : ix (szs a) (v : Int) = ix (szs b) (v : Int) := by rw [hs]
  rw [q88 hv, q88 (by omega)] at this; omega
theorem q123 {a b : List (List Sec)} {Φ : List (List q8) × Int → Prop} (ha : imgE a = 0) (hs : szs a = szs b) (hΦ : Φ (difX a b, 0)) : Z70 a b Φ := by
  have hl := q19 ha; rw [q15] at hl; obtain ⟨hlb, hv⟩ := q272 hs; refine q443 ha hs ⟨fun q => absurd rfl q, fun _ => ?_⟩; refine LoopW.upT a.length (fun k => ((k : Int), (List.range k).map fun v : Nat => runX (ix a (v : Int)).length (difB (ix a (v : Int)) (ix b (v : Int))))) rfl (fun k rec hk hr => ⟨fun _ => ⟨iX (by omega) (by omega), iX (by omega) (by omega), (_, ()), q314 (hv k hk).symm (by have := q50 ha k hk; omega) rfl, iL (by simp; omega) (by omega), iI (by omega) (by omega), hr _ (by rw [q139]; rfl)⟩, fun q => absurd (show (k : Int) < (a.length : Int) by omega) q⟩) fun rec => ⟨fun q => absurd q (by omega), fun _ => hΦ⟩
theorem q735 {a b : List (List Sec)} (hs : szs a = szs b) : difX b a = difX a b := by
  obtain ⟨hlb, hv⟩ := q272 hs; refine q303 (by rw [q75, q75, hlb]) fun v h => ?_; rw [q75, hlb] at h; rw [q293 (by omega), q293 h, hv v h]; exact q405 fun i _ => decide_eq_decide.2 ⟨fun q r => q r.symm, fun q r => q r.symm⟩
structure RunsX (im : List (List Sec)) (l : List (List q8)) (p : Nat → Nat → Bool) : Prop where
  len : l.length = im.length
  at_ : ∀ v : Nat, v < im.length → ix l (v : Int) = runX (ix im (v : Int)).length (p v)
theorem q315 {n : Nat} {p : Nat → Bool} {Φ : Int → Prop} (hn : n ≤ 4096) (hΦ : Φ 0) : Z73 (runX n p) (n : Int) Φ := by
  have h := q28 p n; refine ⟨fun q => absurd q (by omega), fun _ => ⟨fun q => absurd q (by omega), fun _ => ?_⟩⟩; have hlen := h.len; generalize runX n p = l at h hlen
  have hat : ∀ k : Nat, k < l.length → 0 < (ix l (k : Int)).Count ∧ 0 ≤ (ix l (k : Int)).Start ∧ (ix l (k : Int)).Start + (ix l (k : Int)).Count ≤ (n : Int) := fun k hk => by
    have hm := q45 (xs := l) (i := (k : Int)) (iX (by omega) (by omega)); exact ⟨h.can.pos _ hm, h.low _ hm⟩
  refine LoopW.upS l.length (fun s => s.2) (fun k s => (k = 0 → s.1 = 0) ∧ (0 < k → s.1 = (ix l ((k : Int) - 1)).Start + (ix l ((k : Int) - 1)).Count + 1)) ?_ (s0 := (0, 0)) 0 rfl (Nat.zero_le _) ⟨fun _ => rfl, fun q => absurd q (by omega)⟩
  rintro k ⟨v1, v2⟩ rec hk hi ⟨i1, i2⟩ hr
  simp only at hi i1 i2; subst hi; refine ⟨fun q => ?_, fun _ => hΦ⟩; have hkl : k < l.length := by omega
  obtain ⟨g1, g2, g3⟩ := hat k hkl
  have hstart : v1 ≤ (ix l (k : Int)).Start := by
    rcases Nat.eq_zero_or_pos k with h0 | h0
    · rw [i1 h0]; exact g2
    · rw [i2 h0]
      have := List.pairwise_iff_getElem.1 h.can.asc (k - 1) k (by omega) hkl (by omega); rw [show ((k : Int) - 1) = ((k - 1 : Nat) : Int) by omega, q34 (by omega), q34 hkl]; omega
  have J : Z71 l v1 (k : Int) rec Φ false := ⟨fun q => (by cases q), fun _ => ⟨fun q => absurd q (by omega), fun _ => ⟨iI (by omega) (by omega), iI (by omega) (by omega), iI (by omega) (by omega), hr _ hkl rfl ⟨fun q => absurd q (by omega), fun _ => by simp⟩⟩⟩⟩
  refine ⟨iX (by omega) q, fun q => absurd q (by omega), fun _ => ⟨fun q => absurd q (by omega), fun _ => ⟨iI (by omega) (by omega), ?_⟩⟩⟩; rw [decide_eq_false (by omega)]; exact J
theorem q444 {l : List Bool} {Φ : Bool → Prop} (hl : l.length ≤ 1000000) (h : ∀ b ∈ l, b = true) (hΦ : Φ false) : Z76 l false Φ := by
  refine LoopW.upT l.length (fun k => (k : Int)) rfl (fun k rec hk hr => ⟨fun _ => ⟨iX (by omega) (by omega), fun q => ?_, fun _ => ⟨iI (by omega) (by omega), hr _ rfl⟩⟩, fun q => absurd (show (k : Int) < (l.length : Int) by omega) q⟩) fun rec => ⟨fun q => absurd q (by omega), fun _ => hΦ⟩
  rw [h _ (q45 (iX (by omega) (by omega)))] at q; cases q
theorem q225 {im : List (List Sec)} {l : List (List q8)} {p : Nat → Nat → Bool} {Φ : Int → Prop} (hs : imgE im = 0) (h : RunsX im l p) (hΦ : Φ 0) : q108 im l Φ := by
  have hl := q19 hs; rw [q15] at hl; have h1 := h.len; refine ⟨fun q => absurd (by rw [h1]) q, fun _ => LoopW.upT l.length (fun k => ((k : Int), List.replicate k true)) rfl (fun k rec hk hr => ⟨fun _ => ⟨iX (by omega) (by omega), iX (by omega) (by omega), ?_⟩, fun q => absurd (show (k : Int) < (l.length : Int) by omega) q⟩) fun rec => ⟨fun q => absurd q (by omega), fun _ => q444 (by simp; omega) (fun b hb => (List.mem_replicate.1 hb).2) ⟨fun q => (by cases q), fun _ => hΦ⟩⟩⟩; rw [h.at_ k (by omega)]; exact q315 (by have := q50 hs k (by omega); omega) ⟨iL (by simp; omega) (by omega), iI (by omega) (by omega), hr _ (by rw [List.replicate_succ']; rfl)⟩
theorem q361 {a b : List (List Sec)} : RunsX a (difX a b) fun v => difB (ix a (v : Int)) (ix b (v : Int)) := ⟨q75 a b, fun _ hv => q293 hv⟩
theorem q177 {a b : List (List Sec)} {l : List (List q8)} {p : Nat → Nat → Bool} {Φ : List (List q8) × Int → Prop} (ha : imgE a = 0) (hs : szs a = szs b) (h : RunsX a l p) (hp : ∀ v i : Nat, v < a.length → i < (ix a (v : Int)).length → difB (ix a (v : Int)) (ix b (v : Int)) i = true → p v i = true) (hΦ : Φ (difX a b, 0)) : Z103 a b l Φ := by
  have hl := q19 ha; rw [q15] at hl; have h1 := h.len; refine q123 ha hs ⟨fun q => absurd rfl q, fun _ => q225 ha h ⟨fun q => absurd rfl q, fun _ => ?_⟩⟩; refine LoopW.upT a.length (fun k => ((k : Int), (List.range k).map fun v : Nat => runX (ix a (v : Int)).length (difB (ix a (v : Int)) (ix b (v : Int))))) rfl (fun k rec hk hr => ⟨fun _ => ⟨iX (by omega) (by show _ < ((difX a b).length : Int); rw [q75]; omega), iX (by omega) (by omega), ?_⟩, fun q => absurd (show (k : Int) < ((difX a b).length : Int) by rw [q75]; omega) q⟩) fun rec => ⟨fun q => absurd (show (a.length : Int) < ((difX a b).length : Int) from q) (by rw [q75]; omega), fun _ => hΦ⟩
  show Z101 (ix (difX a b) (k : Int)) (ix l (k : Int)) _; rw [q293 hk, h.at_ k hk]; refine q215 (by have := q50 ha k hk; omega) ?_
  rw [q405 (q := difB (ix a (k : Int)) (ix b (k : Int))) fun i hi => by
    cases hd : difB (ix a (k : Int)) (ix b (k : Int)) i with
    | false => rfl
    | true => rw [hp k i hk hi hd]; rfl]
  exact ⟨iL (by simp; omega) (by omega), iI (by omega) (by omega), hr _ (by rw [q139]; rfl)⟩
theorem q362 {a b : List (List Sec)} {Φ : Bool × Int → Prop} (ha : imgE a = 0) (hs : szs a = szs b) (hΦ : Φ (true, 0)) : Z140 a b (difX a b) Φ := by
  have hl := q19 ha; rw [q15] at hl; refine q177 ha hs q361 (fun _ _ _ _ q => q) ⟨fun q => absurd rfl q, fun _ => q123 ha hs ⟨fun q => absurd rfl q, fun _ => ⟨fun q => absurd rfl q, fun _ => ?_⟩⟩⟩; refine LoopW.upT a.length (fun k => (k : Int)) rfl (fun k rec hk hr => ⟨fun q => ⟨iX (by omega) q, iX (by omega) q, ?_⟩, fun q => absurd (show (k : Int) < ((difX a b).length : Int) by rw [q75]; omega) q⟩) fun rec => ⟨fun q => absurd (show (a.length : Int) < ((difX a b).length : Int) from q) (by rw [q75]; omega), fun _ => hΦ⟩
  refine q535 ?_ ⟨fun q => absurd rfl q, fun _ => ⟨iI (by omega) (by omega), hr _ rfl⟩⟩; show (ix (difX a b) (k : Int)).length ≤ _; rw [q293 hk]; have := (q28 (difB (ix a (k : Int)) (ix b (k : Int))) (ix a (k : Int)).length).len; have := q50 ha k hk; omega
end Go.Proofs.YtbcembjnddnneaaGreatDoor
