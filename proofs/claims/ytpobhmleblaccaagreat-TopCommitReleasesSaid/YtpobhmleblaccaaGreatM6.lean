/- Part 6 of the proof of the statement TopCommitReleasesSaid: lemmas. No condition of its own. -/
import Derived.Lib.TrailingZeros
import Derived.Shelf.SlicesG.Cmp
import Derived.Shelf.SlGeneric
import Derived.Ground.SlgcProg
import Derived.Ground.SlgmProg
import Derived.Ground.SlsfProg
import Derived.Shelf.SortM.Plain
import Derived.Shelf.SortM.SortNone
import Derived.Test.YtpobhmleblaccaaGreatM5
namespace Go.Proofs.YtpobhmleblaccaaGreat
open Go.RowKit
theorem mo : Tryz.prog.follows .mixedOrders = true := by kernel_rfl
theorem okU {cs : List (Ct DD)} {pl : List PE} {S : List (List Nat × Nat)} {K : List (Sk DD)} {c : Ct DD} (h : Eqn cs pl S K c) (hE : Env.Ok (⟨Tryz.prog, tab, cs, pl, [], gh, [], S, K⟩ : Env DD)) : c.Ok Tryz.prog tab gh := Ct.lift hE 9 c fun x Φ => by rw [h x Φ]; exact id
theorem ok25 : ct25.Ok Tryz.prog tab gh := okU eq25 ⟨tabOk, trivial, mo, trivial, ghUp, trivial, trivial⟩
theorem ok107 : ct107.Ok Tryz.prog tab gh := okU eq107 ⟨tabOk, trivial, mo, trivial, ghUp, trivial, trivial⟩
theorem okT107 : ct107.Ok Tryz.prog tab ghT := Ct.lift (E := ⟨Tryz.prog, tab, [], pl107, [], ghT, [], [], []⟩) ⟨tabOk, trivial, mo, trivial, fun _ _ _ _ => trivial, trivial, trivial⟩ 9 ct107 fun x Φ => by
  have h : ct107.W x Φ = topF ⟨Tryz.prog, tab, [], pl107, [], ghT, [], [], []⟩ 9 ct107.f ct107.ps ct107.rs ct107.own x Φ := by kernel_rfl
  rw [h]; exact id
theorem ok64 : ct64.Ok Tryz.prog tab gh := okU eq64 ⟨tabOk, ⟨ok107, trivial⟩, mo, trivial, ghUp, trivial, trivial⟩
theorem okT64 : ct64.Ok Tryz.prog tab ghT := Ct.lift (E := ⟨Tryz.prog, tab, [ct107], pl64, [], ghT, [], [], []⟩) ⟨tabOk, ⟨okT107, trivial⟩, mo, trivial, fun _ _ _ _ => trivial, trivial, trivial⟩ 9 ct64 fun x Φ => by
  have h : ct64.W x Φ = topF ⟨Tryz.prog, tab, [ct107], pl64, [], ghT, [], [], []⟩ 9 ct64.f ct64.ps ct64.rs ct64.own x Φ := by kernel_rfl
  rw [h]; exact id
theorem ok66 : ct66.Ok Tryz.prog tab gh := okU eq66 ⟨tabOk, trivial, mo, trivial, ghUp, trivial, trivial⟩
theorem ok24 : ct24.Ok Tryz.prog tab gh := okU eq24 ⟨tabOk, ⟨ok64, ok66, trivial⟩, mo, trivial, ghUp, trivial, trivial⟩
theorem ok67 : ct67.Ok Tryz.prog tab gh := okU eq67 ⟨tabOk, trivial, mo, trivial, ghUp, trivial, trivial⟩
theorem ok68 : ct68.Ok Tryz.prog tab gh := okU eq68 ⟨tabOk, trivial, mo, trivial, ghUp, trivial, trivial⟩
theorem ok26 : ct26.Ok Tryz.prog tab gh := okU eq26 ⟨tabOk, ⟨ok24, ok67, ok68, trivial⟩, mo, trivial, ghUp, trivial, trivial⟩
theorem ok122 : ct122.Ok Tryz.prog tab gh := okU eq122 ⟨tabOk, trivial, mo, trivial, ghUp, trivial, trivial⟩
theorem ok97 : ct97.Ok Tryz.prog tab gh := okU eq97 ⟨tabOk, ⟨ok122, trivial⟩, mo, trivial, ghUp, trivial, trivial⟩
theorem ok48 : ct48.Ok Tryz.prog tab gh := okU eq48 ⟨tabOk, ⟨ok97, trivial⟩, mo, trivial, ghUp, trivial, trivial⟩
theorem ok14 : ct14.Ok Tryz.prog tab gh := okU eq14 ⟨tabOk, ⟨ok48, trivial⟩, mo, trivial, ghUp, trivial, trivial⟩
theorem ok27 : ct27.Ok Tryz.prog tab gh := okU eq27 ⟨tabOk, ⟨ok25, trivial⟩, mo, trivial, ghUp, trivial, trivial⟩
theorem ok118 : ct118.Ok Tryz.prog tab gh := okU eq118 ⟨tabOk, ⟨ok67, trivial⟩, mo, trivial, ghUp, trivial, trivial⟩
theorem ok90 : ct90.Ok Tryz.prog tab gh := okU eq90 ⟨tabOk, ⟨ok67, ok118, trivial⟩, mo, trivial, ghUp, trivial, trivial⟩
theorem ok135 : ct135.Ok Tryz.prog tab gh := okU eq135 ⟨tabOk, trivial, mo, trivial, ghUp, trivial, trivial⟩
theorem okT135 : ct135.Ok Tryz.prog tab ghT := Ct.lift (E := ⟨Tryz.prog, tab, [], pl135, [], ghT, [], [], []⟩) ⟨tabOk, trivial, mo, trivial, fun _ _ _ _ => trivial, trivial, trivial⟩ 9 ct135 fun x Φ => by
  have h : ct135.W x Φ = topF ⟨Tryz.prog, tab, [], pl135, [], ghT, [], [], []⟩ 9 ct135.f ct135.ps ct135.rs ct135.own x Φ := by kernel_rfl
  rw [h]; exact id
theorem ok109 : ct109.Ok Tryz.prog tab gh := okU eq109 ⟨tabOk, ⟨ok135, trivial⟩, mo, trivial, ghUp, trivial, trivial⟩
theorem okT109 : ct109.Ok Tryz.prog tab ghT := Ct.lift (E := ⟨Tryz.prog, tab, [ct135], pl109, [], ghT, [], [], []⟩) ⟨tabOk, ⟨okT135, trivial⟩, mo, trivial, fun _ _ _ _ => trivial, trivial, trivial⟩ 9 ct109 fun x Φ => by
  have h : ct109.W x Φ = topF ⟨Tryz.prog, tab, [ct135], pl109, [], ghT, [], [], []⟩ 9 ct109.f ct109.ps ct109.rs ct109.own x Φ := by kernel_rfl
  rw [h]; exact id
theorem ok76 : ct76.Ok Tryz.prog tab gh := okU eq76 ⟨tabOk, ⟨ok64, ok109, trivial⟩, mo, trivial, ghUp, trivial, trivial⟩
theorem okT76 : ct76.Ok Tryz.prog tab ghT := Ct.lift (E := ⟨Tryz.prog, tab, [ct64, ct109], pl76, [], ghT, [], [], []⟩) ⟨tabOk, ⟨okT64, okT109, trivial⟩, mo, trivial, fun _ _ _ _ => trivial, trivial, trivial⟩ 9 ct76 fun x Φ => by
  have h : ct76.W x Φ = topF ⟨Tryz.prog, tab, [ct64, ct109], pl76, [], ghT, [], [], []⟩ 9 ct76.f ct76.ps ct76.rs ct76.own x Φ := by kernel_rfl
  rw [h]; exact id
theorem ok78 : ct78.Ok Tryz.prog tab gh := okU eq78 ⟨tabOk, trivial, mo, trivial, ghUp, trivial, trivial⟩
theorem okT78 : ct78.Ok Tryz.prog tab ghT := Ct.lift (E := ⟨Tryz.prog, tab, [], pl78, [], ghT, [], [], []⟩) ⟨tabOk, trivial, mo, trivial, fun _ _ _ _ => trivial, trivial, trivial⟩ 9 ct78 fun x Φ => by
  have h : ct78.W x Φ = topF ⟨Tryz.prog, tab, [], pl78, [], ghT, [], [], []⟩ 9 ct78.f ct78.ps ct78.rs ct78.own x Φ := by kernel_rfl
  rw [h]; exact id
theorem ok108 : ct108.Ok Tryz.prog tab gh := okU eq108 ⟨tabOk, ⟨ok76, ok78, trivial⟩, mo, trivial, ghUp, trivial, trivial⟩
theorem ok88 : ct88.Ok Tryz.prog tab gh := okU eq88 ⟨tabOk, trivial, mo, trivial, ghUp, trivial, trivial⟩
theorem okT88 : ct88.Ok Tryz.prog tab ghT := Ct.lift (E := ⟨Tryz.prog, tab, [], pl88, [], ghT, [], [], []⟩) ⟨tabOk, trivial, mo, trivial, fun _ _ _ _ => trivial, trivial, trivial⟩ 9 ct88 fun x Φ => by
  have h : ct88.W x Φ = topF ⟨Tryz.prog, tab, [], pl88, [], ghT, [], [], []⟩ 9 ct88.f ct88.ps ct88.rs ct88.own x Φ := by kernel_rfl
  rw [h]; exact id
theorem ok75 : ct75.Ok Tryz.prog tab gh := okU eq75 ⟨tabOk, ⟨ok88, trivial⟩, mo, trivial, ghUp, trivial, trivial⟩
theorem ok74 : ct74.Ok Tryz.prog tab gh := okU eq74 ⟨tabOk, ⟨ok68, ok75, trivial⟩, mo, trivial, ghUp, trivial, trivial⟩
theorem ok28 : ct28.Ok Tryz.prog tab gh := Ct.liftD (E := ⟨Tryz.prog, tab, [ct24, ct67, ct74, ct75, ct90, ct108], pl28, [], gh, [], [], []⟩) ⟨tabOk, ⟨ok24, ok67, ok74, ok75, ok90, ok108, trivial⟩, mo, trivial, ghUp, trivial, trivial⟩ 9 ct28 fun x Φ => by rw [eq28]; exact id
theorem pk29 (v : Value) (cs : List Value) : PkR Tryz.prog 29 v cs = (cs = [v]) := by kernel_rfl
theorem q265 {H : Hp} (x0 : List (List Sec)) {A1 : Option Addr} {n1 c1 : Nat} {s1 : List Value} (hF1 : Fz (α := List Sec) H A1 n1 c1 x0 s1) {Φ : Int → Prop} (hm : q45 x0 Φ) : RetP Tryz.prog 76 #[.slice A1 n1 c1] H (fun _ v L => ∃ y, Φ y ∧ v = .int .i64 (y) ∧ L = []) := by
  refine RetP.mono (okT76 (x0, ()) (fun y => Φ y.1) hm H [.slice A1 n1 c1] trivial ⟨_, [.slice A1 n1 c1], _, rfl, by rw [pk29], (show Dt.rd (α := List (List Sec)) H _ _ from ⟨A1, n1, c1, s1, rfl, hF1⟩), rfl⟩) fun H' v L _ ⟨y, hy, hr⟩ => ?_; obtain ⟨ρ, _, _, _, _, h1, h2⟩ := hr 0 (fun _ => none) (fun _ _ => rfl) _ _ _ (show resE Tryz.prog tab _ _ y 0 = some (.i .i64 y.1, [], 0) by kernel_rfl); exact ⟨y.1, hy, h1, h2⟩
theorem pk82 (v : Value) (cs : List Value) : PkR Tryz.prog 82 v cs = (cs = [v]) := by kernel_rfl
theorem q53 {H : Hp} (x0 : List Sec) {A1 : Option Addr} {n1 c1 : Nat} {s1 : List Value} (hF1 : Fz (α := Sec) H A1 n1 c1 x0 s1) {Φ : List Sec → Prop} (hm : Z17 x0 Φ) : RetP Tryz.prog 88 #[.slice A1 n1 c1] H (fun H' v L => ∃ y, Φ y ∧ ∃ A12, ∃ n12, ∃ c12, ∃ s12, v = .slice A12 n12 c12 ∧ DtL (α := Sec) H' s12 y ∧ n12 = y.length ∧ L = [.row (.slice A12 n12 c12) 81 8 n12 s12]) := by
  refine RetP.mono (okT88 (x0, ()) (fun y => Φ y.1) hm H [.slice A1 n1 c1] trivial ⟨_, [.slice A1 n1 c1], _, rfl, by rw [pk82], (show Dt.rd (α := List Sec) H _ _ from ⟨A1, n1, c1, s1, rfl, hF1⟩), rfl⟩) fun H' v L _ ⟨y, hy, hr⟩ => ?_; obtain ⟨ρ, _, _, _, _, h1, h2⟩ := hr 0 (fun _ => none) (fun _ _ => rfl) _ _ _ (show resE Tryz.prog tab _ _ y 0 = some (.own 0, [(0, .row 81 y.1)], 1) by kernel_rfl); obtain ⟨A, n, c, e1, rfl⟩ := h1; obtain ⟨S, L', rfl, ⟨A', n', c', s, e2, rfl, e3, e4⟩, e5⟩ := h2; obtain rfl : L' = [] := e5; rw [e1] at e2; cases e2; exact ⟨y.1, hy, A, n, c, s, rfl, e3, e4, rfl⟩
theorem q227 {H : Hp} (x0 : List (List Sec)) {A1 : Option Addr} {n1 c1 : Nat} {s1 : List Value} (hF1 : Fz (α := List Sec) H A1 n1 c1 x0 s1) {Φ : List (List Sec) → Prop} (hm : Z22 x0 Φ) : RetP Tryz.prog 110 #[.slice A1 n1 c1, .func (.func 88) #[] #[]] H (fun H' v L => ∃ y, Φ y ∧ ∃ A45, ∃ n45, ∃ c45, ∃ s45, ∃ rs46, v = .slice A45 n45 c45 ∧ DeepL (α := List Sec) [81] H' s45 y rs46 ∧ n45 = y.length ∧ L = .row (.slice A45 n45 c45) 82 1 n45 s45 :: rs46) := by
 refine RetP.of_code Tryz.func110 rfl (nb rfl) fun w0 hM => ?_
 refine CW.sr <| RW.st (Ex.assign (.slice none 0 0) rfl) rfl <| RW.nil <| CW.sr <| RW.st (Ex.move (.slice A1 n1 c1) rfl) rfl <| RW.st (Ex.lenN st28.1 rfl hF1.hn) rfl ?_
 obtain ⟨hg8, hm⟩ := hm
 obtain ⟨hg9, hm⟩ := hm
 refine RW.makeE (α := List Sec) hM st28 tz82 rfl rfl hg8 hg9 rfl rfl ?_; intro b2 n3 c4 s5 w hd6 hn7 hM
 refine RW.st (Ex.assign (.slice (some ⟨b2, 0, none⟩) n3 c4) rfl) rfl <| RW.nil <| CW.seq <| CW.sr <| RW.st (Ex.move (.slice A1 n1 c1) rfl) rfl <| RW.st (Ex.lenN st28.1 rfl hF1.hn) rfl <| RW.st (Ex.move (.int .i64 0) rfl) rfl <| RW.nil <| CW.block ?_
 obtain ⟨m44, hm⟩ := hm
 skip
 refine CW.loop (β := Nat) (fun n σ w => ∃ (v12 : List (List Sec)), ∃ (A13 : Option Addr), ∃ (n14 : Nat), ∃ (c15 : Nat), ∃ (s16 : List Value), ∃ (rs17 : List Ent), ∃ (v20 : Int), ∃ Hk10, H.le Hk10 ∧ (∃ τ, σ = sl [(1, .func (.func 88) #[] #[]), (5, .slice A13 n14 c15), (11, .slice A1 n1 c1), (12, .int .i64 ((x0.length : Int))), (13, .int .i64 v20)] τ) ∧ Mem w0 H w Hk10 (.row (.slice A13 n14 c15) 82 1 n14 s16 :: rs17) ∧ (DeepL (α := List Sec) [81] Hk10 s16 v12 rs17) ∧ (n14 = v12.length) ∧ LoopN (Z21 x0 Φ) n (v12, v20)) (fun n => n) m44 ⟨([] : List (List Sec)), (some ⟨b2, 0, none⟩), n3, c4, s5, [], 0, H, (Hp.le.refl _), q43 ⟨rfl, rfl, rfl, rfl, rfl, trivial⟩, hM, (DeepL.ofNil (Ts := [81]) hd6), hn7, hm⟩ ?_
 rintro k21 _ w ⟨v12, A13, n14, c15, s16, rs17, v20, Hk10, hle11, ⟨τ, rfl⟩, hM, hd18, hn19, hm⟩
 obtain _ | k21 := k21
 · exact hm.elim
 replace hm : (Z21 x0 Φ) (v12, v20) (LoopN (Z21 x0 Φ) k21) := hm
 generalize hrec22 : LoopN (Z21 x0 Φ) k21 = rec1 at hm
 refine CW.sr <| RW.st (Ex.lss rfl rfl) rfl <| RW.nil <| CW.seq ?_
 refine CW.cond_dec (p := v20 < (x0.length : Int)) rfl (fun hc23 => ?_) (fun hc23 => ?_)
 ·
  replace hm := And.left hm hc23
  refine CW.skip <| CW.seq <| CW.block <| CW.sr ?_
  obtain ⟨hg24, hm⟩ := hm; refine RW.st (Ex.index st28 rfl rfl v20.toNat (hF1.ne hg24) hg24.nat (hF1.lt hg24)) rfl ?_; obtain ⟨_, ⟨A25, n25, c25, s25, rfl, hF25⟩, hx26⟩ := DtL.getI (α := List Sec) (hF1.mono hle11).dat hg24; refine RW.st (Ex.loadE hM hle11 hF1.rdc to82 rfl (hx26 0 _ rfl)) rfl <| RW.st (Ex.assign (.slice A25 n25 c25) rfl) rfl <| RW.nil <| CW.region <| RW.st (Ex.move (.slice A13 n14 c15) rfl) rfl <| RW.st (Ex.move (.func (.func 88) #[] #[]) rfl) rfl <| RW.st (Ex.move (.slice A25 n25 c25) rfl) rfl ?_
  refine RW.callP hM (q53 (ix x0 v20) hF25 hm) en88 rfl rfl rfl rfl ?_; rintro _ w H28 _ hle29 ⟨v27, hm, A30, n30, c30, s30, rfl, hd31, hn32, rfl⟩ hM; refine RW.buildSlice hM st28 tz82 [(0, .slice A30 n30 c30)] [.slice A30 n30 c30] (by decide) rfl rfl rfl (by decide) rfl rfl ?_; intro b33 w hM; obtain ⟨hg39, hm⟩ := hm; refine RW.appendH (α := List Sec) (xs := v12) (x0 := v27) hM 2 st28 rfl rfl hn19 rfl (fun j u hj => hM.rowCell (k := 0) rfl rfl hj) rfl (q81 ⟨rfl, trivial⟩) hg39 rfl rfl ?_; intro A35 n36 c37 w hn38 hM; obtain ⟨s40, rs41, hd42, hM⟩ := Mem.adopt (α := List Sec) (Ts := [81]) (x := v27) [.row (.slice (some ⟨b33, 0, none⟩) 1 1) 82 1 1 [.slice A30 n30 c30], .row (.slice A35 n36 c37) 82 1 n36 (s16 ++ [.slice A30 n30 c30])] (Mem.pickT (L1 := [.row (.slice (some ⟨b33, 0, none⟩) 1 1) 82 1 1 [.slice A30 n30 c30], .row (.slice A30 n30 c30) 81 8 n30 s30, .row (.slice A35 n36 c37) 82 1 n36 (s16 ++ [.slice A30 n30 c30])]) (T := rs17) hM [1, 0, 2] rfl rfl) 1 rfl (hd18.mono hle29) ⟨A30, n30, c30, s30, rfl, rfl, hd31, hn32⟩
  replace hM : Mem w0 H w H28 (.row (.slice A35 n36 c37) 82 1 n36 s40 :: rs41) := Mem.pickT (L1 := [.row (.slice (some ⟨b33, 0, none⟩) 1 1) 82 1 1 [.slice A30 n30 c30], .row (.slice A35 n36 c37) 82 1 n36 s40]) (T := rs41) hM [1] rfl rfl
  refine RW.st (Ex.assign (.slice A35 n36 c37) rfl) rfl <| RW.nil <| CW.region ?_
  obtain ⟨hg43, hm⟩ := hm; refine RW.st (Ex.add rfl rfl hg43.1 hg43.2) rfl <| RW.st (Ex.move (.int .i64 (v20 + 1)) rfl) rfl <| RW.nil ?_
  exact And.intro rfl ⟨k21, ⟨(v12 ++ [v27]), A35, n36, c37, s40, rs41, v20 + 1, H28, hle11.trans hle29, q43 ⟨rfl, rfl, rfl, rfl, rfl, trivial⟩, hM, hd42, hn38, (by rw [hrec22]; exact hm)⟩, Nat.lt_succ_self _⟩
 ·
  replace hm := And.right hm hc23
  refine CW.exit ?_; refine CW.sr <| RW.st (Ex.move (.slice A13 n14 c15) rfl) rfl <| RW.st (Ex.assign (.slice A13 n14 c15) rfl) rfl <| RW.nil <| CW.ret ?_
  refine q534 (.inl rfl) rfl (.slice A13 n14 c15) rfl ?_; exact ⟨_, _, hM, v12, hm, A13, n14, c15, s16, rs17, rfl, hd18, hn19, rfl⟩
theorem q228 {H : Hp} (x0 : List (List Sec)) {A1 : Option Addr} {n1 c1 : Nat} {s1 : List Value} (hF1 : Fz (α := List Sec) H A1 n1 c1 x0 s1) {Φ : List (List Sec) → Prop} (hm : Z23 x0 Φ) : RetP Tryz.prog 77 #[.slice A1 n1 c1] H (fun H' v L => ∃ y, Φ y ∧ ∃ A9, ∃ n9, ∃ c9, ∃ s9, ∃ rs10, v = .slice A9 n9 c9 ∧ DeepL (α := List Sec) [81] H' s9 y rs10 ∧ n9 = y.length ∧ L = .row (.slice A9 n9 c9) 82 1 n9 s9 :: rs10) := by
 refine RetP.of_code Tryz.func77 rfl (nb rfl) fun w0 hM => ?_
 refine CW.sr <| RW.st (Ex.assign (.slice none 0 0) rfl) rfl <| RW.nil <| CW.sr <| RW.st (Ex.move (.slice A1 n1 c1) rfl) rfl ?_
 refine RW.callP hM (q227 x0 hF1 hm) en110 rfl rfl rfl rfl ?_; rintro _ w H3 _ hle4 ⟨v2, hm, A5, n5, c5, s5, rs6, rfl, hd7, hn8, rfl⟩ hM
 replace hM := Mem.toTail (a := [.row (.slice A5 n5 c5) 82 1 n5 s5]) (b := rs6) (c := []) hM
 refine RW.st (Ex.assign (.slice A5 n5 c5) rfl) rfl <| RW.nil <| CW.ret ?_
 refine q534 (.inl rfl) rfl (.slice A5 n5 c5) rfl ?_
 exact ⟨_, _, hM, v2, hm, A5, n5, c5, s5, rs6, rfl, hd7, hn8, rfl⟩
theorem pk89 (v : Value) (cs : List Value) : PkR Tryz.prog 89 v cs = (v = .agg cs.toArray) := by kernel_rfl
theorem q304 {H : Hp} (x0 : List (List Sec)) (x1 : q8) {A1 : Option Addr} {n1 c1 : Nat} {s1 : List Value} (hF1 : Fz (α := List Sec) H A1 n1 c1 x0 s1) {A2 : Option Addr} {n2 c2 : Nat} {s2 : List Value} (hF2 : Fz (α := Sec) H A2 n2 c2 x1.Data s2) {Φ : Int → Prop} (hm : q92 x0 x1 Φ) : RetP Tryz.prog 78 #[.slice A1 n1 c1, .agg #[.int .i64 (x1.Volume), .int .i64 (x1.Start), .slice A2 n2 c2]] H (fun _ v L => ∃ y, Φ y ∧ v = .int .i64 (y) ∧ L = []) := by
  refine RetP.mono (okT78 (x0, x1, ()) (fun y => Φ y.1) hm H [.slice A1 n1 c1, .agg #[.int .i64 (x1.Volume), .int .i64 (x1.Start), .slice A2 n2 c2]] trivial ⟨_, [.slice A1 n1 c1], _, rfl, by rw [pk29], (show Dt.rd (α := List (List Sec)) H _ _ from ⟨A1, n1, c1, s1, rfl, hF1⟩), ⟨_, [.int .i64 (x1.Volume), .int .i64 (x1.Start), .slice A2 n2 c2], _, rfl, by rw [pk89], (show Dt.rd (α := q8) H _ _ from ⟨A2, n2, c2, s2, rfl, hF2⟩), rfl⟩⟩) fun H' v L _ ⟨y, hy, hr⟩ => ?_; obtain ⟨ρ, _, _, _, _, h1, h2⟩ := hr 0 (fun _ => none) (fun _ _ => rfl) _ _ _ (show resE Tryz.prog tab _ _ y 0 = some (.i .i64 y.1, [], 0) by kernel_rfl); exact ⟨y.1, hy, h1, h2⟩
theorem q266 {H : Hp} (x0 : List (List Sec)) (x1 : List q8) {A1 : Option Addr} {n1 c1 : Nat} {s1 : List Value} (hF1 : Fz (α := List Sec) H A1 n1 c1 x0 s1) {A2 : Option Addr} {n2 c2 : Nat} {s2 : List Value} (hF2 : Fz (α := q8) H A2 n2 c2 x1 s2) {Φ : List (List Sec) × Int × Int → Prop} (hm : q38 x0 x1 Φ) : RetP Tryz.prog 29 #[.slice A1 n1 c1, .slice A2 n2 c2] H (fun H' v L => ∃ y, Φ y ∧ ∃ A89, ∃ n89, ∃ c89, ∃ s89, ∃ rs90, v = .tuple #[.slice A89 n89 c89, .int .i64 (y.2.1), .int .i64 (y.2.2)] ∧ DeepL (α := List Sec) [81] H' s89 y.1 rs90 ∧ n89 = y.1.length ∧ L = .row (.slice A89 n89 c89) 82 1 n89 s89 :: rs90) := by
 refine RetP.of_code Tryz.func29 rfl (nb rfl) fun w0 hM => ?_
 refine CW.sr <| RW.st (Ex.assign (.slice none 0 0) rfl) rfl <| RW.st (Ex.assign (.int .i64 0) rfl) rfl <| RW.st (Ex.assign (.int .i64 0) rfl) rfl <| RW.nil <| CW.seq <| CW.sr <| RW.st (Ex.move (.slice A1 n1 c1) rfl) rfl ?_
 refine RW.callP hM (q265 x0 hF1 hm) en76 rfl rfl rfl rfl ?_; rintro _ w H4 _ hle5 ⟨v3, hm, rfl, rfl⟩ hM
 refine RW.st (Ex.assign (.int .i64 v3) rfl) rfl <| RW.nil <| CW.sr <| RW.st (Ex.move (.int .i64 v3) rfl) rfl <| RW.st (Ex.neq rfl rfl) rfl <| RW.nil ?_
 refine CW.cond_dec (p := v3 ≠ 0) rfl (fun hc6 => ?_) (fun hc6 => ?_)
 ·
  replace hm := And.left hm hc6
  refine CW.sr <| RW.st (Ex.move (.int .i64 v3) rfl) rfl <| RW.st (Ex.assign (.slice none 0 0) rfl) rfl <| RW.st (Ex.assign (.int .i64 0) rfl) rfl <| RW.st (Ex.assign (.int .i64 v3) rfl) rfl <| RW.nil <| CW.ret ?_
  refine q156 ?_; refine q353 (.inl rfl) rfl (.slice none 0 0) (.int .i64 0) (.int .i64 v3) rfl rfl rfl ?_
  replace hM := hM.nilRow 82 1
  exact ⟨_, _, hM, (([] : List (List Sec)), 0, v3), hm, none, 0, 0, [], [], rfl, (DeepL.nil : DeepL (α := List Sec) [81] H4 [] [] []), rfl, rfl⟩
 ·
  replace hm := And.right hm hc6
  refine CW.skip <| CW.sr <| RW.st (Ex.move (.slice A1 n1 c1) rfl) rfl ?_
  refine RW.callP hM (q228 x0 (hF1.mono hle5) hm) en77 rfl rfl rfl rfl ?_; rintro _ w H8 _ hle9 ⟨v7, hm, A10, n10, c10, s10, rs11, rfl, hd12, hn13, rfl⟩ hM
  replace hM := Mem.toTail (a := [.row (.slice A10 n10 c10) 82 1 n10 s10]) (b := rs11) (c := []) hM
  refine RW.st (Ex.assign (.slice A10 n10 c10) rfl) rfl <| RW.nil <| CW.seq <| CW.sr <| RW.st (Ex.move (.slice A2 n2 c2) rfl) rfl <| RW.st (Ex.lenN st25.1 rfl hF2.hn) rfl <| RW.st (Ex.move (.int .i64 0) rfl) rfl <| RW.nil <| CW.block ?_
  obtain ⟨m88, hm⟩ := hm
  skip
  refine CW.loop (β := Nat) (fun n σ w => ∃ (v16 : List (List Sec)), ∃ (A17 : Option Addr), ∃ (n18 : Nat), ∃ (c19 : Nat), ∃ (s20 : List Value), ∃ (rs21 : List Ent), ∃ (v24 : Int), ∃ Hk14, H8.le Hk14 ∧ (∃ τ, σ = sl [(8, .slice A17 n18 c19), (19, .slice A2 n2 c2), (20, .int .i64 ((x1.length : Int))), (21, .int .i64 v24)] τ) ∧ Mem w0 H w Hk14 (.row (.slice A17 n18 c19) 82 1 n18 s20 :: rs21) ∧ (DeepL (α := List Sec) [81] Hk14 s20 v16 rs21) ∧ (n18 = v16.length) ∧ LoopN (Z24 x1 Φ) n (v16, v24)) (fun n => n) m88 ⟨v7, A10, n10, c10, s10, rs11, 0, H8, (Hp.le.refl _), q43 ⟨rfl, rfl, rfl, rfl, trivial⟩, hM, hd12, hn13, hm⟩ ?_
  rintro k25 _ w ⟨v16, A17, n18, c19, s20, rs21, v24, Hk14, hle15, ⟨τ, rfl⟩, hM, hd22, hn23, hm⟩
  obtain _ | k25 := k25
  · exact hm.elim
  replace hm : (Z24 x1 Φ) (v16, v24) (LoopN (Z24 x1 Φ) k25) := hm
  generalize hrec26 : LoopN (Z24 x1 Φ) k25 = rec1 at hm; refine CW.sr <| RW.st (Ex.lss rfl rfl) rfl <| RW.nil <| CW.seq ?_
  refine CW.cond_dec (p := v24 < (x1.length : Int)) rfl (fun hc27 => ?_) (fun hc27 => ?_)
  ·
   replace hm := And.left hm hc27
   refine CW.skip <| CW.seq <| CW.block <| CW.sr <| RW.st (Ex.move (.int .i64 v24) rfl) rfl ?_
   obtain ⟨hg28, hm⟩ := hm; refine RW.st (Ex.index st25 rfl rfl v24.toNat (hF2.ne hg28) hg28.nat (hF2.lt hg28)) rfl ?_; obtain ⟨_, ⟨A29, n29, c29, s29, rfl, hF29⟩, hx30⟩ := DtL.getI (α := q8) (hF2.mono ((hle5.trans hle9).trans hle15)).dat hg28; refine RW.st (Ex.loadEA hM ((hle5.trans hle9).trans hle15) hF2.rdc [.int .i64 ((ix x1 v24).Volume), .int .i64 ((ix x1 v24).Start), .slice A29 n29 c29] ta89 rfl (hF2.ne hg28) rfl (q70 (off := 0) (n := 3) hx30 rfl)) rfl ?_; refine RW.alloc hM tz89 [.int .i64 0, .int .i64 0, .slice none 0 0] rfl rfl rfl ?_; intro b31 w hM; refine RW.st (Ex.assign (.int .i64 v24) rfl) rfl ?_; refine RW.store hM 0 (.agg #[.int .i64 ((ix x1 v24).Volume), .int .i64 ((ix x1 v24).Start), .slice A29 n29 c29]) [.int .i64 ((ix x1 v24).Volume), .int .i64 ((ix x1 v24).Start), .slice A29 n29 c29] [.int .i64 ((ix x1 v24).Volume), .int .i64 ((ix x1 v24).Start), .slice A29 n29 c29] sz89 rfl rfl rfl (q81 ⟨rfl, rfl, rfl, trivial⟩) rfl (nb rfl) rfl (.box b31 89 [.int .i64 ((ix x1 v24).Volume), .int .i64 ((ix x1 v24).Start), .slice A29 n29 c29] :: .row (.slice A17 n18 c19) 82 1 n18 s20 :: rs21) rfl rfl rfl ?_; intro w hM; refine RW.nil <| CW.seq <| CW.sr <| RW.st (Ex.move (.slice A17 n18 c19) rfl) rfl <| RW.st (Ex.loadA hM 0 [.int .i64 ((ix x1 v24).Volume), .int .i64 ((ix x1 v24).Start), .slice A29 n29 c29] ta89 rfl rfl rfl rfl) rfl ?_
   have hM1 := hM; obtain ⟨H32, hM, hle33, hd34⟩ := DeepL.flat (es := [.box b31 89 [.int .i64 ((ix x1 v24).Volume), .int .i64 ((ix x1 v24).Start), .slice A29 n29 c29], .row (.slice A17 n18 c19) 82 1 n18 s20]) hM hd22; obtain ⟨H35, hM, hle36, hF37⟩ := hM.giveF (α := List Sec) 1 rfl hd34 hn23; refine RW.callB hM1 hM (q304 v16 (ix x1 v24) hF37 (hF29.mono (hle33.trans hle36)) hm) en78 rfl rfl rfl rfl ?_; clear hM hM1; intro v38 w hm hM; refine RW.st (Ex.assign (.int .i64 v38) rfl) rfl <| RW.nil <| CW.sr <| RW.st (Ex.move (.int .i64 v38) rfl) rfl <| RW.st (Ex.neq rfl rfl) rfl <| RW.nil ?_
   refine CW.cond_dec (p := v38 ≠ 0) rfl (fun hc41 => ?_) (fun hc41 => ?_)
   ·
    replace hm := And.left hm hc41
    refine CW.sr <| RW.st (Ex.move (.int .i64 v24) rfl) rfl <| RW.st (Ex.move (.int .i64 v38) rfl) rfl <| RW.st (Ex.assign (.slice none 0 0) rfl) rfl <| RW.st (Ex.assign (.int .i64 v24) rfl) rfl <| RW.st (Ex.assign (.int .i64 v38) rfl) rfl <| RW.nil <| CW.ret ?_
    refine q156 (q325 (q156 (q156 (q325 (q156 ?_))))); refine q353 (.inl rfl) rfl (.slice none 0 0) (.int .i64 v24) (.int .i64 v38) rfl rfl rfl ?_
    replace hM := hM.nilRow 82 1
    exact ⟨_, _, ((Mem.dropT (L1 := [.row (.slice none 0 0) 82 1 0 [], .box b31 89 [.int .i64 ((ix x1 v24).Volume), .int .i64 ((ix x1 v24).Start), .slice A29 n29 c29], .row (.slice A17 n18 c19) 82 1 n18 s20]) (T := rs21) hM).pick [0] rfl rfl), (([] : List (List Sec)), v24, v38), hm, none, 0, 0, [], [], rfl, (DeepL.nil : DeepL (α := List Sec) [81] Hk14 [] [] []), rfl, rfl⟩
   ·
    replace hm := And.right hm hc41
    refine CW.skip ?_; obtain ⟨hg42, hm⟩ := hm; obtain ⟨c44, _, c45, _, rs46, rfl, ⟨A43, n43, c43, s43, rfl, rfl, hF43, hn48⟩, hh47, hM⟩ := Mem.focus [.box b31 89 [.int .i64 ((ix x1 v24).Volume), .int .i64 ((ix x1 v24).Start), .slice A29 n29 c29], .row (.slice A17 n18 c19) 82 1 n18 s20] hM hd22 hg42; have hx49 := Hole.get (ch := [.slice A43 n43 c43]) hh47; obtain ⟨hg55, hm⟩ := hm
    refine CW.drawL 10 [] [(fun Hq us E => us = [.slice A17 n18 c19] ∧ E = [] ∧ True), (fun Hq us E => us = [.pointer (some ⟨b31, 0, none⟩)] ∧ E = [] ∧ True), (fun Hq us E => us = [.int .i64 ((ix x1 v24).Volume)] ∧ E = [] ∧ True), (fun Hq us E => us = [elp A17 ((((ix x1 v24).Volume).toNat) * 1 + 0)] ∧ E = [] ∧ True), (fun Hq us E => us = [.slice A43 n43 c43] ∧ E = [] ∧ True), (fun Hq us E => us = [.pointer (some ⟨b31, 1, none⟩)] ∧ E = [] ∧ True), (fun Hq us E => us = [.int .i64 ((ix x1 v24).Start)] ∧ E = [] ∧ True), (fun Hq us E => ∃ (A56 : Option Addr), ∃ (n57 : Nat), ∃ (c58 : Nat), us = [.slice A56 n57 c58] ∧ E = [] ∧ View A43 n43 c43 8 ((ix x1 v24).Start) A56 n57 c58 ∧ True), (fun Hq us E => us = [.pointer (some ⟨b31, 2, none⟩)] ∧ E = [] ∧ True), (fun Hq us E => us = [.slice A29 n29 c29] ∧ E = [] ∧ True)]
     (fun k => [[0], [1], [2], [3], [4], [5], [6], [7], [8], [9]].getD k []) (fun _ => none) (by kernel_rfl) hM (by kernel_rfl) (by kernel_rfl) (by kernel_rfl) rfl (by simp only [List.forall_mem_cons]; exact ⟨fun _ _ _ _ hle ⟨e1, e2, _⟩ => ⟨e1, e2, trivial⟩, fun _ _ _ _ hle ⟨e1, e2, _⟩ => ⟨e1, e2, trivial⟩, fun _ _ _ _ hle ⟨e1, e2, _⟩ => ⟨e1, e2, trivial⟩, fun _ _ _ _ hle ⟨e1, e2, _⟩ => ⟨e1, e2, trivial⟩, fun _ _ _ _ hle ⟨e1, e2, _⟩ => ⟨e1, e2, trivial⟩, fun _ _ _ _ hle ⟨e1, e2, _⟩ => ⟨e1, e2, trivial⟩, fun _ _ _ _ hle ⟨e1, e2, _⟩ => ⟨e1, e2, trivial⟩, fun _ _ _ _ hle ⟨A56, n57, c58, e1, e2, hV59, _⟩ => ⟨A56, n57, c58, e1, e2, hV59, trivial⟩, fun _ _ _ _ hle ⟨e1, e2, _⟩ => ⟨e1, e2, trivial⟩, fun _ _ _ _ hle ⟨e1, e2, _⟩ => ⟨e1, e2, trivial⟩, by simp⟩) ⟨?_, ?_, ?_, ?_, ?_, ?_, ?_, ?_, ?_, ?_, trivial⟩ ?_
    ·
     intro H' σ' w R E hle hMR hE0 hE hp hf; obtain rfl := hE0 rfl; obtain ⟨τ, rfl⟩ := q43 (σ := σ') (l := [(8, .slice A17 n18 c19)]) ⟨(hf 8 (by kernel_rfl)).trans rfl, trivial⟩; have hM := Mem.subR (R := R) hMR; exact RW.step (Ex.move (.slice A17 n18 c19) rfl) rfl rfl rfl (RW.nil ⟨rfl, rfl, _, rfl, H', [], Hp.le.refl _, hMR, rfl, rfl, trivial⟩)
    ·
     intro H' σ' w R E hle hMR hE0 hE hp hf; obtain rfl := hE0 rfl; obtain ⟨τ, rfl⟩ := q43 (σ := σ') (l := [(10, .pointer (some ⟨b31, 0, none⟩))]) ⟨(hf 10 (by kernel_rfl)).trans rfl, trivial⟩; have hM := Mem.subR (R := R) hMR; exact RW.step (Ex.fieldAddr fa89_0 rfl) rfl rfl rfl (RW.nil ⟨rfl, rfl, _, rfl, H', [], Hp.le.refl _, hMR, rfl, rfl, trivial⟩)
    ·
     intro H' σ' w R E hle hMR hE0 hE hp hf; obtain rfl := hE0 rfl; obtain ⟨_, hg⟩ := hp 1 (by decide) (by kernel_rfl); obtain ⟨e60, _, _⟩ := hg.get rfl; have e61 : σ' 34 = .pointer (some ⟨b31, 0, none⟩) := (List.cons.inj e60).1; obtain ⟨τ, rfl⟩ := q43 (σ := σ') (l := [(34, .pointer (some ⟨b31, 0, none⟩))]) ⟨e61, trivial⟩; have hM := Mem.subR (R := R) hMR; exact RW.step (Ex.load1 hM 1 to3 rfl rfl rfl) rfl rfl rfl (RW.nil ⟨rfl, rfl, _, rfl, H', [], Hp.le.refl _, hMR, rfl, rfl, trivial⟩)
    ·
     intro H' σ' w R E hle hMR hE0 hE hp hf; obtain rfl := hE0 rfl; obtain ⟨_, hg⟩ := hp 0 (by decide) (by kernel_rfl); obtain ⟨e62, _, _⟩ := hg.get rfl; have e63 : σ' 33 = .slice A17 n18 c19 := (List.cons.inj e62).1; obtain ⟨_, hg⟩ := hp 2 (by decide) (by kernel_rfl); obtain ⟨e64, _, _⟩ := hg.get rfl; have e65 : σ' 35 = .int .i64 ((ix x1 v24).Volume) := (List.cons.inj e64).1; obtain ⟨τ, rfl⟩ := q43 (σ := σ') (l := [(33, .slice A17 n18 c19), (35, .int .i64 ((ix x1 v24).Volume))]) ⟨e63, e65, trivial⟩; have hM := Mem.subR (R := R) hMR; exact RW.step (Ex.index st29 rfl rfl (((ix x1 v24).Volume).toNat) (hM.rowNeD (α := List Sec) (p := 2) rfl hn23 hg42) hg42.nat (Nat.lt_of_lt_of_eq hg42.lt (hn23).symm)) rfl rfl rfl (RW.nil ⟨rfl, rfl, _, rfl, H', [], Hp.le.refl _, hMR, rfl, rfl, trivial⟩)
    ·
     intro H' σ' w R E hle hMR hE0 hE hp hf; obtain rfl := hE0 rfl; obtain ⟨_, hg⟩ := hp 3 (by decide) (by kernel_rfl); obtain ⟨e66, _, _⟩ := hg.get rfl; have e67 : σ' 36 = elp A17 ((((ix x1 v24).Volume).toNat) * 1 + 0) := (List.cons.inj e66).1; obtain ⟨τ, rfl⟩ := q43 (σ := σ') (l := [(36, elp A17 ((((ix x1 v24).Volume).toNat) * 1 + 0))]) ⟨e67, trivial⟩; have hM := Mem.subR (R := R) hMR; exact RW.step (Ex.loadR hM 2 rfl to82 (hM.rowNeD (α := List Sec) (p := 2) rfl hn23 hg42) rfl (hx49 0 _ rfl)) rfl rfl rfl (RW.nil ⟨rfl, rfl, _, rfl, H', [], Hp.le.refl _, hMR, rfl, rfl, trivial⟩)
    ·
     intro H' σ' w R E hle hMR hE0 hE hp hf; obtain rfl := hE0 rfl; obtain ⟨τ, rfl⟩ := q43 (σ := σ') (l := [(10, .pointer (some ⟨b31, 0, none⟩))]) ⟨(hf 10 (by kernel_rfl)).trans rfl, trivial⟩; have hM := Mem.subR (R := R) hMR; exact RW.step (Ex.fieldAddr fa89_1 rfl) rfl rfl rfl (RW.nil ⟨rfl, rfl, _, rfl, H', [], Hp.le.refl _, hMR, rfl, rfl, trivial⟩)
    ·
     intro H' σ' w R E hle hMR hE0 hE hp hf; obtain rfl := hE0 rfl; obtain ⟨_, hg⟩ := hp 5 (by decide) (by kernel_rfl); obtain ⟨e68, _, _⟩ := hg.get rfl; have e69 : σ' 38 = .pointer (some ⟨b31, 1, none⟩) := (List.cons.inj e68).1; obtain ⟨τ, rfl⟩ := q43 (σ := σ') (l := [(38, .pointer (some ⟨b31, 1, none⟩))]) ⟨e69, trivial⟩; have hM := Mem.subR (R := R) hMR; exact RW.step (Ex.load1 hM 1 to3 rfl rfl rfl) rfl rfl rfl (RW.nil ⟨rfl, rfl, _, rfl, H', [], Hp.le.refl _, hMR, rfl, rfl, trivial⟩)
    ·
     intro H' σ' w R E hle hMR hE0 hE hp hf; obtain rfl := hE0 rfl; obtain ⟨_, hg⟩ := hp 4 (by decide) (by kernel_rfl); obtain ⟨e70, _, _⟩ := hg.get rfl; have e71 : σ' 37 = .slice A43 n43 c43 := (List.cons.inj e70).1; obtain ⟨_, hg⟩ := hp 6 (by decide) (by kernel_rfl); obtain ⟨e72, _, _⟩ := hg.get rfl; have e73 : σ' 39 = .int .i64 ((ix x1 v24).Start) := (List.cons.inj e72).1; obtain ⟨τ, rfl⟩ := q43 (σ := σ') (l := [(37, .slice A43 n43 c43), (39, .int .i64 ((ix x1 v24).Start))]) ⟨e71, e73, trivial⟩; have hM := Mem.subR (R := R) hMR; refine RW.sliceLo st82 rfl rfl hn48 hg55 rfl rfl ?_; intro A56 n57 c58 hV59; exact RW.nil ⟨rfl, rfl, _, rfl, H', [], Hp.le.refl _, hMR, A56, n57, c58, rfl, rfl, hV59, trivial⟩
    ·
     intro H' σ' w R E hle hMR hE0 hE hp hf; obtain rfl := hE0 rfl; obtain ⟨τ, rfl⟩ := q43 (σ := σ') (l := [(10, .pointer (some ⟨b31, 0, none⟩))]) ⟨(hf 10 (by kernel_rfl)).trans rfl, trivial⟩; have hM := Mem.subR (R := R) hMR; exact RW.step (Ex.fieldAddr fa89_2 rfl) rfl rfl rfl (RW.nil ⟨rfl, rfl, _, rfl, H', [], Hp.le.refl _, hMR, rfl, rfl, trivial⟩)
    ·
     intro H' σ' w R E hle hMR hE0 hE hp hf; obtain rfl := hE0 rfl; obtain ⟨_, hg⟩ := hp 8 (by decide) (by kernel_rfl); obtain ⟨e74, _, _⟩ := hg.get rfl; have e75 : σ' 41 = .pointer (some ⟨b31, 2, none⟩) := (List.cons.inj e74).1; obtain ⟨τ, rfl⟩ := q43 (σ := σ') (l := [(41, .pointer (some ⟨b31, 2, none⟩))]) ⟨e75, trivial⟩; have hM := Mem.subR (R := R) hMR; exact RW.step (Ex.load1 hM 1 to82 rfl rfl rfl) rfl rfl rfl (RW.nil ⟨rfl, rfl, _, rfl, H', [], Hp.le.refl _, hMR, rfl, rfl, trivial⟩)
    ·
     intro HR8 σ' w X miss hms hleR hM hX hX0 hf; simp [subs] at hms; rcases hms with rfl
     ·
      obtain ⟨H76, hH8⟩ : ∃ x, x = HR8 := ⟨_, rfl⟩
      subst hH8; have hle77 := hleR; obtain ⟨_, g0, y0⟩ := hX 0 (by decide) (by kernel_rfl); obtain ⟨_, rfl, _⟩ := g0.get rfl
      replace y0 : X 0 = [] := y0
      obtain ⟨_, g0, y1⟩ := hX 1 (by decide) (by kernel_rfl); obtain ⟨_, rfl, _⟩ := g0.get rfl
      replace y1 : X 1 = [] := y1
      obtain ⟨_, g0, y2⟩ := hX 2 (by decide) (by kernel_rfl); obtain ⟨_, rfl, _⟩ := g0.get rfl
      replace y2 : X 2 = [] := y2
      obtain ⟨_, g0, y3⟩ := hX 3 (by decide) (by kernel_rfl); obtain ⟨_, rfl, _⟩ := g0.get rfl
      replace y3 : X 3 = [] := y3
      obtain ⟨_, g0, y4⟩ := hX 4 (by decide) (by kernel_rfl); obtain ⟨_, rfl, _⟩ := g0.get rfl
      replace y4 : X 4 = [] := y4
      obtain ⟨_, g0, y5⟩ := hX 5 (by decide) (by kernel_rfl); obtain ⟨_, rfl, _⟩ := g0.get rfl
      replace y5 : X 5 = [] := y5
      obtain ⟨_, g0, y6⟩ := hX 6 (by decide) (by kernel_rfl); obtain ⟨_, rfl, _⟩ := g0.get rfl
      replace y6 : X 6 = [] := y6
      obtain ⟨_, g0, y7⟩ := hX 7 (by decide) (by kernel_rfl); obtain ⟨A56, n57, c58, e78, rfl, hV59, _⟩ := g0.get rfl; have e79 : σ' 40 = .slice A56 n57 c58 := (List.cons.inj e78).1
      replace y7 : X 7 = [] := y7
      obtain ⟨_, g0, y8⟩ := hX 8 (by decide) (by kernel_rfl); obtain ⟨_, rfl, _⟩ := g0.get rfl
      replace y8 : X 8 = [] := y8
      obtain ⟨_, g0, y9⟩ := hX 9 (by decide) (by kernel_rfl); obtain ⟨e80, rfl, _⟩ := g0.get rfl; have e81 : σ' 42 = .slice A29 n29 c29 := (List.cons.inj e80).1
      replace y9 : X 9 = [] := y9
      have hfl : flatX X 10 = [] := by
       show X 0 ++ (X 1 ++ (X 2 ++ (X 3 ++ (X 4 ++ (X 5 ++ (X 6 ++ (X 7 ++ (X 8 ++ (X 9 ++ []))))))))) = _; rw [y0, y1, y2, y3, y4, y5, y6, y7, y8, y9]; rfl
      rw [hfl] at hM; obtain ⟨τ, rfl⟩ := q43 (σ := σ') (l := [(8, .slice A17 n18 c19), (19, .slice A2 n2 c2), (20, .int .i64 ((x1.length : Int))), (21, .int .i64 v24), (40, .slice A56 n57 c58), (42, .slice A29 n29 c29)]) ⟨(hf 8 (by kernel_rfl)).trans rfl, (hf 19 (by kernel_rfl)).trans rfl, (hf 20 (by kernel_rfl)).trans rfl, (hf 21 (by kernel_rfl)).trans rfl, e79, e81, trivial⟩; change RA _ _ _ _ _ _ _ (sl [(8, .slice A17 n18 c19), (19, .slice A2 n2 c2), (20, .int .i64 ((x1.length : Int))), (21, .int .i64 v24), (40, .slice A56 n57 c58), (42, .slice A29 n29 c29)] τ) _ 11 _; refine RA.step [10] (by kernel_rfl) rfl ⟨⟨_, rfl, ?_⟩, trivial⟩; refine RW.copyV (α := Sec) (xs := (ix v16 ((ix x1 v24).Volume))) (ys := (ix x1 v24).Data) hM 0 st82 rfl hV59 rfl (hF43.mono hle77) hn48 hg55 rfl hle77 hF29 rfl rfl ?_; intro s82 w hd83 hM; refine RW.nil ?_; refine And.intro rfl ?_; refine RA.done (by kernel_rfl) ?_; refine CW.region ?_; obtain ⟨hg84, hm⟩ := hm; refine RW.st (Ex.add rfl rfl hg84.1 hg84.2) rfl <| RW.st (Ex.move (.int .i64 (v24 + 1)) rfl) rfl <| RW.nil ?_
      obtain ⟨s85, rs86, hd87, hM⟩ := Mem.unfocus (α := List Sec) (Ts := [81]) (x := (paste (ix v16 ((ix x1 v24).Volume)) ((ix x1 v24).Start) ((ix x1 v24).Data))) [.box b31 89 [.int .i64 ((ix x1 v24).Volume), .int .i64 ((ix x1 v24).Start), .slice A29 n29 c29], .row (.slice A17 n18 c19) 82 1 n18 (c44 ++ ([.slice A43 n43 c43] ++ c45))] hM 1 rfl (hh47.mono hle77) ⟨A43, n43, c43, s82, rfl, rfl, hd83, (hn48).trans (q211 hg55).symm⟩; exact And.intro rfl ⟨k25, ⟨(put v16 ((ix x1 v24).Volume) (paste (ix v16 ((ix x1 v24).Volume)) ((ix x1 v24).Start) ((ix x1 v24).Data))), A17, n18, c19, s85, rs86, v24 + 1, H76, hle15.trans hle77, q43 ⟨rfl, rfl, rfl, rfl, trivial⟩, (Mem.pickT (L1 := [.box b31 89 [.int .i64 ((ix x1 v24).Volume), .int .i64 ((ix x1 v24).Start), .slice A29 n29 c29], .row (.slice A17 n18 c19) 82 1 n18 s85]) (T := rs86) hM [1] rfl rfl), hd87, (hn23).trans (q124 _ _ _).symm, (by rw [hrec26]; exact hm)⟩, Nat.lt_succ_self _⟩
  ·
   replace hm := And.right hm hc27
   refine CW.exit ?_; refine CW.sr <| RW.st (Ex.move (.slice A17 n18 c19) rfl) rfl <| RW.st (Ex.assign (.slice A17 n18 c19) rfl) rfl <| RW.st (Ex.assign (.int .i64 0) rfl) rfl <| RW.st (Ex.assign (.int .i64 0) rfl) rfl <| RW.nil <| CW.ret ?_
   refine q353 (.inl rfl) rfl (.slice A17 n18 c19) (.int .i64 0) (.int .i64 0) rfl rfl rfl ?_; exact ⟨_, _, hM, (v16, 0, 0), hm, A17, n18, c19, s20, rs21, rfl, hd22, hn23, rfl⟩
theorem pk25 (v : Value) (cs : List Value) : PkR Tryz.prog 25 v cs = (cs = [v]) := by kernel_rfl
set_option maxRecDepth 100000 in
theorem ok29 : ct29.Ok Tryz.prog tab gh := by
  intro x Φ hW H vs _ hA; obtain ⟨v0, k0, q0, rfl, p0, r0, v1, k1, q1, rfl, p1, r1, hq⟩ := hA; obtain rfl : q1 = [] := hq; rw [pk29] at p0; subst p0; obtain ⟨A0, n0, c0, s0, e0, hF0⟩ := (show Dt.rd (α := List (List Sec)) H _ _ from r0)
  obtain rfl := (List.cons.inj e0).1; rw [pk25] at p1; subst p1; obtain ⟨A1, n1, c1, s1, e1, hF1⟩ := (show Dt.rd (α := List q8) H _ _ from r1)
  obtain rfl := (List.cons.inj e1).1; have hW : q38 x.1 x.2.1 (fun y => Φ (y.1, y.2.1, y.2.2, ())) := hW; intro w hw; refine (q266 x.1 x.2.1 hF0 hF1 hW w hw).mono fun e w' ⟨v, H', L', h1, hM, y, hy, A, n, c, s, rs, hv, hd, hn, hL⟩ => ?_; subst hL; obtain ⟨H2, g1, g2, g3⟩ := DeepL.flat (es := [_]) hM hd; refine ⟨v, H2, _, h1, g1, _, hy, fun nx ρ0 hn0 s' b m hre => ?_⟩; rw [show resE Tryz.prog tab ct29.rs ct29.own (y.1, y.2.1, y.2.2, ()) nx = some (.tup [.own nx, .i .i64 y.2.1, .i .i64 y.2.2], [(nx, .row 82 y.1)], nx + 1) by kernel_rfl] at hre; cases hre; obtain ⟨f1, f2⟩ := q89 hn0 (.r A n c); exact ⟨ρ0.put nx (.r A n c), f1, Nat.le_succ _, f2, fun id hid => RM.put_ne _ _ (Nat.ne_of_lt hid), ⟨_, hv, _, _, rfl, ⟨A, n, c, RM.put_same _ _ _, rfl⟩, _, _, rfl, rfl, _, _, rfl, rfl, rfl⟩, _, _, rfl, ⟨A, n, c, s, RM.put_same _ _ _, rfl, g3, hn⟩, rfl⟩
theorem ok111 : ct111.Ok Tryz.prog tab gh := okU eq111 ⟨tabOk, trivial, mo, trivial, ghUp, trivial, trivial⟩
theorem q599 : it112.Ok Tryz.prog gh := It.lift (E := ⟨Tryz.prog, tab, [], pl112, [], gh, [], [], []⟩) ⟨tabOk, trivial, mo, trivial, ghUp, trivial, trivial⟩ it112 fun x l => by rw [eqi112]; exact id
theorem ok113 : ct113.Ok Tryz.prog tab gh := okU eq113 ⟨tabOk, trivial, mo, trivial, ghUp, trivial, trivial⟩
theorem ok136 : ct136.Ok Tryz.prog tab gh := okU eq136 ⟨tabOk, trivial, mo, trivial, ghUp, trivial, trivial⟩
theorem ok146 : ct146.Ok Tryz.prog tab gh := okU eq146 ⟨tabOk, trivial, mo, trivial, ghUp, trivial, trivial⟩
theorem ok149 : ct149.Ok Tryz.prog tab gh := okU eq149 ⟨tabOk, ⟨ok146, trivial⟩, mo, trivial, ghUp, trivial, trivial⟩
theorem ok148 : ct148.Ok Tryz.prog tab gh := okU eq148 ⟨tabOk, trivial, mo, trivial, ghUp, trivial, trivial⟩
theorem ok138 : ct138.Ok Tryz.prog tab gh := okU eq138 ⟨tabOk, ⟨ok148, ok149, trivial⟩, mo, trivial, ghUp, trivial, trivial⟩
def Tryz.layP_ren : Go.Shelf.Ren := ⟨fun | 6 => 137 | 15 => 102 | 14 => 147 | 28 => 132 | 29 => 133 | 20 => 152 | 21 => 153 | 22 => 154 | 23 => 155 | 24 => 156 | 25 => 157 | 26 => 158 | 27 => 159 | 46 => 160 | 47 => 142 | 48 => 143 | 49 => 161 | 50 => 162 | 57 => 163 | n => n, fun | 22 => 214 | 24 => 212 | 25 => 216 | 3 => 3 | 39 => 168 | 0 => 0 | 53 => 192 | 55 => 195 | 4 => 4 | 46 => 200 | 45 => 199 | 50 => 205 | 5 => 5 | 9 => 9 | 66 => 223 | 70 => 227 | 76 => 231 | 77 => 232 | n => n, fun | n => n⟩
theorem Tryz.layP : Go.Proofs.SlLaysF0.n6 Tryz.prog Tryz.layP_ren := {
  mixed := by kernel_rfl
  f6 := ⟨Tryz.f137.name, by decide, Tryz.func137.trans (congrArg some (by kernel_rfl))⟩
  f14 := ⟨Tryz.f147.name, by decide, Tryz.func147.trans (congrArg some (by kernel_rfl))⟩
  f15 := Tryz.func102.trans (congrArg some (by kernel_rfl))
  f20 := ⟨Tryz.f152.name, by decide, Tryz.func152.trans (congrArg some (by kernel_rfl))⟩
  f21 := ⟨Tryz.f153.name, by decide, Tryz.func153.trans (congrArg some (by kernel_rfl))⟩
  f22 := ⟨Tryz.f154.name, by decide, Tryz.func154.trans (congrArg some (by kernel_rfl))⟩
  f23 := ⟨Tryz.f155.name, by decide, Tryz.func155.trans (congrArg some (by kernel_rfl))⟩
  f24 := ⟨Tryz.f156.name, by decide, Tryz.func156.trans (congrArg some (by kernel_rfl))⟩
  f25 := ⟨Tryz.f157.name, by decide, Tryz.func157.trans (congrArg some (by kernel_rfl))⟩
  f26 := ⟨Tryz.f158.name, by decide, Tryz.func158.trans (congrArg some (by kernel_rfl))⟩
  f27 := ⟨Tryz.f159.name, by decide, Tryz.func159.trans (congrArg some (by kernel_rfl))⟩
  f28 := Tryz.func132.trans (congrArg some (by kernel_rfl))
  f29 := Tryz.func133.trans (congrArg some (by kernel_rfl))
  f46 := ⟨Tryz.f160.name, by decide, Tryz.func160.trans (congrArg some (by kernel_rfl))⟩
  f47 := Tryz.func142.trans (congrArg some (by kernel_rfl))
  f48 := Tryz.func143.trans (congrArg some (by kernel_rfl))
  f49 := ⟨Tryz.f161.name, by decide, Tryz.func161.trans (congrArg some (by kernel_rfl))⟩
  f50 := ⟨Tryz.f162.name, by decide, Tryz.func162.trans (congrArg some (by kernel_rfl))⟩
  f57 := ⟨Tryz.f163.name, by decide, Tryz.func163.trans (congrArg some (by kernel_rfl))⟩
  t0 := Tryz.underlying0
  a0 := Tryz.isAgg0
  z0 := Tryz.sizeOf0
  v0 := Tryz.zeroValue0
  t3 := Tryz.underlying3
  a3 := Tryz.isAgg3
  z3 := Tryz.sizeOf3
  v3 := Tryz.zeroValue3
  t4 := Tryz.underlying4
  a4 := Tryz.isAgg4
  z4 := Tryz.sizeOf4
  v4 := Tryz.zeroValue4
  t5 := Tryz.underlying5
  a5 := Tryz.isAgg5
  z5 := Tryz.sizeOf5
  v5 := Tryz.zeroValue5
  t9 := Tryz.underlying9
  a9 := Tryz.isAgg9
  z9 := Tryz.sizeOf9
  v9 := Tryz.zeroValue9
  t22 := Tryz.underlying214
  a22 := Tryz.isAgg214
  z22 := Tryz.sizeOf214
  v22 := Tryz.zeroValue214
  t25 := Tryz.underlying216
  a25 := Tryz.isAgg216
  z25 := Tryz.sizeOf216
  v25 := Tryz.zeroValue216
  t39 := Tryz.underlying168
  a39 := Tryz.isAgg168
  z39 := Tryz.sizeOf168
  v39 := Tryz.zeroValue168
  t45 := Tryz.underlying199
  a45 := Tryz.isAgg199
  z45 := Tryz.sizeOf199
  v45 := Tryz.zeroValue199
  t46 := Tryz.underlying200
  a46 := Tryz.isAgg200
  z46 := Tryz.sizeOf200
  v46 := Tryz.zeroValue200
  t50 := Tryz.underlying205
  a50 := Tryz.isAgg205
  z50 := Tryz.sizeOf205
  v50 := Tryz.zeroValue205
  t53 := Tryz.underlying192
  a53 := Tryz.isAgg192
  z53 := Tryz.sizeOf192
  v53 := Tryz.zeroValue192
  t55 := Tryz.underlying195
  a55 := Tryz.isAgg195
  z55 := Tryz.sizeOf195
  v55 := Tryz.zeroValue195
  t66 := Tryz.underlying223
  a66 := Tryz.isAgg223
  z66 := Tryz.sizeOf223
  v66 := Tryz.zeroValue223
  t70 := Tryz.underlying227
  a70 := Tryz.isAgg227
  z70 := Tryz.sizeOf227
  v70 := Tryz.zeroValue227
  t76 := Tryz.underlying231
  a76 := Tryz.isAgg231
  z76 := Tryz.sizeOf231
  v76 := Tryz.zeroValue231
  t77 := Tryz.underlying232
  a77 := Tryz.isAgg232
  z77 := Tryz.sizeOf232
  v77 := Tryz.zeroValue232 }
theorem pk212 (v : Value) (cs : List Value) : PkR Tryz.prog 212 v cs = (v = .agg cs.toArray) := by kernel_rfl
def encP (x : q9) : List Value := [.int .i64 x.volume, .int .i64 x.sector]
theorem q447 {H : Hp} (hG : gh H) (x y : q9) (W : World) (hag : ∀ b o, H b = some o → W.heap[b]? = some o) : Calls Tryz.prog 138 #[.agg (encP x).toArray, .agg (encP y).toArray] W fun e w' => e = .returned (.int .i64 (cmpP x y)) ∧ ∃ q os, w' = Sort.grow (W.drewN q) os := by
  refine (ok138 (x, y, ()) (fun v => v.1 = cmpP x y) (q597 x y) H [.agg (encP x).toArray, .agg (encP y).toArray] hG ⟨_, encP x, _, rfl, by rw [pk212], rfl, _, encP y, _, rfl, by rw [pk212], rfl, rfl⟩ W hag).mono fun e w' ⟨v, H', L', h1, hM, y', hy, hr⟩ => ?_; obtain ⟨ρ, _, _, _, _, h2, _⟩ := hr 0 (fun _ => none) (fun _ _ => rfl) _ _ _ (show resE Tryz.prog tab ct138.rs ct138.own y' 0 = some (.i .i64 y'.1, [], 0) by kernel_rfl); have h2 : v = .int .i64 y'.1 := h2; exact ⟨by rw [h1, h2, hy], hM.below.grow⟩
set_option maxRecDepth 100000 in
theorem tnh137 {xs : List q9} {Φ : List q9 → Prop} (hlen : xs.length ≤ 1099511627776) (hW : Φ (sortG pleB xs)) {H : Hp} {w : World} {base : Nat} {v : Value} {n : Nat} {s : List Value} (hG : gh H) (hag : ∀ b o, H b = some o → w.heap[b]? = some o) (hap : ∀ b, v.ownBlock = some b → H b = none) (ho : w.ownsRow base 212 2 v n s) (hn : n = xs.length) (hd : DtL (α := q9) H s xs) : Calls Tryz.prog 137 (v :: fnVs [138]).toArray w fun e w' => e = .returned (.tuple #[]) ∧ ∃ (ys : List q9) (s' : List Value), Φ ys ∧ DtL (α := q9) H s' ys ∧ ys.length = xs.length ∧ w.grownBy w' v.ownBlock ∧ w.drawn ≤ w'.drawn ∧ w'.ownsRow base 212 2 v n s' := by
  have hs := hd.enc (enc := encP) fun _ _ _ h => h; have hk : ∀ x : q9, (encP x).length = 2 := fun _ => rfl
  have none : ∀ p cap, v = .slice p 0 cap → n = 0 → Calls Tryz.prog 137 (v :: fnVs [138]).toArray w fun e w' => e = .returned (.tuple #[]) ∧ ∃ (ys : List q9) (s' : List Value), Φ ys ∧ DtL (α := q9) H s' ys ∧ ys.length = xs.length ∧ w.grownBy w' v.ownBlock ∧ w.drawn ≤ w'.drawn ∧ w'.ownsRow base 212 2 v n s' := by
    intro p cap hv h0; have hx : xs = [] := List.eq_nil_of_length_eq_zero (hn.symm.trans h0); have hc := AnyF.slices_SortFunc_none (P := Tryz.prog) (ρ := Tryz.layP_ren) { Tryz.layP with } p cap (.func (.func 138) #[] #[]) w; change Calls Tryz.prog 137 _ _ _ at hc; rw [hv]; refine hc.mono fun e w' ⟨h2, h3⟩ => ⟨h2, xs, s, ?_, hd, rfl, ?_, ?_, ?_⟩
    · rw [hx] at hW ⊢; exact hW
    · rw [h3]; exact ⟨rfl, rfl, rfl, Nat.le_refl _, fun _ _ _ => rfl⟩
    · rw [h3]; exact Nat.le_refl _
    · rw [h3, ← hv]; exact ho
  obtain ⟨_, ⟨hv, h0⟩ | ⟨b, cap, cur, hv, _⟩⟩ := id ho
  · exact none _ _ hv h0
  · subst hv
    haveI : Inhabited q9 := ⟨⟨0, 0⟩⟩
    have hfl : (Sort.flatK encP 2 xs.toArray).toList = s := by rw [q340 hk, hs]
    obtain ⟨hH, hb⟩ := q339 (enc := id) (d := Sort.flatK encP 2 xs.toArray) ho (by rw [List.map_id_fun, hfl]; rfl); have hgH : H b = Option.none := hap b rfl; have eg : ∀ args w, (callFunc 138 args).run Tryz.prog w = .ok (.enter 138 args) w := enters_of Tryz.func138 (by kernel_rfl) rfl
    have hcmp : CmpLays Tryz.prog 138 #[] encP 2 cmpP b 0 xs.toArray.size w := fun m os dk _ p q => by
      refine q447 hG p q _ fun b' o hbo => ?_; have h1 := hag b' o hbo; have hne : b' ≠ b := by rintro rfl; rw [hgH] at hbo; cases hbo
      exact (q338 id 0 m (Sort.flatK encP 2 dk) os (q31 h1) hne).trans h1
    have ht : TyAgg Tryz.prog 212 2 := q358 (by kernel_rfl); obtain ⟨⟨ds, t1, t2⟩, ⟨ti, t3, t4⟩⟩ := ht; have hc := AnyQ.slices_SortFunc_total Tryz.layP 2 (fun w => (q86 t1 w).trans (by rw [t2])) (fun w => (q24 t3 w).trans (by rw [t4])) encP hk (fun x u hu => by simp only [encP, List.mem_cons, List.not_mem_nil, or_false] at hu; rcases hu with rfl | rfl <;> rfl) cmpP swoP 138 #[] b 0 cap xs.toArray w eg hcmp hH hb (by rw [List.size_toArray]; omega) q525; change Calls Tryz.prog 137 _ _ _ at hc; rw [List.size_toArray, ← hn] at hc; refine hc.mono fun e w' ⟨h2, m, os, h3⟩ => ?_; rw [mergeP] at h3; refine ⟨h2, sortG pleB xs, (sortG pleB xs).flatMap encP, hW, DtL.ofEnc (fun _ _ => rfl) _, (q41 pleB xs).length_eq, ?_, ?_, ?_⟩
    · rw [h3]; exact q256 id 0 m (Sort.flatK encP 2 (sortG pleB xs).toArray) os
    · rw [h3]; exact Nat.le_add_right _ _
    · rw [h3]
      have := q298 id m (Sort.flatK encP 2 (sortG pleB xs).toArray) os ho (by rw [Sort.size_flatK, List.size_toArray, (q41 pleB xs).length_eq, hn]); rw [List.map_id_fun, id, q340 hk] at this; exact this
theorem tnok137 : tn137.Ok Tryz.prog gh := fun _ _ hW _ _ _ _ _ _ hG hag hap ho hn hd => tnh137 hW.1 hW.2 hG hag hap ho hn hd
theorem ok82 : ct82.Ok Tryz.prog tab gh := Ct.lift (E := ⟨Tryz.prog, tab, [ct113, ct136], pl82, [], gh, [tn137], [([11, 0, 1, 1, 1, 1, 1, 1, 1, 12, 0, 1, 1], 0), ([16, 2, 1, 0, 1, 4, 0, 1, 1, 5, 4, 1, 0, 1, 1, 1, 1, 1, 1, 12, 0, 1, 1], 81002), ([17, 2, 1, 0, 1, 4, 0, 1, 1, 5, 4, 1, 0, 1, 1, 1, 1, 1, 1, 12, 0, 1, 1], 0)], []⟩) ⟨tabOk, ⟨ok113, ok136, trivial⟩, mo, trivial, ghUp, ⟨tnok137, trivial⟩, trivial⟩ 9 ct82 fun x Φ => by rw [eq82]; exact id
theorem ok84 : ct84.Ok Tryz.prog tab gh := Ct.lift (E := ⟨Tryz.prog, tab, [ct67, ct75], pl84, [it112], gh, [], [], []⟩) ⟨tabOk, ⟨ok67, ok75, trivial⟩, mo, ⟨q599, trivial⟩, ghUp, trivial, trivial⟩ 9 ct84 fun x Φ => by rw [eq84]; exact id
theorem ok30 : ct30.Ok Tryz.prog tab gh := Ct.liftD (E := ⟨Tryz.prog, tab, [ct24, ct67, ct68, ct82, ct84, ct90, ct108, ct111], pl30, [it112], gh, [], [([18, 0, 1, 4, 0, 1, 1, 5, 4, 1, 0, 1, 1, 12, 0, 1, 1, 1, 1, 1], 0)], []⟩) ⟨tabOk, ⟨ok24, ok67, ok68, ok82, ok84, ok90, ok108, ok111, trivial⟩, mo, ⟨q599, trivial⟩, ghUp, trivial, trivial⟩ 9 ct30 fun x Φ => by rw [eq30]; exact id
theorem ok35 : ct35.Ok Tryz.prog tab gh := okU eq35 ⟨tabOk, trivial, mo, trivial, ghUp, trivial, trivial⟩
theorem ok38 : ct38.Ok Tryz.prog tab gh := okU eq38 ⟨tabOk, ⟨ok48, trivial⟩, mo, trivial, ghUp, trivial, trivial⟩
theorem ok91 : ct91.Ok Tryz.prog tab gh := okU eq91 ⟨tabOk, ⟨ok24, ok108, trivial⟩, mo, trivial, ghUp, trivial, trivial⟩
theorem ok39 : ct39.Ok Tryz.prog tab gh := okU eq39 ⟨tabOk, ⟨ok24, ok67, ok90, ok91, trivial⟩, mo, trivial, ghUp, trivial, trivial⟩
theorem ok92 : ct92.Ok Tryz.prog tab gh := okU eq92 ⟨tabOk, trivial, mo, trivial, ghUp, trivial, trivial⟩
theorem ok40 : ct40.Ok Tryz.prog tab gh := okU eq40 ⟨tabOk, ⟨ok92, trivial⟩, mo, trivial, ghUp, trivial, trivial⟩
theorem ok63 : ct63.Ok Tryz.prog tab gh := okU eq63 ⟨tabOk, trivial, mo, trivial, ghUp, trivial, trivial⟩
theorem ok41 : ct41.Ok Tryz.prog tab gh := okU eq41 ⟨tabOk, ⟨ok40, ok63, trivial⟩, mo, trivial, ghUp, trivial, trivial⟩
theorem ok94 : ct94.Ok Tryz.prog tab gh := okU eq94 ⟨tabOk, trivial, mo, trivial, ghUp, trivial, trivial⟩
theorem ok42 : ct42.Ok Tryz.prog tab gh := okU eq42 ⟨tabOk, ⟨ok94, trivial⟩, mo, trivial, ghUp, trivial, trivial⟩
theorem ok8 : ct8.Ok Tryz.prog tab gh := okU eq8 ⟨tabOk, ⟨ok35, ok38, ok39, ok40, ok41, ok42, trivial⟩, mo, trivial, ghUp, trivial, trivial⟩
theorem ok98 : ct98.Ok Tryz.prog tab gh := okU eq98 ⟨tabOk, trivial, mo, trivial, ghUp, trivial, trivial⟩
theorem ok46 : ct46.Ok Tryz.prog tab gh := okU eq46 ⟨tabOk, ⟨ok68, ok88, trivial⟩, mo, trivial, ghUp, trivial, trivial⟩
theorem ok49 : ct49.Ok Tryz.prog tab gh := okU eq49 ⟨tabOk, ⟨ok46, ok68, ok98, trivial⟩, mo, trivial, ghUp, trivial, trivial⟩
def Tryz.layS_ren : Go.Shelf.Ren := ⟨fun | 5 => 51 | 8 => 102 | 7 => 101 | 19 => 132 | 20 => 133 | 10 => 123 | 11 => 124 | 12 => 125 | 13 => 126 | 14 => 127 | 15 => 128 | 16 => 129 | 17 => 130 | 18 => 131 | 30 => 141 | 31 => 142 | 32 => 143 | 33 => 144 | 34 => 145 | 35 => 146 | 40 => 151 | n => n, fun | 23 => 24 | 25 => 3 | 3 => 3 | 32 => 168 | 22 => 24 | 0 => 0 | 44 => 192 | 46 => 195 | 4 => 4 | 36 => 200 | 35 => 199 | 41 => 205 | 5 => 5 | 9 => 9 | 53 => 223 | 57 => 227 | 63 => 231 | 64 => 232 | n => n, fun | n => n⟩
theorem Tryz.layS : Go.Proofs.SlLaysM.n5 Tryz.prog Tryz.layS_ren := {
  mixed := by kernel_rfl
  f5 := ⟨Tryz.f51.name, by decide, Tryz.func51.trans (congrArg some (by kernel_rfl))⟩
  f7 := ⟨Tryz.f101.name, by decide, Tryz.func101.trans (congrArg some (by kernel_rfl))⟩
  f8 := Tryz.func102.trans (congrArg some (by kernel_rfl))
  f10 := ⟨Tryz.f123.name, by decide, Tryz.func123.trans (congrArg some (by kernel_rfl))⟩
  f11 := ⟨Tryz.f124.name, by decide, Tryz.func124.trans (congrArg some (by kernel_rfl))⟩
  f12 := ⟨Tryz.f125.name, by decide, Tryz.func125.trans (congrArg some (by kernel_rfl))⟩
  f13 := ⟨Tryz.f126.name, by decide, Tryz.func126.trans (congrArg some (by kernel_rfl))⟩
  f14 := ⟨Tryz.f127.name, by decide, Tryz.func127.trans (congrArg some (by kernel_rfl))⟩
  f15 := ⟨Tryz.f128.name, by decide, Tryz.func128.trans (congrArg some (by kernel_rfl))⟩
  f16 := ⟨Tryz.f129.name, by decide, Tryz.func129.trans (congrArg some (by kernel_rfl))⟩
  f17 := ⟨Tryz.f130.name, by decide, Tryz.func130.trans (congrArg some (by kernel_rfl))⟩
  f18 := ⟨Tryz.f131.name, by decide, Tryz.func131.trans (congrArg some (by kernel_rfl))⟩
  f19 := Tryz.func132.trans (congrArg some (by kernel_rfl))
  f20 := Tryz.func133.trans (congrArg some (by kernel_rfl))
  f30 := ⟨Tryz.f141.name, by decide, Tryz.func141.trans (congrArg some (by kernel_rfl))⟩
  f31 := Tryz.func142.trans (congrArg some (by kernel_rfl))
  f32 := Tryz.func143.trans (congrArg some (by kernel_rfl))
  f33 := ⟨Tryz.f144.name, by decide, Tryz.func144.trans (congrArg some (by kernel_rfl))⟩
  f34 := ⟨Tryz.f145.name, by decide, Tryz.func145.trans (congrArg some (by kernel_rfl))⟩
  f35 := ⟨Tryz.f146.name, by decide, Tryz.func146.trans (congrArg some (by kernel_rfl))⟩
  f40 := ⟨Tryz.f151.name, by decide, Tryz.func151.trans (congrArg some (by kernel_rfl))⟩
  t0 := Tryz.underlying0
  a0 := Tryz.isAgg0
  z0 := Tryz.sizeOf0
  v0 := Tryz.zeroValue0
  t3 := Tryz.underlying3
  a3 := Tryz.isAgg3
  z3 := Tryz.sizeOf3
  v3 := Tryz.zeroValue3
  t4 := Tryz.underlying4
  a4 := Tryz.isAgg4
  z4 := Tryz.sizeOf4
  v4 := Tryz.zeroValue4
  t5 := Tryz.underlying5
  a5 := Tryz.isAgg5
  z5 := Tryz.sizeOf5
  v5 := Tryz.zeroValue5
  t9 := Tryz.underlying9
  a9 := Tryz.isAgg9
  z9 := Tryz.sizeOf9
  v9 := Tryz.zeroValue9
  t22 := Tryz.underlying24
  a22 := Tryz.isAgg24
  z22 := Tryz.sizeOf24
  v22 := Tryz.zeroValue24
  t23 := Tryz.underlying24
  a23 := Tryz.isAgg24
  z23 := Tryz.sizeOf24
  v23 := Tryz.zeroValue24
  t25 := Tryz.underlying3
  a25 := Tryz.isAgg3
  z25 := Tryz.sizeOf3
  v25 := Tryz.zeroValue3
  t32 := Tryz.underlying168
  a32 := Tryz.isAgg168
  z32 := Tryz.sizeOf168
  v32 := Tryz.zeroValue168
  t35 := Tryz.underlying199
  a35 := Tryz.isAgg199
  z35 := Tryz.sizeOf199
  v35 := Tryz.zeroValue199
  t36 := Tryz.underlying200
  a36 := Tryz.isAgg200
  z36 := Tryz.sizeOf200
  v36 := Tryz.zeroValue200
  t41 := Tryz.underlying205
  a41 := Tryz.isAgg205
  z41 := Tryz.sizeOf205
  v41 := Tryz.zeroValue205
  t44 := Tryz.underlying192
  a44 := Tryz.isAgg192
  z44 := Tryz.sizeOf192
  v44 := Tryz.zeroValue192
  t46 := Tryz.underlying195
  a46 := Tryz.isAgg195
  z46 := Tryz.sizeOf195
  v46 := Tryz.zeroValue195
  t53 := Tryz.underlying223
  a53 := Tryz.isAgg223
  z53 := Tryz.sizeOf223
  v53 := Tryz.zeroValue223
  t57 := Tryz.underlying227
  a57 := Tryz.isAgg227
  z57 := Tryz.sizeOf227
  v57 := Tryz.zeroValue227
  t63 := Tryz.underlying231
  a63 := Tryz.isAgg231
  z63 := Tryz.sizeOf231
  v63 := Tryz.zeroValue231
  t64 := Tryz.underlying232
  a64 := Tryz.isAgg232
  z64 := Tryz.sizeOf232
  v64 := Tryz.zeroValue232 }
theorem tnh51 {xs : List (Int)} {Φ : List (Int) → Prop} (hlen : xs.length ≤ 1099511627776) (hW : Φ (sortI xs)) {H : Hp} {w : World} {base : Nat} {v : Value} {n : Nat} {s : List Value} (_ : ∀ b o, H b = some o → w.heap[b]? = some o) (_ : ∀ b, v.ownBlock = some b → H b = none) (ho : w.ownsRow base 3 1 v n s) (hn : n = xs.length) (hd : DtL (α := Int) H s xs) : Calls Tryz.prog 51 (v :: fnVs []).toArray w fun e w' => e = .returned (.tuple #[]) ∧ ∃ (ys : List (Int)) (s' : List Value), Φ ys ∧ DtL (α := Int) H s' ys ∧ ys.length = xs.length ∧ w.grownBy w' v.ownBlock ∧ w.drawn ≤ w'.drawn ∧ w'.ownsRow base 3 1 v n s' := by
  obtain rfl := DtL.ints hd; obtain ⟨_, ⟨hv, h0⟩ | ⟨g, cap, cur, hv, _⟩⟩ := id ho
  · subst hv
    have hx : xs = [] := List.eq_nil_of_length_eq_zero (hn.symm.trans h0); have hc := AnyM.slices_Sort_int_none Tryz.layS none 0 w; change Calls Tryz.prog 51 _ _ _ at hc; refine hc.mono fun e w' ⟨h2, h3⟩ => ⟨h2, xs, _, ?_, hd, rfl, ?_, ?_, ?_⟩
    · rw [hx] at hW ⊢; exact hW
    · rw [h3]; exact ⟨rfl, rfl, rfl, Nat.le_refl _, fun _ _ _ => rfl⟩
    · rw [h3]; exact Nat.le_refl _
    · rw [h3]; exact ho
  · subst hv
    obtain ⟨hH, hb⟩ := q339 (enc := Value.int .i64) (d := xs.toArray) ho (by simp); have hc := AnyM.slices_Sort_int Tryz.layS g 0 cap xs w hH hb (by omega); change Calls Tryz.prog 51 _ _ _ at hc; rw [← hn] at hc; refine hc.mono fun e w' ⟨h2, m, os, h3⟩ => ⟨h2, sortI xs, _, hW, DtL.ofInts _, (q185 xs).length_eq, ?_, ?_, ?_⟩
    · rw [h3]; exact q256 _ _ _ _ _
    · rw [h3]; exact Nat.le_add_right _ _
    · rw [h3, q446]
      have := q298 (Value.int .i64) m (sortI xs).toArray os ho (by rw [List.size_toArray, (q185 xs).length_eq, hn]; exact (Nat.mul_one _).symm); exact this
theorem tnok51 : tn51.Ok Tryz.prog gh := fun _ _ hW _ _ _ _ _ _ _ hag hap ho hn hd => tnh51 hW.1 hW.2 hag hap ho hn hd
theorem ok15 : ct15.Ok Tryz.prog tab gh := Ct.lift (E := ⟨Tryz.prog, tab, [ct8, ct38, ct39, ct40, ct42, ct46, ct49], pl15, [], gh, [tn51], [], []⟩) ⟨tabOk, ⟨ok8, ok38, ok39, ok40, ok42, ok46, ok49, trivial⟩, mo, trivial, ghUp, ⟨tnok51, trivial⟩, trivial⟩ 9 ct15 fun x Φ => by rw [eq15]; exact id
theorem ok44 : ct44.Ok Tryz.prog tab gh := okU eq44 ⟨tabOk, ⟨ok8, trivial⟩, mo, trivial, ghUp, trivial, trivial⟩
theorem ok11 : ct11.Ok Tryz.prog tab gh := okU eq11 ⟨tabOk, ⟨ok44, ok46, trivial⟩, mo, trivial, ghUp, trivial, trivial⟩
theorem ok31 : ct31.Ok Tryz.prog tab gh := okU eq31 ⟨tabOk, ⟨ok29, ok39, ok76, trivial⟩, mo, trivial, ghUp, trivial, trivial⟩
theorem ok50 : ct50.Ok Tryz.prog tab gh := okU eq50 ⟨tabOk, ⟨ok42, trivial⟩, mo, trivial, ghUp, trivial, trivial⟩
theorem ok23 : ct23.Ok Tryz.prog tab gh := okU eq23 ⟨tabOk, ⟨ok44, ok49, ok50, ok63, trivial⟩, mo, trivial, ghUp, trivial, trivial⟩
theorem ok32 : ct32.Ok Tryz.prog tab gh := okU eq32 ⟨tabOk, ⟨ok44, ok49, ok50, trivial⟩, mo, trivial, ghUp, trivial, trivial⟩
theorem ok139 : ct139.Ok Tryz.prog tab gh := okU eq139 ⟨tabOk, trivial, mo, trivial, ghUp, trivial, trivial⟩
theorem ok116 : ct116.Ok Tryz.prog tab gh := okU eq116 ⟨tabOk, ⟨ok76, ok109, ok139, trivial⟩, mo, trivial, ghUp, trivial, trivial⟩
theorem ok117 : ct117.Ok Tryz.prog tab gh := okU eq117 ⟨tabOk, trivial, mo, trivial, ghUp, trivial, trivial⟩
theorem ok85 : ct85.Ok Tryz.prog tab gh := okU eq85 ⟨tabOk, ⟨ok116, ok117, trivial⟩, mo, trivial, ghUp, trivial, trivial⟩
theorem ok33 : ct33.Ok Tryz.prog tab gh := okU eq33 ⟨tabOk, ⟨ok85, ok88, trivial⟩, mo, trivial, ghUp, trivial, trivial⟩
theorem ok34 : ct34.Ok Tryz.prog tab gh := okU eq34 ⟨tabOk, ⟨ok40, ok41, ok42, ok44, ok49, trivial⟩, mo, trivial, ghUp, trivial, trivial⟩
theorem ok9 : ct9.Ok Tryz.prog tab gh := okU eq9 ⟨tabOk, ⟨ok8, ok42, trivial⟩, mo, trivial, ghUp, trivial, trivial⟩
theorem ok5 : ct5.Ok Tryz.prog tab gh := okU eq5 ⟨tabOk, ⟨ok9, ok11, ok14, ok15, ok23, ok24, ok25, ok26, ok27, ok28, ok29, ok30, ok31, ok32, ok33, ok34, trivial⟩, mo, trivial, ghUp, trivial, trivial⟩
theorem ok58 : ct58.Ok Tryz.prog tab gh := okU eq58 ⟨tabOk, trivial, mo, trivial, ghUp, trivial, trivial⟩
theorem ok96 : ct96.Ok Tryz.prog tab gh := okU eq96 ⟨tabOk, trivial, mo, trivial, ghUp, trivial, trivial⟩
theorem ok47 : ct47.Ok Tryz.prog tab gh := okU eq47 ⟨tabOk, ⟨ok58, ok96, trivial⟩, mo, trivial, ghUp, trivial, trivial⟩
theorem ok12 : ct12.Ok Tryz.prog tab gh := okU eq12 ⟨tabOk, ⟨ok47, trivial⟩, mo, trivial, ghUp, trivial, trivial⟩
theorem ok13 : ct13.Ok Tryz.prog tab gh := okU eq13 ⟨tabOk, ⟨ok47, trivial⟩, mo, trivial, ghUp, trivial, trivial⟩
theorem ok104 : ct104.Ok Tryz.prog tab gh := okU eq104 ⟨tabOk, trivial, mo, trivial, ghUp, trivial, trivial⟩
theorem ok103 : ct103.Ok Tryz.prog tab gh := okU eq103 ⟨tabOk, ⟨ok104, trivial⟩, mo, trivial, ghUp, trivial, trivial⟩
theorem ok52 : ct52.Ok Tryz.prog tab gh := okU eq52 ⟨tabOk, ⟨ok47, ok103, trivial⟩, mo, trivial, ghUp, trivial, trivial⟩
theorem ok16 : ct16.Ok Tryz.prog tab gh := okU eq16 ⟨tabOk, ⟨ok52, ok68, trivial⟩, mo, trivial, ghUp, trivial, trivial⟩
theorem ok55 : ct55.Ok Tryz.prog tab gh := okU eq55 ⟨tabOk, ⟨ok58, ok96, trivial⟩, mo, trivial, ghUp, trivial, trivial⟩
theorem ok62 : ct62.Ok Tryz.prog tab gh := okU eq62 ⟨tabOk, trivial, mo, trivial, ghUp, trivial, trivial⟩
theorem ok56 : ct56.Ok Tryz.prog tab gh := okU eq56 ⟨tabOk, ⟨ok62, trivial⟩, mo, trivial, ghUp, trivial, trivial⟩
theorem ok17 : ct17.Ok Tryz.prog tab gh := okU eq17 ⟨tabOk, ⟨ok55, ok56, trivial⟩, mo, trivial, ghUp, trivial, trivial⟩
theorem ok57 : ct57.Ok Tryz.prog tab gh := okU eq57 ⟨tabOk, ⟨ok62, trivial⟩, mo, trivial, ghUp, trivial, trivial⟩
theorem ok18 : ct18.Ok Tryz.prog tab gh := okU eq18 ⟨tabOk, ⟨ok55, ok57, trivial⟩, mo, trivial, ghUp, trivial, trivial⟩
theorem ok19 : ct19.Ok Tryz.prog tab gh := okU eq19 ⟨tabOk, ⟨ok52, ok68, trivial⟩, mo, trivial, ghUp, trivial, trivial⟩
theorem ok20 : ct20.Ok Tryz.prog tab gh := okU eq20 ⟨tabOk, ⟨ok52, ok58, ok68, ok103, ok104, trivial⟩, mo, trivial, ghUp, trivial, trivial⟩
theorem ok21 : ct21.Ok Tryz.prog tab gh := okU eq21 ⟨tabOk, ⟨ok55, ok58, ok62, trivial⟩, mo, trivial, ghUp, trivial, trivial⟩
theorem ok22 : ct22.Ok Tryz.prog tab gh := okU eq22 ⟨tabOk, ⟨ok52, trivial⟩, mo, trivial, ghUp, trivial, trivial⟩
theorem ok4 : ct4.Ok Tryz.prog tab gh := okU eq4 ⟨tabOk, ⟨ok5, ok11, ok12, ok13, ok14, ok15, ok16, ok17, ok18, ok19, ok20, ok21, ok22, ok23, trivial⟩, mo, trivial, ghUp, trivial, trivial⟩
section
theorem iI {x : Int} (h1 : -9223372036854775808 ≤ x) (h2 : x ≤ 9223372036854775807) : inI x := ⟨h1, h2⟩
theorem iX {i : Int} {n : Nat} (h1 : 0 ≤ i) (h2 : i < (n : Int)) : inX i n := ⟨h1, h2⟩
theorem iS {a b : Int} {n : Nat} (h1 : 0 ≤ a) (h2 : a ≤ b) (h3 : b ≤ (n : Int)) : inS a b n := ⟨h1, h2, h3⟩
theorem iL {n b : Nat} (h : n ≤ 1000000) (hb : b ≤ 1000000) : lenOk n b := by
  have := Nat.mul_le_mul h hb; refine ⟨by omega, ?_⟩; simp only [maxLen]; omega
section
variable {α : Type} [Dt α]
theorem q502 (xs : List α) (k : Nat) : ix xs (k : Int) = xs.getD k default := rfl
theorem q77 {xs : List α} {k : Nat} (h : k < xs.length) : ix xs (k : Int) = xs[k] := by
  show xs.getD k default = _; rw [List.getD_eq_getElem?_getD, List.getElem?_eq_getElem h]; rfl
theorem q126 {xs : List α} {k : Nat} (h : k < xs.length) : xs.take (k + 1) = xs.take k ++ [ix xs (k : Int)] := by
  rw [q77 h]; exact (List.take_append_getElem h).symm
theorem q93 {xs : List α} {i : Int} (h : inX i xs.length) : ix xs i ∈ xs := by
  have e := h.nat; have hl := h.lt; rw [e, q77 hl]; exact List.getElem_mem hl
theorem q260 {xs ys : List α} (hl : xs.length = ys.length) (h : ∀ k : Nat, k < xs.length → ix xs (k : Int) = ix ys (k : Int)) : xs = ys := by
  apply List.ext_getElem hl
  intro k h1 h2; have := h k h1; rwa [q77 h1, q77 h2] at this
end
section
variable {A : Type}
theorem LoopW.upS {S : Type} {step : S → (S → Prop) → Prop} (n : Nat) (idx : S → Int) (Inv : Nat → S → Prop) (h : ∀ (k : Nat) s rec, k ≤ n → idx s = (k : Int) → Inv k s → (∀ s', k < n → idx s' = (k : Int) + 1 → Inv (k + 1) s' → rec s') → step s rec) {s0 : S} (k0 : Nat) (hi : idx s0 = (k0 : Int)) (hk : k0 ≤ n) (h0 : Inv k0 s0) : LoopW step s0 := by
  refine LoopW.of_inv (fun s => ∃ k : Nat, idx s = (k : Int) ∧ k ≤ n ∧ Inv k s) (fun s => n - (idx s).toNat) ?_ ⟨k0, hi, hk, h0⟩
  rintro s rec ⟨k, he, hk, hI⟩ hrec
  refine h k s rec hk he hI fun s' hlt he' hI' => hrec s' ⟨k + 1, by rw [he']; rfl, hlt, hI'⟩ ?_; show n - (idx s').toNat < n - (idx s).toNat; rw [he, he']; omega
def q78 (f : Nat → Int) : Nat → Int
  | 0 => 0
  | n + 1 => if q78 f n ≠ 0 then q78 f n else f n
theorem q341 {f : Nat → Int} : ∀ {n k : Nat}, k < n → (∀ j, j < k → f j = 0) → f k ≠ 0 → q78 f n = f k
  | 0, _, hk, _, _ => by omega
  | n + 1, k, hk, h0, h1 => by
    unfold q78; rcases Nat.lt_or_ge k n with h | h
    · rw [q341 h h0 h1, if_pos h1]
    · have e : k = n := by omega
      subst e
      have : q78 f k = 0 := by
        clear h1 hk h
        induction k with
        | zero => rfl
        | succ k ih => unfold q78; rw [ih fun j hj => h0 j (by omega), if_neg (by simp), h0 k (by omega)]
      rw [this, if_neg (by simp)]
theorem q35 {f : Nat → Int} : ∀ {n : Nat}, q78 f n = 0 ↔ ∀ k, k < n → f k = 0
  | 0 => by simp [q78]
  | n + 1 => by
    unfold q78; constructor
    · intro h k hk
      by_cases h1 : q78 f n ≠ 0
      · rw [if_pos h1] at h; exact absurd h h1
      · rw [if_neg h1] at h
        rcases Nat.lt_or_ge k n with hlt | hge
        · exact (q35.1 (Classical.not_not.1 h1)) k hlt
        · have : k = n := by omega
          subst this; exact h
    · intro h
      rw [if_neg (by rw [q35.2 fun k hk => h k (by omega)]; simp), h n (by omega)]
end
end
theorem LoopW.upI {S : Type} {step : S → (S → Prop) → Prop} (n : Nat) (st : Nat → S) (I : Nat → Prop) {s : S} (hs : s = st 0) (h0 : I 0)
    (h : ∀ (k : Nat) rec, k < n → I k → (I (k + 1) → ∀ s, s = st (k + 1) → rec s) → step (st k) rec) (he : ∀ rec, I n → step (st n) rec) : LoopW step s := by
  have key : ∀ m k, k + m = n → I k → LoopN step (m + 1) (st k) := by
    intro m
    induction m with
    | zero => intro k hk hI; obtain rfl : k = n := hk; exact he _ hI
    | succ m ih => intro k hk hI; exact h k _ (by omega) hI fun hI' s hs => by rw [hs]; exact ih (k + 1) (by omega) hI'
  exact ⟨n + 1, by rw [hs]; exact key n 0 (by omega) h0⟩
theorem LoopW.upT {S : Type} {step : S → (S → Prop) → Prop} (n : Nat) (st : Nat → S) {s : S} (hs : s = st 0)
    (h : ∀ (k : Nat) rec, k < n → (∀ s, s = st (k + 1) → rec s) → step (st k) rec) (he : ∀ rec, step (st n) rec) : LoopW step s :=
  LoopW.upI n st (fun _ => True) hs trivial (fun k rec hk _ hr => h k rec hk (hr trivial)) fun rec _ => he rec
theorem LoopW.findI {step : Int → (Int → Prop) → Prop} (n : Nat) (p : Nat → Bool) (h : ∀ (k : Nat) rec, k < n → (∀ j, j < k → p j = false) → (p k = false → rec ((k : Int) + 1)) → step (k : Int) rec)
    (he : ∀ rec, (∀ j, j < n → p j = false) → step (n : Int) rec) : LoopW step 0 :=
  LoopW.upI n (fun k => (k : Int)) (fun k => ∀ j, j < k → p j = false) rfl (fun j hj => absurd hj (Nat.not_lt_zero j)) (fun k rec hk hI hr => h k rec hk hI fun hp => hr (fun j hj => by
    rcases Nat.lt_or_ge j k with h2 | h2
    · exact hI j h2
    · obtain rfl : j = k := by omega
      exact hp) _ rfl) he
theorem q20 {α : Type} (xs : List α) (x : α) : (xs ++ [x]).length = xs.length + 1 := by simp
theorem lenT {α : Type} {xs : List α} {k : Nat} (h : k ≤ xs.length) : (xs.take k).length = k := by rw [List.length_take]; omega
theorem q79 {α : Type} (xs : List α) : xs.take xs.length = xs := List.take_length
theorem q148 {α β : Type} [Dt α] {xs : List α} {k : Nat} (f : α → β) (h : k < xs.length) : (xs.take (k + 1)).map f = (xs.take k).map f ++ [f (ix xs (k : Int))] := by rw [q126 h, List.map_append]; rfl
theorem q248 (k : Nat) (p : Nat → Bool) : (List.range (k + 1)).filter p = (List.range k).filter p ++ (if p k then [k] else []) := by
  rw [List.range_succ, List.filter_append]; congr 1; by_cases hp : p k = true <;> simp [hp]
theorem q600 {α : Type} (p : α → Bool) (xs : List α) : (xs.filter p).length ≤ xs.length := List.length_filter_le p xs
theorem LoopW.errI {S : Type} {step : S → (S → Prop) → Prop} (n : Nat) (st : Nat → S) (f : Nat → Int) {Ψ : Int → Prop} {s : S} (hs : s = st 0) (hΨ : Ψ (q78 f n))
    (h : ∀ (k : Nat) rec, k < n → (∀ j, j < k → f j = 0) → (f k ≠ 0 → Ψ (f k)) → (f k = 0 → ∀ s, s = st (k + 1) → rec s) → step (st k) rec) (he : ∀ rec, (∀ j, j < n → f j = 0) → Ψ 0 → step (st n) rec) : LoopW step s :=
  LoopW.upI n st (fun k => ∀ j, j < k → f j = 0) hs (fun j hj => absurd hj (Nat.not_lt_zero j)) (fun k rec hk hI hr => h k rec hk hI (fun h1 => by rw [q341 hk hI h1] at hΨ; exact hΨ) fun h0 => hr fun j hj => by
    rcases Nat.lt_or_ge j k with h2 | h2
    · exact hI j h2
    · obtain rfl : j = k := by omega
      exact h0) fun rec hI => he rec hI (by rw [q35.2 hI] at hΨ; exact hΨ)
def wrM (m : List (q9 × Sec)) (v s : Int) : List Sec → List (q9 × Sec)
  | [] => m
  | d :: r => wrM (mput m ⟨v, s⟩ d) v (s + 1) r
theorem q503 {v : Int} {d : Sec} : ∀ (l : List Sec) (m : List (q9 × Sec)) (s : Int), wrM m v s (l ++ [d]) = mput (wrM m v s l) ⟨v, s + (l.length : Int)⟩ d
  | [], m, s => by
    show mput m ⟨v, s⟩ d = mput m ⟨v, s + 0⟩ d; rw [Int.add_zero]
  | x :: l, m, s => by
    rw [List.cons_append, wrM, wrM, q503 l, show s + 1 + (l.length : Int) = s + ((x :: l).length : Int) by rw [List.length_cons]; omega]
def effM (l : List q8) : List (q9 × Sec) := l.foldl (fun m w => wrM m w.Volume w.Start w.Data) []
theorem q113 (l : List q8) (w : q8) : effM (l ++ [w]) = wrM (effM l) w.Volume w.Start w.Data := by simp [effM]
theorem q504 {κ ν : Type} [DecidableEq κ] (k : κ) (v : ν) : ∀ m : List (κ × ν), (mput m k v).length ≤ m.length + 1
  | [] => by simp [mput]
  | p :: r => by
    unfold mput
    split
    · simp
    · have := q504 k v r
      simp only [List.length_cons]; omega
theorem q448 {v : Int} : ∀ (l : List Sec) (m : List (q9 × Sec)) (s : Int), (wrM m v s l).length ≤ m.length + l.length
  | [], m, s => Nat.le_refl _
  | d :: r, m, s => by
    have h1 := q448 (v := v) r (mput m ⟨v, s⟩ d) (s + 1); have h2 := q504 (⟨v, s⟩ : q9) d m; rw [wrM, List.length_cons]; omega
theorem q505 {c : Nat} : ∀ (l : List q8) (m : List (q9 × Sec)), (∀ w ∈ l, w.Data.length ≤ c) → (l.foldl (fun m w => wrM m w.Volume w.Start w.Data) m).length ≤ m.length + l.length * c
  | [], m, _ => by simp
  | w :: l, m, h => by
    have h1 := q505 l (wrM m w.Volume w.Start w.Data) fun x hx => h x (List.mem_cons_of_mem _ hx); have h2 := q448 (v := w.Volume) w.Data m w.Start; have h3 := h w (List.mem_cons_self ..); rw [List.foldl_cons, List.length_cons, Nat.succ_mul]; omega
theorem q506 {κ ν : Type} [DecidableEq κ] {p : κ → Prop} {k : κ} {v : ν} (hk : p k) : ∀ {m : List (κ × ν)}, (∀ q ∈ m, p q.1) → ∀ q ∈ mput m k v, p q.1
  | [], _, q, hq => by
    obtain rfl : q = (k, v) := by simpa [mput] using hq
    exact hk
  | a :: r, h, q, hq => by
    unfold mput at hq
    split at hq
    · rcases List.mem_cons.1 hq with rfl | hq
      · exact h a (List.mem_cons_self ..)
      · exact h q (List.mem_cons_of_mem _ hq)
    · rcases List.mem_cons.1 hq with rfl | hq
      · exact h _ (List.mem_cons_self ..)
      · exact q506 hk (fun q hq => h q (List.mem_cons_of_mem _ hq)) q hq
theorem q449 {p : q9 → Prop} {v : Int} : ∀ (l : List Sec) (m : List (q9 × Sec)) (s : Int), (∀ j : Nat, j < l.length → p ⟨v, s + (j : Int)⟩) → (∀ q ∈ m, p q.1) → ∀ q ∈ wrM m v s l, p q.1
  | [], m, s, _, h => h
  | d :: r, m, s, hp, h => by
    refine q449 r _ (s + 1) (fun j hj => ?_) (q506 ?_ h)
    · have := hp (j + 1) (by rw [List.length_cons]; omega)
      rwa [show s + ((j + 1 : Nat) : Int) = s + 1 + (j : Int) by omega] at this
    · have := hp 0 (by rw [List.length_cons]; omega)
      rwa [show s + ((0 : Nat) : Int) = s by omega] at this
def q98 (w : q8) : Int := if w.Volume < 0 ∨ 8 ≤ w.Volume then 7 else if w.Data.length = 0 then 1 else if w.Start < 0 ∨ 4096 - (w.Data.length : Int) < w.Start then 2 else 0
theorem q305 {w : q8} (h : q98 w = 0) : 0 ≤ w.Volume ∧ w.Volume < 8 ∧ 0 < w.Data.length ∧ 0 ≤ w.Start ∧ w.Start + (w.Data.length : Int) ≤ 4096 := by
  unfold q98 at h
  split at h
  · omega
  · split at h
    · omega
    · split at h
      · omega
      · omega
theorem q655 {w : q8} (hl : w.Data.length ≤ 1000000) {Φ : Int → Prop} (h : Φ (q98 w)) : Z28 w Φ := by
  unfold q98 at h
  have J : ∀ b : Bool, (b = true ↔ w.Volume < 0 ∨ 8 ≤ w.Volume) → Z27 w Φ b := fun b hb => by
    refine ⟨fun e => by rw [if_pos (hb.1 e)] at h; exact h, fun e => ?_⟩; rw [if_neg fun q => e (hb.2 q)] at h; refine ⟨fun q => by rw [if_pos (by omega)] at h; exact h, fun q => ?_⟩; rw [if_neg (by omega)] at h; refine ⟨fun r => by rw [if_pos (.inl r)] at h; exact h, fun r => ⟨iI (by omega) (by omega), fun s => by rw [if_pos (.inr s)] at h; exact h, fun s => by rw [if_neg (by omega)] at h; exact h⟩⟩
  exact ⟨fun q => J true ⟨fun _ => .inl q, fun _ => rfl⟩, fun q => J _ (by simp; omega)⟩
def PlL (l : List q8) : Prop := ∀ w ∈ l, q98 w = 0
theorem q526 {l : List q8} (h : PlL l) : ∀ q ∈ effM l, 0 ≤ q.1.volume ∧ q.1.volume < 8 ∧ 0 ≤ q.1.sector ∧ q.1.sector < 4096 := by
  have key : ∀ (l : List q8) (m : List (q9 × Sec)), PlL l → (∀ q ∈ m, 0 ≤ q.1.volume ∧ q.1.volume < 8 ∧ 0 ≤ q.1.sector ∧ q.1.sector < 4096) → ∀ q ∈ l.foldl (fun m w => wrM m w.Volume w.Start w.Data) m, 0 ≤ q.1.volume ∧ q.1.volume < 8 ∧ 0 ≤ q.1.sector ∧ q.1.sector < 4096 := by
    intro l
    induction l with
    | nil => intro m _ h; exact h
    | cons w l ih =>
      intro m h hm; have := q305 (h w (List.mem_cons_self ..)); exact ih _ (fun x hx => h x (List.mem_cons_of_mem _ hx)) (q449 (p := fun c => 0 ≤ c.volume ∧ c.volume < 8 ∧ 0 ≤ c.sector ∧ c.sector < 4096) _ _ _ (fun j hj => ⟨by show 0 ≤ w.Volume; omega, by show w.Volume < 8; omega, by show 0 ≤ w.Start + (j : Int); omega, by show w.Start + (j : Int) < 4096; omega⟩) hm)
  exact key l [] h fun q hq => by cases hq
def clsW (xs : List q8) (ys : List Sec) : List q8 := put xs ((xs.length : Int) - 1) ⟨(ix xs ((xs.length : Int) - 1)).Volume, (ix xs ((xs.length : Int) - 1)).Start, ys⟩
def grpS (m : List (q9 × Sec)) (st : q9 × List q8 × List Sec) (p : q9) : q9 × List q8 × List Sec :=
  if p ≠ st.1 then (⟨p.volume, p.sector + 1⟩, clsW st.2.1 st.2.2 ++ [⟨p.volume, p.sector, []⟩], [] ++ [mget m p sec0]) else (⟨p.volume, p.sector + 1⟩, st.2.1, st.2.2 ++ [mget m p sec0])
def grpL (m : List (q9 × Sec)) (l : List q9) : q9 × List q8 × List Sec := l.foldl (grpS m) (⟨-1, 0⟩, [], [])
theorem q306 (m : List (q9 × Sec)) (l : List q9) (p : q9) : grpL m (l ++ [p]) = grpS m (grpL m l) p := by simp [grpL]
def canL (m : List (q9 × Sec)) : List q8 := clsW (grpL m (sortG pleB (m.map (·.1)))).2.1 (grpL m (sortG pleB (m.map (·.1)))).2.2
theorem q379 (xs : List q8) (ys : List Sec) : (clsW xs ys).length = xs.length := q124 _ _ _
theorem q170 {α : Type} {P : List α → Prop} (h0 : P []) (h1 : ∀ l x, P l → P (l ++ [x])) (l : List α) : P l := by
  rw [← List.reverse_reverse l]
  induction l.reverse with
  | nil => exact h0
  | cons x r ih => rw [List.reverse_cons]; exact h1 _ _ ih
theorem q229 : ∀ (n : Nat) (l : List Nat), l.Nodup → (∀ i ∈ l, i < n) → l.length ≤ n
  | 0, [], _, _ => Nat.le_refl _
  | 0, i :: _, _, h => absurd (h i (List.mem_cons_self ..)) (Nat.not_lt_zero i)
  | n + 1, l, hd, h => by
    by_cases hn : n ∈ l
    · have h1 := q229 n (l.erase n) (hd.erase n) fun i hi => by
        have h2 := (List.Nodup.mem_erase_iff hd).1 hi; have h3 := h i h2.2; have := h2.1; omega
      rw [List.length_erase_of_mem hn] at h1; omega
    · have h1 := q229 n l hd fun i hi => by
        have h3 := h i hi; have : i ≠ n := by rintro rfl; exact hn hi
        omega
      omega
theorem q507 (m : List (q9 × Sec)) : ∀ l : List q9, (grpL m l).2.1.length ≤ l.length ∧ (grpL m l).2.2.length ≤ l.length ∧ (l ≠ [] → (∀ p ∈ l, p ≠ ⟨-1, 0⟩) → 0 < (grpL m l).2.1.length) := by
  refine q170 ⟨Nat.le_refl _, Nat.le_refl _, fun h => absurd rfl h⟩ fun l p ih => ?_; obtain ⟨h1, h2, h3⟩ := ih; rw [q306, q20]; unfold grpS
  split
  · refine ⟨?_, ?_, fun _ _ => ?_⟩
    · simp only [List.length_append, q379, List.length_singleton]; omega
    · simp only [List.length_append, List.length_nil, List.length_singleton]; omega
    · simp only [List.length_append, q379, List.length_singleton]; omega
  · rename_i hp
    refine ⟨by simp only; omega, by simp only [List.length_append, List.length_singleton]; omega, fun _ hall => ?_⟩; by_cases hl : l = []
    · subst hl
      exact absurd (Classical.not_not.1 hp) (hall p (by simp))
    · exact h3 hl fun q hq => hall q (List.mem_append_left _ hq)
theorem q508 {p : q9} {Φ : q9 → Prop} (h : inI (p.sector + 1)) (hΦ : Φ ⟨p.volume, p.sector + 1⟩) : Z29 p Φ := ⟨h, hΦ⟩
theorem group_W {m : List (q9 × Sec)} {ps : List q9} {Φ : List q8 × Int → Prop} (hb : ps.length ≤ 100000000) (hp : ∀ p ∈ ps, 0 ≤ p.volume ∧ p.volume < 8 ∧ 0 ≤ p.sector ∧ p.sector < 4096) (hΦ : Φ (clsW (grpL m ps).2.1 (grpL m ps).2.2, 0)) : LoopW (Z36 m ps Φ) (0, -1, 0, [], []) := by
  have lOk : ∀ {n : Nat}, n ≤ 100000001 → lenOk n 40 := fun h => ⟨by omega, by simp only [maxLen]; omega⟩
  have lOk8 : ∀ {n : Nat}, n ≤ 100000001 → lenOk n 8 := fun h => ⟨by omega, by simp only [maxLen]; omega⟩
  refine LoopW.upT ps.length (fun k => ((k : Int), (grpL m (ps.take k)).1.volume, (grpL m (ps.take k)).1.sector, (grpL m (ps.take k)).2.1, (grpL m (ps.take k)).2.2)) rfl (fun k rec hk hrec => ?_) fun rec => ?_
  · obtain ⟨l1, l2, l3⟩ := q507 m (ps.take k)
    rw [lenT (by omega)] at l1 l2; have hmem : ix ps (k : Int) ∈ ps := q93 ⟨by omega, by omega⟩; have hpl := hp _ hmem; have hst : grpL m (ps.take (k + 1)) = grpS m (grpL m (ps.take k)) (ix ps (k : Int)) := by rw [q126 hk, q306]
    obtain ⟨n1, n2, n3⟩ := q507 m (ps.take (k + 1))
    have n4 := n3 (by rw [q126 hk]; simp) (fun p hq => by
      have := hp p (List.mem_of_mem_take hq)
      rintro rfl
      simp at this)
    rw [lenT (by omega)] at n1 n2
    have J : ∀ xs ys, (⟨(ix ps (k : Int)).volume, (ix ps (k : Int)).sector + 1⟩, xs, ys ++ [mget m (ix ps (k : Int)) sec0]) = grpL m (ps.take (k + 1)) → Z35 m ps (k : Int) rec Φ (xs, ys) := fun xs ys e => by
      have e1 : xs = (grpL m (ps.take (k + 1))).2.1 := by rw [← e]
      have e2 : ys ++ [mget m (ix ps (k : Int)) sec0] = (grpL m (ps.take (k + 1))).2.2 := by rw [← e]
      refine ⟨iI (by omega) (by rw [e1]; omega), iX (by rw [e1]; omega) (by omega), by omega, lOk8 (by rw [e2]; omega), q508 (iI (by omega) (by omega)) ⟨iI (by omega) (by omega), hrec _ ?_⟩⟩; rw [← e]; rfl
    refine ⟨fun _ => ⟨iX (by omega) (by omega), ?_⟩, fun h => absurd (show (k : Int) < (ps.length : Int) by omega) h⟩; show (ix ps (k : Int) ≠ _ → _) ∧ (¬ (ix ps (k : Int) ≠ _) → _)
    refine ⟨fun h => ⟨lOk ?_, J _ _ ?_⟩, fun h => J _ _ ?_⟩
    · have := q379 (grpL m (ps.take k)).2.1 (grpL m (ps.take k)).2.2
      unfold clsW at this; rw [q20, this]; omega
    · rw [hst]; unfold grpS; rw [if_pos h]; rfl
    · rw [hst]; unfold grpS; rw [if_neg h]
  · refine ⟨fun h => absurd h (by simp), fun _ => ?_⟩
    rw [show ps.take ps.length = ps from q79 ps]; exact hΦ
theorem q656 {m : List (q9 × Sec)} {Φ : List q8 × Int → Prop} (hb : m.length ≤ 100000000) (hp : ∀ q ∈ m, 0 ≤ q.1.volume ∧ q.1.volume < 8 ∧ 0 ≤ q.1.sector ∧ q.1.sector < 4096) (hΦ : Φ (canL m, 0)) : LoopW (Z37 m Φ) ((m.length, []), []) := by
  have hent : ∀ i, i < m.length → ent m i ∈ m := fun i hi => by
    unfold ent; rw [List.getD_eq_getElem?_getD, List.getElem?_eq_getElem hi]; exact List.getElem_mem hi
  refine LoopW.of_inv (fun s => s.1.1 = m.length ∧ s.1.2.Nodup ∧ (∀ i ∈ s.1.2, i < m.length) ∧ s.2 = s.1.2.reverse.map fun i => (ent m i).1) (fun s => m.length - s.1.2.length) ?_ ⟨rfl, List.nodup_nil, (fun _ h => by cases h), rfl⟩
  rintro ⟨⟨n, seen⟩, ps⟩ rec ⟨h1, h2, h3, h4⟩ hrec
  simp only at h1 h2 h3 h4; subst h1 h4; have hle : seen.length ≤ m.length := q229 _ _ h2 h3; refine ⟨rfl, fun hall => ?_, fun i hi hni => ⟨rfl, hi, ?_, hrec _ ⟨rfl, List.nodup_cons.2 ⟨hni, h2⟩, fun j hj => ?_, ?_⟩ ?_⟩⟩
  · have hperm : seen.Perm (List.range m.length) := (List.perm_ext_iff_of_nodup h2 List.nodup_range).2 fun i => ⟨fun hi => List.mem_range.2 (h3 i hi), fun hi => hall i (List.mem_range.1 hi)⟩
    have hmap : (List.range m.length).map (fun i => (ent m i).1) = m.map (·.1) := by
      apply List.ext_getElem
      · simp
      · intro i hi1 hi2
        have hi : i < m.length := by simpa using hi2
        simp only [List.getElem_map, List.getElem_range]; unfold ent; rw [List.getD_eq_getElem?_getD, List.getElem?_eq_getElem hi]; rfl
    have hp2 : (seen.reverse.map fun i => (ent m i).1).Perm (m.map (·.1)) := by
      rw [← hmap]; exact ((List.reverse_perm seen).trans hperm).map _
    have hsort : sortG pleB (seen.reverse.map fun i => (ent m i).1) = sortG pleB (m.map (·.1)) := q500 q168 q169 q501 ((q41 pleB _).trans hp2) (q123 q168 q169 _); refine ⟨by rw [hp2.length_eq, List.length_map]; omega, ?_⟩; rw [hsort]; have hlen : (sortG pleB (m.map (·.1))).length = m.length := by rw [(q41 pleB _).length_eq, List.length_map]
    refine group_W (by rw [hlen]; exact hb) (fun p hp' => ?_) hΦ; obtain ⟨q, hq, rfl⟩ := List.mem_map.1 ((q41 pleB _).mem_iff.1 hp'); exact hp q hq
  · refine ⟨?_, ?_⟩
    · rw [q20, List.length_map, List.length_reverse]; omega
    · rw [q20, List.length_map, List.length_reverse]; simp only [maxLen]; omega
  · rcases List.mem_cons.1 hj with rfl | hj
    · exact hi
    · exact h3 j hj
  · simp
  · have h6 : (i :: seen).length ≤ m.length := q229 _ _ (List.nodup_cons.2 ⟨hni, h2⟩) fun j hj => by
      rcases List.mem_cons.1 hj with rfl | hj
      · exact hi
      · exact h3 j hj
    show m.length - (i :: seen).length < m.length - seen.length; rw [List.length_cons] at h6 ⊢; omega
theorem q657 {l : List q8} {Φ : List q8 × Int → Prop} (hl : l.length ≤ 20000) (hp : PlL l) (hΦ : Φ (canL (effM l), 0)) : LoopW (Z38 l Φ) (0, []) := by
  have hpl : ∀ k, k < l.length → q98 (ix l (k : Int)) = 0 := fun k hk => hp _ (q93 ⟨by omega, by omega⟩)
  have hlen : (effM l).length ≤ 100000000 := by
    have := q505 (c := 4096) l [] fun w hw => by have := q305 (hp w hw); omega
    have h2 := Nat.mul_le_mul_right 4096 hl; show (l.foldl _ []).length ≤ _; simp only [List.length_nil] at this; omega
  refine LoopW.upT l.length (fun k => ((k : Int), effM (l.take k))) rfl (fun k rec hk hrec => ?_) fun rec => ?_
  · refine ⟨fun _ => ⟨iX (by omega) (by omega), ?_⟩, fun h => absurd (show (k : Int) < (l.length : Int) by omega) h⟩
    obtain ⟨a1, a2, a3, a4, a5⟩ := q305 (hpl k hk); have hrec := hrec _ rfl; rw [q126 hk, q113] at hrec; refine LoopW.upT (ix l (k : Int)).Data.length (fun j => ((j : Int), (ix l (k : Int)).Volume, (ix l (k : Int)).Start + (j : Int), wrM (effM (l.take k)) (ix l (k : Int)).Volume (ix l (k : Int)).Start ((ix l (k : Int)).Data.take j))) (by simp [wrM]) (fun j rec3 hj h3 => ?_) fun rec3 => ?_
    · refine ⟨fun _ => ⟨iX (by omega) (by omega), q508 (iI (by show _ ≤ (ix l (k : Int)).Start + (j : Int) + 1; omega) (by show (ix l (k : Int)).Start + (j : Int) + 1 ≤ _; omega)) ⟨iI (by omega) (by omega), h3 _ ?_⟩⟩, fun h => absurd (show (j : Int) < ((ix l (k : Int)).Data.length : Int) by omega) h⟩
      rw [q126 hj, q503, lenT (by omega)]; rw [show (ix l (k : Int)).Start + ((j + 1 : Nat) : Int) = (ix l (k : Int)).Start + (j : Int) + 1 by omega]; rfl
    · refine ⟨fun h => absurd h (by simp), fun _ => ⟨iI (by omega) (by omega), ?_⟩⟩
      rw [show (ix l (k : Int)).Data.take (ix l (k : Int)).Data.length = (ix l (k : Int)).Data from q79 _]; exact hrec
  · refine ⟨fun h => absurd h (by simp), fun _ => ?_⟩
    rw [show l.take l.length = l from q79 l]; exact ⟨by omega, ⟨by rw [Int.toNat_natCast]; omega, by rw [Int.toNat_natCast]; simp only [maxLen]; omega⟩, q656 hlen (q526 hp) hΦ⟩
def foldR (l : List q8) : List q8 × Int := if q78 (fun k => q98 (ix l (k : Int))) l.length ≠ 0 then ([], q78 (fun k => q98 (ix l (k : Int))) l.length) else (canL (effM l), 0)
theorem q267 {l : List q8} {Φ : List q8 × Int → Prop} (hl : l.length ≤ 20000) (hd : ∀ w ∈ l, w.Data.length ≤ 1000000) (hΦ : Φ (foldR l)) : Z40 l Φ := by
  unfold foldR at hΦ; refine LoopW.errI l.length (fun k => (k : Int)) (fun k => q98 (ix l (k : Int))) (Ψ := fun e => Φ (if e ≠ 0 then ([], e) else (canL (effM l), 0))) rfl hΦ (fun k rec hk hI h1 h0 => ?_) fun rec hI h0 => ?_
  · refine ⟨fun _ => ⟨iX (by omega) (by omega), q655 (hd _ (q93 ⟨by omega, by omega⟩)) ⟨fun e => ?_, fun e => ⟨iI (by omega) (by omega), h0 (Classical.not_not.1 e) _ rfl⟩⟩⟩, fun h => absurd (show (k : Int) < (l.length : Int) by omega) h⟩
    have := h1 e; rwa [if_pos e] at this
  · refine ⟨fun h => absurd h (by simp), fun _ => ?_⟩
    rw [if_neg (by simp)] at h0; refine q657 hl (fun w hw => ?_) h0; obtain ⟨k, hk, rfl⟩ := List.getElem_of_mem hw; have := hI k hk; rwa [q77 hk] at this
def q28 (l : List Int) : Int := if (l.length : Int) < 1 ∨ 8 < (l.length : Int) then 6 else q78 (fun k => if ix l (k : Int) < 1 ∨ 4096 < ix l (k : Int) then 2 else 0) l.length
def szs (im : List (List Sec)) : List Int := im.map fun v => (v.length : Int)
def imgE (im : List (List Sec)) : Int := q28 (szs im)
theorem q54 (im : List (List Sec)) : (szs im).length = im.length := by unfold szs; rw [List.length_map]
theorem q192 {im : List (List Sec)} {k : Nat} (h : k < im.length) : ix (szs im) (k : Int) = ((ix im (k : Int)).length : Int) := by
  rw [q77 (by rw [q54]; exact h), q77 h]; unfold szs; rw [List.getElem_map]
theorem q59 {l : List Int} (h : q28 l = 0) : 1 ≤ l.length ∧ l.length ≤ 8 := by
  unfold q28 at h; by_cases hl : (l.length : Int) < 1 ∨ 8 < (l.length : Int)
  · rw [if_pos hl] at h; cases h
  · omega
theorem q307 {l : List Int} (h : q28 l = 0) {k : Nat} (hk : k < l.length) : 1 ≤ ix l (k : Int) ∧ ix l (k : Int) ≤ 4096 := by
  unfold q28 at h; by_cases hl : (l.length : Int) < 1 ∨ 8 < (l.length : Int)
  · rw [if_pos hl] at h; cases h
  · rw [if_neg hl] at h
    have := q35.1 h k hk; by_cases q : ix l (k : Int) < 1 ∨ 4096 < ix l (k : Int)
    · rw [if_pos q] at this; cases this
    · omega
theorem q114 {l : List Int} {Φ : Int → Prop} (hΦ : Φ (q28 l)) : Z3 l Φ := by
  unfold q28 at hΦ; by_cases h : (l.length : Int) < 1 ∨ 8 < (l.length : Int)
  · rw [if_pos h] at hΦ
    exact ⟨fun _ => hΦ, fun _ => ⟨fun _ => hΦ, fun _ => by omega⟩⟩
  · rw [if_neg h] at hΦ
    refine ⟨fun _ => by omega, fun _ => ⟨fun _ => by omega, fun _ => ?_⟩⟩; refine LoopW.errI l.length (fun k => (k : Int)) _ rfl hΦ (fun k rec hk _ h1 h2 => ?_) fun rec _ h0 => ⟨fun _ => by omega, fun _ => ⟨fun _ => by omega, fun _ => h0⟩⟩
    have go : ∀ q : ix l (k : Int) < 1 ∨ 4096 < ix l (k : Int), Φ 2 := fun q => by
      have := h1 (by rw [if_pos q]; omega); rw [if_pos q] at this; exact this
    refine ⟨fun _ => ⟨iX (by omega) (by omega), fun q => ⟨fun _ => ⟨fun _ => go (.inl q), fun _ => by omega⟩, fun r => absurd rfl r⟩, fun q => ⟨fun r => ⟨fun _ => go (.inr (of_decide_eq_true r)), fun _ => by omega⟩, fun r => ⟨iI (by omega) (by omega), h2 (if_neg (by have := of_decide_eq_false (Bool.eq_false_iff.2 r); omega)) _ rfl⟩⟩⟩, fun _ => by omega⟩
theorem q320 {im : List (List Sec)} {Φ : List Int → Prop} (hl : im.length ≤ 100000) (hΦ : Φ (szs im)) : q73 im Φ := by
  refine ⟨by omega, iL (by omega) (by omega), ?_⟩; refine LoopW.upT im.length (fun k => ((k : Int), (im.take k).map fun v => (v.length : Int))) rfl (fun k rec hk hr => ?_) fun rec => ⟨fun _ => by omega, fun _ => by rw [q79]; exact hΦ⟩
  refine ⟨fun _ => ⟨iX (by omega) (by omega), iL (by rw [q20, List.length_map, lenT (by omega)]; omega) (by omega), iI (by omega) (by omega), hr _ (by rw [q148 _ hk]; rfl)⟩, fun _ => by omega⟩
theorem q127 {im : List (List Sec)} {Φ : Int → Prop} (hl : im.length ≤ 100000) (hΦ : Φ (imgE im)) : q45 im Φ := q320 hl (q114 hΦ)
def zeroI (l : List Int) : List (List Sec) := l.map fun n => List.replicate n.toNat sec0
theorem q230 (l : List Int) : (zeroI l).length = l.length := by unfold zeroI; rw [List.length_map]
theorem q658 {l : List Int} {k : Nat} (h : k < l.length) : ix (zeroI l) (k : Int) = List.replicate (ix l (k : Int)).toNat sec0 := by
  rw [q77 (by rw [q230]; exact h), q77 h]; unfold zeroI; rw [List.getElem_map]
theorem q171 {l : List Int} (h : q28 l = 0) : szs (zeroI l) = l := by
  refine q260 (by rw [q54, q230]) fun k hk => ?_; rw [q54, q230] at hk; have := q307 h hk; rw [q192 (by rw [q230]; exact hk), q658 hk, List.length_replicate]; omega
theorem q67 {l : List Int} {Φ : List (List Sec) × Int → Prop} (h0 : q28 l = 0 → Φ (zeroI l, 0)) (h1 : q28 l ≠ 0 → Φ ([], q28 l)) : q52 l Φ := by
  refine q114 ⟨fun q => h1 q, fun q => ?_⟩; have q : q28 l = 0 := Classical.not_not.1 q; have hl := q59 q; refine ⟨by omega, iL (by omega) (by omega), ?_⟩; refine LoopW.upT l.length (fun k => ((k : Int), (l.take k).map fun n => List.replicate n.toNat sec0)) rfl (fun k rec hk hr => ?_) fun rec => ⟨fun _ => by omega, fun _ => by rw [q79]; exact h0 q⟩
  have := q307 q hk; refine ⟨fun _ => ⟨iX (by omega) (by omega), by omega, iL (by omega) (by omega), iL (by rw [q20, List.length_map, lenT (by omega)]; omega) (by omega), iI (by omega) (by omega), hr _ (by rw [q148 _ hk]; rfl)⟩, fun _ => by omega⟩
def fitW (l : List Int) (w : q8) : Int := if w.Volume < 0 ∨ (l.length : Int) ≤ w.Volume then 7 else if (w.Data.length : Int) = 0 then 1 else if w.Start < 0 ∨ ix l w.Volume - w.Start < (w.Data.length : Int) then 2 else 0
theorem q231 {im : List (List Sec)} {w : q8} {Φ : Int → Prop} (hd : w.Data.length ≤ 1000000) (hv : ∀ k : Nat, k < im.length → (ix im (k : Int)).length ≤ 1000000) (hΦ : Φ (fitW (szs im) w)) : q92 im w Φ := by
  unfold fitW at hΦ; rw [q54] at hΦ; show (_ → q146 _ _ _ _) ∧ _
  have tail : ¬ (w.Volume < 0 ∨ (im.length : Int) ≤ w.Volume) → q146 im w Φ false := fun q => by
    rw [if_neg q] at hΦ; refine ⟨fun r => (Bool.noConfusion r), fun _ => ⟨fun r => by rw [if_pos (by omega)] at hΦ; exact hΦ, fun r => ?_⟩⟩; rw [if_neg (by omega)] at hΦ; obtain ⟨v, hw⟩ := Int.eq_ofNat_of_zero_le (show 0 ≤ w.Volume by omega); have hvl : v < im.length := by omega
    rw [hw, q192 hvl] at hΦ; have := hv v hvl; refine ⟨fun s => by rw [if_pos (.inl s)] at hΦ; exact hΦ, fun s => ⟨iX (by omega) (by omega), ?_⟩⟩; rw [hw]; exact ⟨iI (by omega) (by omega), fun t => by rw [if_pos (by omega)] at hΦ; exact hΦ, fun t => by rw [if_neg (by omega)] at hΦ; exact hΦ⟩
  refine ⟨fun q => ⟨fun _ => by rw [if_pos (.inl q)] at hΦ; exact hΦ, fun r => absurd rfl r⟩, fun q => ?_⟩; by_cases r : (im.length : Int) ≤ w.Volume
  · rw [decide_eq_true r]
    exact ⟨fun _ => by rw [if_pos (.inr r)] at hΦ; exact hΦ, fun r => absurd rfl r⟩
  · rw [decide_eq_false r]; exact tail (by omega)
theorem q308 {im : List (List Sec)} (h : imgE im = 0) (k : Nat) (hk : k < im.length) : (ix im (k : Int)).length ≤ 4096 := by
  have := q307 h (k := k) (by rw [q54]; exact hk); rw [q192 hk] at this; omega
theorem q105 {im : List (List Sec)} {w : q8} {Φ : Int → Prop} (hd : w.Data.length ≤ 1000000) (h : imgE im = 0) (hΦ : Φ (fitW (szs im) w)) : q66 im w Φ := by
  have hl := q59 h; rw [q54] at hl; exact q127 (by omega) ⟨fun q => absurd h q, fun _ => q231 hd (fun k hk => Nat.le_trans (q308 h k hk) (by omega)) hΦ⟩
theorem q659 {l : List Int} (h : ¬ q28 l ≠ 0) : l.length ≤ 8 ∧ 1 ≤ l.length ∧ ∀ k : Nat, k < l.length → 1 ≤ ix l (k : Int) ∧ ix l (k : Int) ≤ 4096 := by
  have h0 := Classical.not_not.1 h; unfold q28 at h0
  split at h0
  · omega
  · refine ⟨by omega, by omega, fun k hk => ?_⟩
    have := q35.1 h0 k hk
    split at this <;> omega
theorem q309 {sizes : List Int} {w : q8} (hs : ¬ q28 sizes ≠ 0) (h : fitW sizes w = 0) : 0 ≤ w.Volume ∧ w.Volume < (sizes.length : Int) ∧ 1 ≤ w.Data.length ∧ 0 ≤ w.Start ∧ w.Start + (w.Data.length : Int) ≤ ix sizes w.Volume ∧ ix sizes w.Volume ≤ 4096 := by
  unfold fitW at h
  split at h
  · omega
  split at h
  · omega
  split at h
  · omega
  obtain ⟨v, hv⟩ := Int.eq_ofNat_of_zero_le (show 0 ≤ w.Volume by omega); have hz := (q659 hs).2.2 v (by omega); rw [← hv] at hz; omega
theorem q509 {α : Type} [Dt α] (xs : List α) {i j : Nat} (x : α) (hi : i < xs.length) : ix (put xs (i : Int) x) (j : Int) = if j = i then x else ix xs (j : Int) := by
  show (xs.set i x).getD j default = if j = i then x else xs.getD j default; rw [List.getD_eq_getElem?_getD, List.getD_eq_getElem?_getD]; by_cases h : j = i
  · subst h; rw [List.getElem?_set_self hi, if_pos rfl]; rfl
  · rw [List.getElem?_set_ne (by omega), if_neg h]
theorem q450 {α : Type} [Dt α] {xs : List α} {i : Int} (x : α) (hi : inX i xs.length) : ix (put xs i x) i = x := by
  obtain ⟨k, rfl⟩ := Int.eq_ofNat_of_zero_le hi.1; rw [q509 xs x (by have := hi.2; omega), if_pos rfl]
theorem q660 {α : Type} [Dt α] {xs ys : List α} {s i : Nat} (h : s + ys.length ≤ xs.length) : ix (paste xs (s : Int) ys) (i : Int) = if s ≤ i ∧ i < s + ys.length then ix ys ((i : Int) - (s : Int)) else ix xs (i : Int) := by
  show (paste xs (s : Int) ys).getD i default = if _ then ys.getD ((i : Int) - (s : Int)).toNat default else xs.getD i default; unfold paste; rw [Int.toNat_natCast, List.getD_eq_getElem?_getD, List.getD_eq_getElem?_getD, List.getD_eq_getElem?_getD]; have e1 : (xs.take s).length = s := by rw [List.length_take]; omega
  have e2 : ys.take (xs.length - s) = ys := List.take_of_length_le (by omega); have e3 : min ys.length (xs.length - s) = ys.length := by omega
  rw [e2, e3]; by_cases h1 : i < s
  · rw [if_neg (by omega), List.getElem?_append_left (by omega), List.getElem?_take_of_lt h1]
  · by_cases h2 : i < s + ys.length
    · rw [if_pos (by omega), List.getElem?_append_right (by omega), e1, List.getElem?_append_left (by omega), show ((i : Int) - (s : Int)).toNat = i - s by omega]
    · rw [if_neg (by omega), List.getElem?_append_right (by omega), e1, List.getElem?_append_right (by omega), List.getElem?_drop]
      congr 2
      omega
theorem paste_len' {α : Type} {xs ys : List α} {s : Nat} (h : s ≤ xs.length) : (paste xs (s : Int) ys).length = xs.length := q211 ⟨by omega, by omega, by omega⟩
def q193 (im : List (List Sec)) (w : q8) : List (List Sec) := put im w.Volume (paste (ix im w.Volume) w.Start w.Data)
def appL (im : List (List Sec)) (l : List q8) : List (List Sec) := l.foldl q193 im
theorem q310 (im : List (List Sec)) (l : List q8) (w : q8) : appL im (l ++ [w]) = q193 (appL im l) w := by unfold appL; rw [List.foldl_append]; rfl
structure FitW (sizes : List Int) (w : q8) (v s : Nat) : Prop where
  vol : w.Volume = (v : Int)
  start : w.Start = (s : Int)
  hv : v < sizes.length
  len : 1 ≤ w.Data.length
  le : ((s + w.Data.length : Nat) : Int) ≤ ix sizes (v : Int)
  top : ix sizes (v : Int) ≤ 4096
theorem q172 {sizes : List Int} {w : q8} (hs : ¬ q28 sizes ≠ 0) (h : fitW sizes w = 0) : ∃ v s : Nat, FitW sizes w v s := by
  have := q309 hs h; obtain ⟨v, hv⟩ := Int.eq_ofNat_of_zero_le this.1; obtain ⟨s, hst⟩ := Int.eq_ofNat_of_zero_le this.2.2.2.1; rw [hv, hst] at this; exact ⟨v, s, hv, hst, by omega, by omega, by omega, by omega⟩
theorem q342 {im : List (List Sec)} {w : q8} {v s : Nat} (h : FitW (szs im) w v s) : szs (q193 im w) = szs im := by
  have hv := h.hv; rw [q54] at hv; have hle := h.le; rw [q192 hv] at hle; unfold q193; rw [h.vol, h.start]; refine q260 (by rw [q54, q54, q124]) fun k hk => ?_; rw [q54, q124] at hk; rw [q192 (by rw [q124]; exact hk), q192 hk, q509 _ _ hv]; by_cases hkv : k = v
  · rw [if_pos hkv, paste_len' (by omega), hkv]
  · rw [if_neg hkv]
theorem q232 {im : List (List Sec)} (hs : ¬ q28 (szs im) ≠ 0) : ∀ {l : List q8}, (∀ w ∈ l, fitW (szs im) w = 0) → szs (appL im l) = szs im := by
  intro l
  induction l generalizing im with
  | nil => intro _; rfl
  | cons w l ih =>
    intro h; obtain ⟨v, s, hw⟩ := q172 hs (h w (List.mem_cons_self ..)); have e := q342 hw; show szs (appL (q193 im w) l) = _; rw [ih (by rw [e]; exact hs) fun x hx => by rw [e]; exact h x (List.mem_cons_of_mem _ hx), e]
def sec (im : List (List Sec)) (v i : Nat) : Sec := ix (ix im (v : Int)) (i : Int)
def covW (w : q8) (v i : Nat) : Prop := w.Volume = (v : Int) ∧ w.Start ≤ (i : Int) ∧ (i : Int) < w.Start + (w.Data.length : Int)
instance (w : q8) (v i : Nat) : Decidable (covW w v i) := by unfold covW; infer_instance
theorem q249 {im : List (List Sec)} {w : q8} {v0 s0 : Nat} (h : FitW (szs im) w v0 s0) (v i : Nat) : sec (q193 im w) v i = if covW w v i then ix w.Data ((i : Int) - w.Start) else sec im v i := by
  have hv := h.hv; rw [q54] at hv; have hle := h.le; rw [q192 hv] at hle; have h1 := h.vol; have h2 := h.start; have hc : covW w v i ↔ v = v0 ∧ s0 ≤ i ∧ i < s0 + w.Data.length := by unfold covW; omega
  have e : sec (q193 im w) v i = ix (if v = v0 then paste (ix im (v0 : Int)) (s0 : Int) w.Data else ix im (v : Int)) (i : Int) := by
    unfold sec q193; rw [h1, h2, q509 _ _ hv]
  rw [e]; by_cases hkv : v = v0
  · rw [if_pos hkv, q660 (by omega)]
    subst hkv; by_cases hq : s0 ≤ i ∧ i < s0 + w.Data.length
    · rw [if_pos hq, if_pos (hc.2 ⟨rfl, hq⟩), h2]
    · rw [if_neg hq, if_neg (fun q => hq (hc.1 q).2)]; rfl
  · rw [if_neg hkv, if_neg (fun q => hkv (hc.1 q).1)]; rfl
theorem q661 {v i : Nat} : ∀ {l : List q8} {im : List (List Sec)}, ¬ q28 (szs im) ≠ 0 → (∀ w ∈ l, fitW (szs im) w = 0) → (∀ w ∈ l, ¬ covW w v i) → sec (appL im l) v i = sec im v i := by
  intro l
  induction l with
  | nil => intro im _ _ _; rfl
  | cons w l ih =>
    intro im hs h hn; obtain ⟨v0, s0, hw⟩ := q172 hs (h w (List.mem_cons_self ..)); have e := q342 hw; show sec (appL (q193 im w) l) v i = _; rw [ih (by rw [e]; exact hs) (fun x hx => by rw [e]; exact h x (List.mem_cons_of_mem _ hx)) fun x hx => hn x (List.mem_cons_of_mem _ hx), q249 hw, if_neg (hn w (List.mem_cons_self ..))]
theorem im_ext {a b : List (List Sec)} (hs : szs a = szs b) (h : ∀ v i : Nat, v < a.length → i < (ix a (v : Int)).length → sec a v i = sec b v i) : a = b := by
  have hl : a.length = b.length := by rw [← q54 a, ← q54 b, hs]
  refine q260 hl fun v hv => q260 ?_ fun i hi => h v i hv hi; have : ix (szs a) (v : Int) = ix (szs b) (v : Int) := by rw [hs]
  rw [q192 hv, q192 (by omega)] at this; omega
theorem q662 {l : List Int} {w : q8} (hs : q28 l = 0) (h : fitW l w = 0) : w.Data.length ≤ 4096 := by
  have := q309 (by omega) h; omega
theorem q63 {l : List Sec} {Φ : List Sec → Prop} (hl : l.length ≤ 1000000) (hΦ : Φ l) : Z17 l Φ :=
  ⟨fun h => (by subst h; exact hΦ), iL hl (by omega), hΦ⟩
theorem q268 {im : List (List Sec)} {Φ : List (List Sec) → Prop} (h : imgE im = 0) (hΦ : Φ im) : Z23 im Φ := by
  have hl := q59 h; rw [q54] at hl; refine ⟨by omega, iL (by omega) (by omega), ?_⟩; refine LoopW.upT im.length (fun k => (im.take k, (k : Int))) rfl (fun k rec hk hr => ?_) fun rec => ⟨fun _ => by omega, fun _ => by rw [q79]; exact hΦ⟩
  have := q308 h k hk; refine ⟨fun _ => ⟨iX (by omega) (by omega), q63 (by omega) ⟨iL (by rw [q20, lenT (by omega)]; omega) (by omega), iI (by omega) (by omega), hr _ (by rw [q126 hk]; rfl)⟩⟩, fun _ => by omega⟩
theorem q601 {im : List (List Sec)} {l : List q8} {k : Nat} (h : k < l.length) : appL im (l.take (k + 1)) = q193 (appL im (l.take k)) (ix l (k : Int)) := by rw [q126 h, q310]
theorem q602 {im : List (List Sec)} {l : List q8} (hs : imgE im = 0) (hf : ∀ w ∈ l, fitW (szs im) w = 0) (k : Nat) : szs (appL im (l.take k)) = szs im := q232 (by rw [show q28 (szs im) = 0 from hs]; simp) fun w hw => hf w (List.mem_of_mem_take hw)
theorem q194 {im : List (List Sec)} {l : List q8} {Φ : List (List Sec) × Int × Int → Prop} (hl : l.length ≤ 1000000) (hs : imgE im = 0) (hf : ∀ w ∈ l, fitW (szs im) w = 0) (hΦ : Φ (appL im l, 0, 0)) : q38 im l Φ := by
  have h8 := q59 hs; rw [q54] at h8; refine q127 (by omega) ⟨fun q => absurd hs q, fun _ => q268 hs ?_⟩; refine LoopW.upT l.length (fun k => (appL im (l.take k), (k : Int))) rfl (fun k rec hk hr => ?_) fun rec => ⟨fun _ => by omega, fun _ => by rw [q79]; exact hΦ⟩
  have hw := hf _ (q93 (iX (i := (k : Int)) (n := l.length) (by omega) (by omega))); have e := q602 hs hf k; have hs' : imgE (appL im (l.take k)) = 0 := by unfold imgE; rw [e]; exact hs
  obtain ⟨v, s, hfw⟩ := q172 (by rw [show q28 (szs im) = 0 from hs]; simp) hw; have hv := hfw.hv; have hle := hfw.le; rw [← e, q54] at hv; rw [← e, q192 hv] at hle; refine ⟨fun _ => ⟨iX (by omega) (by omega), q231 (by have := q662 (show q28 (szs im) = 0 from hs) hw; omega) (fun j hj => Nat.le_trans (q308 hs' j hj) (by omega)) ?_⟩, fun _ => by omega⟩; rw [e, hw]; refine ⟨fun q => absurd rfl q, fun _ => ?_⟩; refine ⟨by rw [hfw.vol]; exact iX (by omega) (by omega), by rw [hfw.vol, hfw.start]; exact iS (by omega) (by omega) (by omega), iI (by omega) (by omega), hr _ (by rw [q601 hk]; rfl)⟩
theorem q36 {x lo hi : Int} {Φ : Bool → Prop} (h : Φ (decide (lo ≤ x ∧ x ≤ hi))) : q34 x lo hi Φ := by
  refine ⟨fun q => ?_, fun q => ?_⟩
  · rw [show decide (lo ≤ x ∧ x ≤ hi) = decide (x ≤ hi) from by simp [q]] at h; exact h
  · rw [show decide (lo ≤ x ∧ x ≤ hi) = false from decide_eq_false fun r => q r.1] at h; exact h
def posE (l : List Int) : Int := q78 (fun k => if ix l (k : Int) < 0 ∨ 1073741824 < ix l (k : Int) then 2 else 0) l.length
def posR (least : Int) (l : List Int) : Int := if (l.length : Int) < least ∨ 8 < (l.length : Int) then 6 else posE l
theorem q80 {l : List Int} {least : Int} {Φ : Int → Prop} (hl : l.length ≤ 100000) (hΦ : Φ (posR least l)) : Z14 l least Φ := by
  refine q36 ⟨fun q => ?_, fun q => ?_⟩
  · have := of_decide_eq_false (Bool.eq_false_iff.2 q)
    unfold posR at hΦ; rw [if_pos (by omega)] at hΦ; exact hΦ
  · have := of_decide_eq_true (Classical.not_not.1 q)
    unfold posR at hΦ; rw [if_neg (by omega)] at hΦ; refine LoopW.errI l.length (fun k => (k : Int)) _ rfl hΦ (fun k rec hk _ h1 h2 => ?_) fun rec _ h0 => ⟨fun _ => by omega, fun _ => ⟨fun _ => by omega, fun _ => h0⟩⟩
    refine ⟨fun _ => ⟨iX (by omega) (by omega), q36 ⟨fun r => ?_, fun r => ?_⟩⟩, fun _ => by omega⟩
    · have r := of_decide_eq_true r
      have r : ¬ (0 ≤ ix l (k : Int) ∧ ix l (k : Int) ≤ 1073741824) := fun t => r (decide_eq_true t); have c : ix l (k : Int) < 0 ∨ 1073741824 < ix l (k : Int) := by omega
      have := h1 (by rw [if_pos c]; omega); rw [if_pos c] at this; exact ⟨fun _ => this, fun s => by omega⟩
    · have r : ¬ ¬ (decide (0 ≤ ix l (k : Int) ∧ ix l (k : Int) ≤ 1073741824) = true) := fun t => r (decide_eq_true t)
      have r := of_decide_eq_true (Classical.not_not.1 r); exact ⟨iI (by omega) (by omega), h2 (if_neg (by omega)) _ rfl⟩
def ordW (sizes : List Int) (l : List q8) (k : Nat) : Int :=
  if fitW sizes (ix l (k : Int)) ≠ 0 then fitW sizes (ix l (k : Int)) else if k = 0 then 0 else if (ix l (k : Int)).Volume < (ix l ((k : Int) - 1)).Volume ∨ ((ix l (k : Int)).Volume = (ix l ((k : Int) - 1)).Volume ∧ (ix l (k : Int)).Start ≤ (ix l ((k : Int) - 1)).Start + ((ix l ((k : Int) - 1)).Data.length : Int)) then 3 else 0
def wrsE (sizes : List Int) (l : List q8) : Int := q78 (ordW sizes l) l.length
theorem q510 {sizes : List Int} {l : List q8} {k : Nat} (h : ordW sizes l k = 0) : fitW sizes (ix l (k : Int)) = 0 := by
  unfold ordW at h
  split at h
  · next q => exact absurd h q
  · next q => exact Classical.not_not.1 q
theorem q250 {l : List q8} {sizes : List Int} {Φ : Int → Prop} (hl : l.length ≤ 100000) (hd : ∀ w ∈ l, w.Data.length ≤ 1000000) (h0 : q28 sizes ≠ 0 → Φ (q28 sizes)) (h1 : q28 sizes = 0 → Φ (wrsE sizes l)) : Z54 l sizes Φ := by
  refine q67 (fun hs => ⟨fun q => absurd rfl q, fun _ => ?_⟩) fun hs => ⟨fun _ => h0 hs, fun q => absurd hs q⟩
  have e := q171 hs; refine LoopW.errI l.length (fun k => (k : Int)) _ rfl (h1 hs) (fun k rec hk hj g1 g2 => ⟨fun _ => ⟨iX (by omega) (by omega), ?_⟩, fun _ => by omega⟩) fun rec _ h0 => ⟨fun _ => by omega, fun _ => h0⟩
  have hmem := hd _ (q93 (iX (i := (k : Int)) (n := l.length) (by omega) (by omega))); refine q105 hmem (by unfold imgE; rw [e]; exact hs) ?_; rw [e]; unfold ordW at g1 g2; refine ⟨fun q => ?_, fun q => ?_⟩
  · rw [if_pos q] at g1; exact g1 q
  · rw [if_neg q] at g1 g2
    refine ⟨fun r => ?_, fun r => ?_⟩
    · rw [if_pos (by omega)] at g2
      exact ⟨iI (by omega) (by omega), g2 rfl _ rfl⟩
    · rw [if_neg (by omega)] at g1 g2
      have hp := q510 (hj (k - 1) (by omega)); obtain ⟨v, s, hf⟩ := q172 (by omega) hp; have z1 := hf.le; have z2 := hf.top; have z3 := hf.start; have ek : ((k - 1 : Nat) : Int) = (k : Int) - 1 := by omega
      rw [ek] at z1 z3; refine ⟨iI (by omega) (by omega), iX (by omega) (by omega), fun t => ?_, fun t => ⟨fun u => ⟨iI (by omega) (by omega), fun x => ?_, fun x => ?_⟩, fun u => ?_⟩⟩
      · rw [if_pos (.inl t)] at g1; exact g1 (by omega)
      · rw [if_pos (.inr ⟨u, x⟩)] at g1; exact g1 (by omega)
      · rw [if_neg (by omega)] at g2; exact ⟨iI (by omega) (by omega), g2 rfl _ rfl⟩
      · rw [if_neg (by omega)] at g2; exact ⟨iI (by omega) (by omega), g2 rfl _ rfl⟩
def cycE (c : q10) (sizes : List Int) : Int :=
  if q28 sizes ≠ 0 then q28 sizes else if c.Base < 0 ∨ c.Number ≤ c.Base ∨ 1073741824 < c.Number then 2 else if c.Time < 0 ∨ 1073741824 < c.Time then 24 else if posR 0 c.Positions ≠ 0 then posR 0 c.Positions else wrsE sizes c.Writes
theorem q195 {c : q10} {sizes : List Int} {Φ : Int → Prop} (hp : c.Positions.length ≤ 100000) (hl : c.Writes.length ≤ 100000) (hd : ∀ w ∈ c.Writes, w.Data.length ≤ 1000000) (hΦ : Φ (cycE c sizes)) : q46 c sizes Φ := by
  unfold cycE at hΦ; refine q67 (fun hs => ⟨fun q => absurd rfl q, fun _ => ?_⟩) fun hs => ⟨fun _ => by rw [if_pos hs] at hΦ; exact hΦ, fun q => absurd hs q⟩
  rw [if_neg (by omega)] at hΦ
  have J : ∀ b : Bool, (b = true ↔ c.Base < 0 ∨ c.Number ≤ c.Base ∨ 1073741824 < c.Number) → Z55 c sizes Φ b := fun b hb => by
    refine ⟨fun q => by rw [if_pos (hb.1 q)] at hΦ; exact hΦ, fun q => ?_⟩; rw [if_neg fun r => q (hb.2 r)] at hΦ; refine q36 ⟨fun r => ?_, fun r => ?_⟩
    · have := of_decide_eq_false (Bool.eq_false_iff.2 r)
      rw [if_pos (by omega)] at hΦ; exact hΦ
    · have := of_decide_eq_true (Classical.not_not.1 r)
      rw [if_neg (by omega)] at hΦ; refine q80 hp ⟨fun t => by rw [if_pos t] at hΦ; exact hΦ, fun t => ?_⟩; rw [if_neg t] at hΦ; exact q250 hl hd (fun u => absurd hs u) fun _ => hΦ
  exact ⟨fun q => J true ⟨fun _ => .inl q, fun _ => rfl⟩, fun q => ⟨fun r => J true ⟨fun _ => .inr (.inl r), fun _ => rfl⟩, fun r => J _ (by simp; omega)⟩⟩
theorem q19 {l : List Int} {Φ : List Int → Prop} (hl : l.length ≤ 1000000) (hΦ : Φ l) : Z4 l Φ :=
  ⟨fun h => (by subst h; exact hΦ), iL hl (by omega), hΦ⟩
theorem q603 {κ ν : Type} [DecidableEq κ] (k : κ) (v : ν) (c : κ) : ∀ m : List (κ × ν), mfind (mput m k v) c = if c = k then some v else mfind m c
  | [] => by unfold mput mfind mfind; rfl
  | p :: m => by
    unfold mput; by_cases h : k = p.1
    · rw [if_pos h]
      unfold mfind; by_cases hc : c = k
      · rw [if_pos (by rw [hc, h]), if_pos hc]
      · rw [if_neg (fun t => hc (t.trans h.symm)), if_neg hc, if_neg (fun t => hc (t.trans h.symm))]
    · rw [if_neg h]
      unfold mfind; rw [q603 k v c m]; by_cases hc : c = k
      · rw [if_neg (fun t => h (hc.symm.trans t)), if_pos hc, if_pos hc]
      · rw [if_neg hc, if_neg hc]
theorem q173 {κ ν : Type} [DecidableEq κ] (c : κ) : ∀ m : List (κ × ν), c ∈ m.map (·.1) ↔ ∃ d, mfind m c = some d
  | [] => by simp [mfind]
  | p :: m => by
    unfold mfind; by_cases h : c = p.1
    · rw [if_pos h]; simp [h]
    · rw [if_neg h, ← q173 c m, List.map_cons, List.mem_cons]
      exact ⟨fun q => q.resolve_left h, .inr⟩
theorem q604 {κ ν : Type} [DecidableEq κ] (k : κ) (v : ν) {m : List (κ × ν)} (c : κ) : c ∈ (mput m k v).map (·.1) ↔ c = k ∨ c ∈ m.map (·.1) := by
  rw [q173, q173, q603]; by_cases h : c = k
  · rw [if_pos h]; exact ⟨fun _ => .inl h, fun _ => ⟨v, rfl⟩⟩
  · rw [if_neg h]; exact ⟨.inr, fun q => q.resolve_left h⟩
theorem q343 {κ ν : Type} [DecidableEq κ] (k : κ) (v : ν) : ∀ {m : List (κ × ν)}, (m.map (·.1)).Nodup → ((mput m k v).map (·.1)).Nodup
  | [], _ => by simp [mput]
  | p :: m, h => by
    have h1 := List.nodup_cons.1 (show (p.1 :: m.map (·.1)).Nodup from h); unfold mput; by_cases hk : k = p.1
    · rw [if_pos hk]; exact h
    · rw [if_neg hk]
      refine List.nodup_cons.2 ⟨fun q => ?_, q343 k v h1.2⟩; rcases (q604 k v p.1).1 q with q | q
      · exact hk q.symm
      · exact h1.1 q
theorem q417 {v : Int} : ∀ (l : List Sec) (m : List (q9 × Sec)) (s : Int), (m.map (·.1)).Nodup → ((wrM m v s l).map (·.1)).Nodup
  | [], _, _, h => h
  | _ :: l, _, _, h => q417 l _ _ (q343 _ _ h)
theorem q527 (l : List q8) : ((effM l).map (·.1)).Nodup := by
  refine q170 (P := fun l => ((effM l).map (·.1)).Nodup) List.nodup_nil (fun l w h => ?_) l; rw [q113]; exact q417 _ _ _ h
theorem ix_cons {α : Type} [Dt α] (x : α) (l : List α) (i : Int) (h : 0 ≤ i) : ix (x :: l) i = if i = 0 then x else ix l (i - 1) := by
  obtain ⟨k, rfl⟩ := Int.eq_ofNat_of_zero_le h; cases k with
  | zero => rfl
  | succ k => rw [if_neg (by omega), show ((k + 1 : Nat) : Int) - 1 = (k : Int) by omega]; rfl
theorem q276 {v : Int} (q : q9) : ∀ (l : List Sec) (m : List (q9 × Sec)) (s : Int), mfind (wrM m v s l) q = if q.volume = v ∧ s ≤ q.sector ∧ q.sector < s + (l.length : Int) then some (ix l (q.sector - s)) else mfind m q
  | [], m, s => by rw [if_neg (by rw [List.length_nil]; omega)]; rfl
  | d :: l, m, s => by
    have el : ((d :: l).length : Int) = (l.length : Int) + 1 := by rw [List.length_cons]; rfl
    rw [wrM, q276 q l, q603, el]; by_cases h : q.volume = v ∧ s ≤ q.sector ∧ q.sector < s + ((l.length : Int) + 1)
    · rw [if_pos h, ix_cons _ _ _ (by omega)]
      by_cases h0 : q.sector = s
      · rw [if_neg (by omega), if_pos (q76 h.1 h0), if_pos (by omega)]
      · rw [if_pos (by omega), if_neg (by omega), show q.sector - (s + 1) = q.sector - s - 1 by omega]
    · rw [if_neg h, if_neg (by omega), if_neg (fun t => h (by rw [t]; exact ⟨rfl, Int.le_refl _, by show s < _; omega⟩))]
theorem wrM_sum {v : Int} (l : List Sec) (m : List (q9 × Sec)) (s : Int) : (wrM m v s l).length ≤ m.length + l.length := q448 l m s
def secN (l : List q8) : Nat := (l.map (·.Data.length)).sum
theorem q204 (a b : List q8) : secN (a ++ b) = secN a + secN b := by unfold secN; rw [List.map_append, List.sum_append_nat]
theorem q511 (w : q8) : secN [w] = w.Data.length := by simp [secN]
theorem q663 (l : List q8) : (effM l).length ≤ secN l := by
  refine q170 (P := fun l => (effM l).length ≤ secN l) (Nat.le_refl _) (fun l w h => ?_) l; rw [q113, q204, q511]; have := wrM_sum (v := w.Volume) w.Data (effM l) w.Start; omega
theorem sec_eff {im : List (List Sec)} (hs : ¬ q28 (szs im) ≠ 0) {v i : Nat} (l : List q8) : (∀ w ∈ l, fitW (szs im) w = 0) → sec (appL im l) v i = mget (effM l) ⟨(v : Int), (i : Int)⟩ (sec im v i) := by
  refine q170 (P := fun l => (∀ w ∈ l, fitW (szs im) w = 0) → sec (appL im l) v i = mget (effM l) ⟨(v : Int), (i : Int)⟩ (sec im v i)) (fun _ => rfl) (fun l w ih h => ?_) l; have hl : ∀ x ∈ l, fitW (szs im) x = 0 := fun x hx => h x (List.mem_append_left _ hx); have e := q232 hs hl; obtain ⟨v0, s0, hw⟩ := q172 (sizes := szs (appL im l)) (w := w) (by rw [e]; exact hs) (by rw [e]; exact h w (by simp)); rw [q310, q113, q249 hw, ih hl]; unfold mget; rw [q276]; by_cases hc : covW w v i
  · rw [if_pos hc, if_pos (by unfold covW at hc; exact ⟨hc.1.symm, hc.2.1, hc.2.2⟩)]
  · rw [if_neg hc, if_neg (fun t => hc (by unfold covW; exact ⟨t.1.symm, t.2.1, t.2.2⟩))]
def behW (w : q8) : q9 := ⟨w.Volume, w.Start + (w.Data.length : Int)⟩
def stepR (m : List (q9 × Sec)) (R : List q8) (p : q9) : List q8 :=
  match R with
  | [] => [⟨p.volume, p.sector, [mget m p sec0]⟩]
  | w :: r => if p = behW w then ⟨w.Volume, w.Start, w.Data ++ [mget m p sec0]⟩ :: r else ⟨p.volume, p.sector, [mget m p sec0]⟩ :: w :: r
theorem q605 (xs : List q8) (w : q8) (ys : List Sec) : clsW (xs ++ [w]) ys = xs ++ [⟨w.Volume, w.Start, ys⟩] := by
  have e : (((xs ++ [w]).length : Nat) : Int) - 1 = (xs.length : Int) := by rw [q20]; omega
  have g : ix (xs ++ [w]) (xs.length : Int) = w := by rw [q77 (by rw [q20]; omega)]; simp
  unfold clsW; rw [e, g]; show (xs ++ [w]).set xs.length _ = _; rw [List.set_append_right _ _ (Nat.le_refl _), Nat.sub_self]; rfl
def InvG (st : q9 × List q8 × List Sec) : List q8 → Prop
  | [] => st = (⟨-1, 0⟩, [], [])
  | w :: r => st.1 = behW w ∧ st.2.2 = w.Data ∧ ∃ d, st.2.1 = r.reverse ++ [⟨w.Volume, w.Start, d⟩]
theorem InvG.cls {st : q9 × List q8 × List Sec} : ∀ {R : List q8}, InvG st R → clsW st.2.1 st.2.2 = R.reverse
  | [], h => by rw [show st = (⟨-1, 0⟩, [], []) from h]; rfl
  | w :: r, ⟨_, h2, d, h3⟩ => by rw [h3, q605, h2, List.reverse_cons]
theorem q664 (m : List (q9 × Sec)) (ps : List q9) : (∀ p ∈ ps, 0 ≤ p.volume) → InvG (grpL m ps) (ps.foldl (stepR m) []) := by
  refine q170 (P := fun ps => (∀ p ∈ ps, 0 ≤ p.volume) → InvG (grpL m ps) (ps.foldl (stepR m) [])) (fun _ => rfl) (fun ps p ih h => ?_) ps; have ih := ih fun q hq => h q (List.mem_append_left _ hq); have hp := h p (by simp); rw [q306, List.foldl_append]; show InvG (grpS m (grpL m ps) p) (stepR m (ps.foldl (stepR m) []) p); have hc := ih.cls; generalize ps.foldl (stepR m) [] = R at ih hc ⊢; generalize grpL m ps = st at ih hc ⊢; unfold grpS; cases R with
  | nil =>
    have e : st = (⟨-1, 0⟩, [], []) := ih; rw [if_pos (by rw [e]; rintro rfl; exact absurd hp (by show ¬ ((0 : Int) ≤ -1); omega)), hc]; exact ⟨rfl, rfl, [], rfl⟩
  | cons w r =>
    obtain ⟨h1, h2, d, h3⟩ := ih; unfold stepR; by_cases hb : p = behW w
    · simp only [if_pos hb]
      rw [if_neg (by rw [h1, hb]; exact fun t => t rfl)]; refine ⟨?_, by show st.2.2 ++ _ = _; rw [h2], d, h3⟩; show (⟨p.volume, p.sector + 1⟩ : q9) = behW ⟨w.Volume, w.Start, w.Data ++ [mget m p sec0]⟩; unfold behW; rw [hb, q20]; exact q76 rfl (by show w.Start + (w.Data.length : Int) + 1 = w.Start + ((w.Data.length + 1 : Nat) : Int); omega)
    · simp only [if_neg hb]
      rw [if_pos (by rw [h1]; exact hb), hc]; exact ⟨rfl, rfl, [], rfl⟩
def ltQ (a b : q9) : Prop := a.volume < b.volume ∨ a.volume = b.volume ∧ a.sector < b.sector
def gapW (y x : q8) : Prop := y.Volume < x.Volume ∨ y.Volume = x.Volume ∧ y.Start + (y.Data.length : Int) < x.Start
structure Grp (m : List (q9 × Sec)) (ps : List q9) (R : List q8) : Prop where
  ne : ∀ w ∈ R, 0 < w.Data.length
  gap : R.Pairwise fun x y => gapW y x
  mem : ∀ w ∈ R, ∀ j : Nat, j < w.Data.length → (⟨w.Volume, w.Start + (j : Int)⟩ : q9) ∈ ps ∧ ix w.Data (j : Int) = mget m ⟨w.Volume, w.Start + (j : Int)⟩ sec0
  cov : ∀ p ∈ ps, ∃ w ∈ R, w.Volume = p.volume ∧ w.Start ≤ p.sector ∧ p.sector < w.Start + (w.Data.length : Int)
  sum : secN R = ps.length
theorem ix_snoc {α : Type} [Dt α] (xs : List α) (x : α) (j : Nat) (h : j < (xs ++ [x]).length) : ix (xs ++ [x]) (j : Int) = if j = xs.length then x else ix xs (j : Int) := by
  rw [q20] at h; by_cases e : j = xs.length
  · rw [if_pos e, q77 (by rw [q20]; omega)]; simp [e]
  · rw [if_neg e, q77 (by rw [q20]; omega), q77 (by omega), List.getElem_append_left (by omega)]
theorem Grp.step {m : List (q9 × Sec)} {ps : List q9} {R : List q8} (g : Grp m ps R) {p : q9} (hp : ∀ q ∈ ps, ltQ q p) : Grp m (ps ++ [p]) (stepR m R p) := by
  have one : ∀ (w : q8), w ∈ R → w.Volume < p.volume ∨ w.Volume = p.volume ∧ w.Start + (w.Data.length : Int) ≤ p.sector := fun w hw => by
    have h0 := g.ne w hw; have h1 := hp _ (g.mem w hw (w.Data.length - 1) (by omega)).1; unfold ltQ at h1; simp only at h1; omega
  have nw : ∀ j : Nat, j < [mget m p sec0].length → (⟨p.volume, p.sector + (j : Int)⟩ : q9) ∈ ps ++ [p] ∧ ix [mget m p sec0] (j : Int) = mget m ⟨p.volume, p.sector + (j : Int)⟩ sec0 := fun j hj => by
    obtain rfl : j = 0 := by simpa using hj
    have e : (⟨p.volume, p.sector + ((0 : Nat) : Int)⟩ : q9) = p := q76 rfl (by show p.sector + ((0 : Nat) : Int) = p.sector; omega); rw [e]; exact ⟨by simp, rfl⟩
  have old : ∀ w ∈ R, ∀ j : Nat, j < w.Data.length → (⟨w.Volume, w.Start + (j : Int)⟩ : q9) ∈ ps ++ [p] ∧ ix w.Data (j : Int) = mget m ⟨w.Volume, w.Start + (j : Int)⟩ sec0 := fun w hw j hj => ⟨List.mem_append_left _ (g.mem w hw j hj).1, (g.mem w hw j hj).2⟩
  have push : (∀ w ∈ R, p ≠ behW w) → Grp m (ps ++ [p]) (⟨p.volume, p.sector, [mget m p sec0]⟩ :: R) := fun hb => by
    refine ⟨fun w hw => ?_, List.pairwise_cons.2 ⟨fun y hy => ?_, g.gap⟩, fun w hw => ?_, fun q hq => ?_, ?_⟩
    · rcases List.mem_cons.1 hw with rfl | hw
      · exact Nat.zero_lt_one
      · exact g.ne w hw
    · have h1 := one y hy
      have h2 := hb y hy; unfold gapW; rcases h1 with h1 | h1
      · exact .inl h1
      · refine .inr ⟨h1.1, ?_⟩
        show y.Start + (y.Data.length : Int) < p.sector; have : y.Start + (y.Data.length : Int) ≠ p.sector := fun t => h2 (q76 h1.1.symm t.symm); omega
    · rcases List.mem_cons.1 hw with rfl | hw
      · exact nw
      · exact old w hw
    · rcases List.mem_append.1 hq with hq | hq
      · obtain ⟨w, hw, h⟩ := g.cov q hq
        exact ⟨w, List.mem_cons_of_mem _ hw, h⟩
      · obtain rfl := List.mem_singleton.1 hq
        exact ⟨_, List.mem_cons_self .., rfl, Int.le_refl _, by show q.sector < q.sector + ((1 : Nat) : Int); omega⟩
    · have := g.sum
      unfold secN at *; rw [List.map_cons, List.sum_cons, this, q20]; show 1 + ps.length = _; omega
  cases R with
  | nil => exact push fun w hw => absurd hw List.not_mem_nil
  | cons w r =>
    have gp := List.pairwise_cons.1 g.gap; unfold stepR; by_cases hb : p = behW w
    · simp only [if_pos hb]
      have hv : w.Volume = p.volume := by rw [hb]; rfl
      have hsx : w.Start + (w.Data.length : Int) = p.sector := by rw [hb]; rfl
      refine ⟨fun x hx => ?_, List.pairwise_cons.2 ⟨fun y hy => gp.1 y hy, gp.2⟩, fun x hx => ?_, fun q hq => ?_, ?_⟩
      · rcases List.mem_cons.1 hx with rfl | hx
        · show 0 < (w.Data ++ _).length
          rw [q20]; omega
        · exact g.ne x (List.mem_cons_of_mem _ hx)
      · rcases List.mem_cons.1 hx with rfl | hx
        · intro j hj
          have hj : j < (w.Data ++ [mget m p sec0]).length := hj; show (⟨w.Volume, w.Start + (j : Int)⟩ : q9) ∈ ps ++ [p] ∧ ix (w.Data ++ [mget m p sec0]) (j : Int) = _; rw [ix_snoc _ _ _ hj]; rw [q20] at hj; by_cases e : j = w.Data.length
          · have ep : (⟨w.Volume, w.Start + (j : Int)⟩ : q9) = p := q76 hv (by show w.Start + (j : Int) = _; omega)
            rw [if_pos e]; exact ⟨by rw [ep]; simp, by show _ = mget m (⟨w.Volume, w.Start + (j : Int)⟩ : q9) sec0; rw [ep]⟩
          · rw [if_neg e]
            exact old w (List.mem_cons_self ..) j (by omega)
        · exact old x (List.mem_cons_of_mem _ hx)
      · rcases List.mem_append.1 hq with hq | hq
        · obtain ⟨x, hx, h1, h2, h3⟩ := g.cov q hq
          rcases List.mem_cons.1 hx with rfl | hx
          · exact ⟨_, List.mem_cons_self .., h1, h2, by show q.sector < x.Start + ((x.Data ++ [mget m p sec0]).length : Int); rw [q20]; omega⟩
          · exact ⟨x, List.mem_cons_of_mem _ hx, h1, h2, h3⟩
        · obtain rfl := List.mem_singleton.1 hq
          exact ⟨_, List.mem_cons_self .., hv, by show w.Start ≤ _; omega, by show q.sector < w.Start + ((w.Data ++ [mget m q sec0]).length : Int); rw [q20]; omega⟩
      · have := g.sum
        unfold secN at *; rw [List.map_cons, List.sum_cons] at *; rw [q20, q20]; omega
    · simp only [if_neg hb]
      refine push fun y hy => ?_; rcases List.mem_cons.1 hy with rfl | hy
      · exact hb
      · rintro rfl
        have h1 := gp.1 y hy; have h2 := one w (List.mem_cons_self ..); have h3 := g.ne w (List.mem_cons_self ..); unfold gapW at h1; unfold behW at h2; simp only at h2; omega
theorem grp_all (m : List (q9 × Sec)) (ps : List q9) : ps.Pairwise ltQ → Grp m ps (ps.foldl (stepR m) []) := by
  refine q170 (P := fun ps => ps.Pairwise ltQ → Grp m ps (ps.foldl (stepR m) [])) (fun _ => ⟨fun w hw => absurd hw List.not_mem_nil, List.Pairwise.nil, fun w hw => absurd hw List.not_mem_nil, fun p hp => absurd hp List.not_mem_nil, rfl⟩) (fun ps p ih h => ?_) ps; rw [List.foldl_append]; have h1 := List.pairwise_append.1 h; exact (ih h1.1).step fun q hq => h1.2.2 q hq p (by simp)
theorem q451 {m : List (q9 × Sec)} (hn : (m.map (·.1)).Nodup) : (sortG pleB (m.map (·.1))).Pairwise ltQ := by
  have h1 := q123 q168 q169 (m.map (·.1)); have h2 : (sortG pleB (m.map (·.1))).Nodup := (q41 pleB _).nodup_iff.2 hn; refine (List.Pairwise.and h1 h2).imp fun {a b} h => ?_; have := h.1; unfold pleB at this; simp only [decide_eq_true_eq] at this; unfold ltQ; have : ¬ (a.volume = b.volume ∧ a.sector = b.sector) := fun t => h.2 (q76 t.1 t.2); omega
theorem q665 {m : List (q9 × Sec)} (hn : (m.map (·.1)).Nodup) (hv : ∀ q ∈ m, 0 ≤ q.1.volume) : ∃ R, Grp m (sortG pleB (m.map (·.1))) R ∧ canL m = R.reverse := by
  refine ⟨_, grp_all m _ (q451 hn), (q664 m _ fun p hp => ?_).cls⟩; obtain ⟨q, hq, rfl⟩ := List.mem_map.1 ((q41 pleB _).mem_iff.1 hp); exact hv q hq
structure Can (m : List (q9 × Sec)) (ws : List q8) : Prop where
  ne : ∀ w ∈ ws, 0 < w.Data.length
  gap : ws.Pairwise gapW
  mem : ∀ w ∈ ws, ∀ j : Nat, j < w.Data.length → mfind m ⟨w.Volume, w.Start + (j : Int)⟩ = some (ix w.Data (j : Int))
  cov : ∀ p d, mfind m p = some d → ∃ w ∈ ws, w.Volume = p.volume ∧ w.Start ≤ p.sector ∧ p.sector < w.Start + (w.Data.length : Int)
  sum : secN ws = m.length
theorem q418 (l : List q8) : secN l.reverse = secN l := by
  unfold secN; rw [List.map_reverse, List.sum_reverse]
theorem q666 {m : List (q9 × Sec)} (hn : (m.map (·.1)).Nodup) (hv : ∀ q ∈ m, 0 ≤ q.1.volume) : Can m (canL m) := by
  obtain ⟨R, g, e⟩ := q665 hn hv; have pm : ∀ p, p ∈ sortG pleB (m.map (·.1)) ↔ ∃ d, mfind m p = some d := fun p => ((q41 pleB _).mem_iff).trans (q173 p m); rw [e]; refine ⟨fun w hw => g.ne w (List.mem_reverse.1 hw), List.pairwise_reverse.2 g.gap, fun w hw j hj => ?_, fun p d h => ?_, ?_⟩
  · obtain ⟨h1, h2⟩ := g.mem w (List.mem_reverse.1 hw) j hj
    obtain ⟨d, hd⟩ := (pm _).1 h1; unfold mget at h2; rw [hd] at h2; rw [hd, h2]
  · obtain ⟨w, hw, h⟩ := g.cov p ((pm p).2 ⟨d, h⟩)
    exact ⟨w, List.mem_reverse.2 hw, h⟩
  · rw [q418, g.sum, (q41 pleB _).length_eq, List.length_map]
theorem q512 {sizes : List Int} (hs : ¬ q28 sizes ≠ 0) {l : List q8} (hf : ∀ w ∈ l, fitW sizes w = 0) : ∀ q ∈ effM l, 0 ≤ q.1.volume ∧ q.1.volume < (sizes.length : Int) ∧ 0 ≤ q.1.sector ∧ q.1.sector < ix sizes q.1.volume := by
  revert hf
  refine q170 (P := fun l => (∀ w ∈ l, fitW sizes w = 0) → ∀ q ∈ effM l, 0 ≤ q.1.volume ∧ q.1.volume < (sizes.length : Int) ∧ 0 ≤ q.1.sector ∧ q.1.sector < ix sizes q.1.volume) (fun _ q hq => absurd hq List.not_mem_nil) (fun l w ih h => ?_) l; have ih := ih fun x hx => h x (List.mem_append_left _ hx); obtain ⟨v, s, hw⟩ := q172 hs (h w (by simp)); have e1 := hw.vol; have e2 := hw.start; have e3 := hw.hv; have e4 := hw.le; rw [q113]; refine q449 (p := fun c => 0 ≤ c.volume ∧ c.volume < (sizes.length : Int) ∧ 0 ≤ c.sector ∧ c.sector < ix sizes c.volume) _ _ _ (fun j hj => ?_) ih; rw [e1, e2]; exact ⟨by show (0 : Int) ≤ (v : Int); omega, by show (v : Int) < _; omega, by show (0 : Int) ≤ (s : Int) + (j : Int); omega, by show (s : Int) + (j : Int) < ix sizes (v : Int); omega⟩
theorem q606 {m : List (q9 × Sec)} {p : q9} {d : Sec} (h : mfind m p = some d) : ∃ q ∈ m, q.1 = p := by
  have := (q173 p m).2 ⟨d, h⟩; obtain ⟨q, hq, e⟩ := List.mem_map.1 this; exact ⟨q, hq, e⟩
theorem q452 {sizes : List Int} {m : List (q9 × Sec)} {ws : List q8} (c : Can m ws) (hm : ∀ q ∈ m, 0 ≤ q.1.volume ∧ q.1.volume < (sizes.length : Int) ∧ 0 ≤ q.1.sector ∧ q.1.sector < ix sizes q.1.volume) : ∀ w ∈ ws, fitW sizes w = 0 := fun w hw => by
  have h0 := c.ne w hw; obtain ⟨q1, hq1, e1⟩ := q606 (c.mem w hw 0 h0); obtain ⟨q2, hq2, e2⟩ := q606 (c.mem w hw (w.Data.length - 1) (by omega)); have b1 := hm q1 hq1; have b2 := hm q2 hq2; rw [e1] at b1; rw [e2] at b2; simp only at b1 b2; unfold fitW; rw [if_neg (by omega), if_neg (by omega), if_neg (by omega)]
theorem q607 {sizes : List Int} {m : List (q9 × Sec)} {ws : List q8} (c : Can m ws) (hf : ∀ w ∈ ws, fitW sizes w = 0) : wrsE sizes ws = 0 := by
  refine q35.2 fun k hk => ?_; unfold ordW; rw [if_neg (fun t => t (hf _ (q93 (iX (by omega) (by omega)))))]; by_cases h0 : k = 0
  · rw [if_pos h0]
  · rw [if_neg h0]
    have g := List.pairwise_iff_getElem.1 c.gap (k - 1) k (by omega) hk (by omega); rw [← q77 (by omega), ← q77 hk, show ((k - 1 : Nat) : Int) = (k : Int) - 1 by omega] at g; unfold gapW at g; rw [if_neg (by omega)]
theorem sec_can {im : List (List Sec)} (hs : ¬ q28 (szs im) ≠ 0) {m : List (q9 × Sec)} {ws : List q8} (c : Can m ws) (hf : ∀ w ∈ ws, fitW (szs im) w = 0) (v i : Nat) : sec (appL im ws) v i = mget m ⟨(v : Int), (i : Int)⟩ (sec im v i) := by
  have hcv : ∀ w ∈ ws, covW w v i → mfind m ⟨(v : Int), (i : Int)⟩ = some (ix w.Data ((i : Int) - w.Start)) := fun w hw hc => by
    unfold covW at hc; obtain ⟨j, hj⟩ := Int.eq_ofNat_of_zero_le (show 0 ≤ (i : Int) - w.Start by omega); have := c.mem w hw j (by omega); rw [hj, ← this]
    congr 1
    exact q76 hc.1.symm (by show (i : Int) = w.Start + (j : Int); omega)
  unfold mget; cases hm : mfind m ⟨(v : Int), (i : Int)⟩ with
  | none => exact q661 hs hf fun w hw hc => by rw [hcv w hw hc] at hm; cases hm
  | some d =>
    have key : ∀ (l : List q8), (∀ w ∈ l, fitW (szs im) w = 0) → (∀ w ∈ l, covW w v i → ix w.Data ((i : Int) - w.Start) = d) → (∃ w ∈ l, covW w v i) → sec (appL im l) v i = d := by
      intro l; refine q170 (P := fun l => (∀ w ∈ l, fitW (szs im) w = 0) → (∀ w ∈ l, covW w v i → ix w.Data ((i : Int) - w.Start) = d) → (∃ w ∈ l, covW w v i) → sec (appL im l) v i = d) (fun _ _ h => ?_) (fun l w ih h1 h2 h3 => ?_) l
      · obtain ⟨w, hw, _⟩ := h; exact absurd hw List.not_mem_nil
      · have hl : ∀ x ∈ l, fitW (szs im) x = 0 := fun x hx => h1 x (List.mem_append_left _ hx)
        have e := q232 hs hl; obtain ⟨v0, s0, hw⟩ := q172 (sizes := szs (appL im l)) (w := w) (by rw [e]; exact hs) (by rw [e]; exact h1 w (by simp)); rw [q310, q249 hw]; by_cases hc : covW w v i
        · rw [if_pos hc]; exact h2 w (by simp) hc
        · rw [if_neg hc]
          refine ih hl (fun x hx => h2 x (List.mem_append_left _ hx)) ?_; obtain ⟨x, hx, hcx⟩ := h3; rcases List.mem_append.1 hx with hx | hx
          · exact ⟨x, hx, hcx⟩
          · rw [List.mem_singleton.1 hx] at hcx; exact absurd hcx hc
    refine key ws hf (fun w hw hc => ?_) ?_
    · have := hcv w hw hc
      rw [hm] at this; exact (Option.some.inj this).symm
    · obtain ⟨w, hw, h1, h2, h3⟩ := c.cov _ _ hm
      exact ⟨w, hw, h1, h2, h3⟩
theorem q453 {sizes : List Int} (hs : ¬ q28 sizes ≠ 0) {l : List q8} (hf : ∀ w ∈ l, fitW sizes w = 0) : Can (effM l) (canL (effM l)) := q666 (q527 l) fun q hq => (q512 hs hf q hq).1
theorem q667 {im : List (List Sec)} (hs : ¬ q28 (szs im) ≠ 0) {l : List q8} (hf : ∀ w ∈ l, fitW (szs im) w = 0) : appL im (canL (effM l)) = appL im l := by
  have c := q453 hs hf; have cf := q452 c (q512 hs hf); refine im_ext (by rw [q232 hs cf, q232 hs hf]) fun v i _ _ => ?_; rw [sec_can hs c cf, sec_eff hs l hf]
theorem pairE {α β : Type} {a a' : α} {b b' : β} (h1 : a = a') (h2 : b = b') : (a, b) = (a', b') := by rw [h1, h2]
theorem q196 {β : Type} (f : Nat → β) (k : Nat) : (List.range (k + 1)).map f = (List.range k).map f ++ [f k] := by rw [List.range_succ, List.map_append]; rfl
def cyc0 : q10 := ⟨0, 0, 0, [], []⟩
def appR (im : List (List Sec)) (c : q10) : List (List Sec) × Int := if imgE im ≠ 0 then ([], imgE im) else if cycE c (szs im) ≠ 0 then ([], cycE c (szs im)) else (appL im c.Writes, 0)
theorem q668 {c : q10} {sizes : List Int} (h : cycE c sizes = 0) : wrsE sizes c.Writes = 0 := by
  unfold cycE at h
  split at h
  · next q => exact absurd h q
  split at h
  · omega
  split at h
  · omega
  split at h
  · next q => exact absurd h q
  exact h
theorem wrs_fit {sizes : List Int} {l : List q8} (h : wrsE sizes l = 0) : ∀ w ∈ l, fitW sizes w = 0 := fun w hw => by
  obtain ⟨k, hk, rfl⟩ := List.getElem_of_mem hw; have := q510 (q35.1 h k hk); rwa [q77 hk] at this
theorem q344 {c : Nat} : ∀ l : List q8, (∀ w ∈ l, w.Data.length ≤ c) → secN l ≤ l.length * c
  | [], _ => Nat.zero_le _
  | w :: l, h => by
    have h1 := q344 l fun x hx => h x (List.mem_cons_of_mem _ hx); have h2 := h w (List.mem_cons_self ..); have : secN (w :: l) = w.Data.length + secN l := by simp [secN]
    rw [this, List.length_cons, Nat.succ_mul]; omega
theorem q608 {l : List q8} : ∀ w ∈ l, w.Data.length ≤ secN l := fun w hw => by
  obtain ⟨a, b, rfl⟩ := List.append_of_mem hw; rw [q204, show w :: b = [w] ++ b from rfl, q204, q511]; omega
theorem can_len {m : List (q9 × Sec)} {ws : List q8} (c : Can m ws) : ws.length ≤ m.length := by
  rw [← c.sum]
  have : ∀ l : List q8, (∀ w ∈ l, 0 < w.Data.length) → l.length ≤ secN l := by
    intro l
    induction l with
    | nil => intro _; exact Nat.zero_le _
    | cons w l ih =>
      intro h; have h1 := ih fun x hx => h x (List.mem_cons_of_mem _ hx); have h2 := h w (List.mem_cons_self ..); have : secN (w :: l) = w.Data.length + secN l := by simp [secN]
      rw [this, List.length_cons]; omega
  exact this ws c.ne
structure q711 (c : q12) : Prop where
  sizes : c.Sizes.length ≤ 20
  pos : c.Positions.length ≤ 20
  nodes : c.Nodes.length ≤ 60
  len : c.Writes.length ≤ 40
  data : ∀ w ∈ c.Writes, w.Data.length ≤ 24
def cap0 : q12 := ⟨0, [], [], [], []⟩
def openR (sizes : List Int) (nodes number : Int) : q12 × Int :=
  if q28 sizes ≠ 0 then (cap0, q28 sizes) else if nodes < 1 ∨ 8 < nodes then (cap0, 6) else if number < 0 ∨ 1073741823 < number then (cap0, 2) else (⟨number, sizes, List.replicate nodes.toNat 0, [], []⟩, 0)
theorem q380 {sizes : List Int} {nodes number : Int} {Φ : q12 × Int → Prop} (hΦ : Φ (openR sizes nodes number)) : q167 sizes nodes number Φ := by
  unfold openR at hΦ; refine q67 (fun hs => ⟨fun q => absurd rfl q, fun _ => ?_⟩) fun hs => ⟨fun _ => by rw [if_pos hs] at hΦ; exact hΦ, fun q => absurd hs q⟩
  rw [if_neg (by omega)] at hΦ; refine q36 ⟨fun r => ?_, fun r => ?_⟩
  · have := of_decide_eq_false (Bool.eq_false_iff.2 r)
    rw [if_pos (by omega)] at hΦ; exact hΦ
  · have g := of_decide_eq_true (Classical.not_not.1 r)
    rw [if_neg (by omega)] at hΦ; refine q36 ⟨fun r => ?_, fun r => ?_⟩
    · have := of_decide_eq_false (Bool.eq_false_iff.2 r)
      rw [if_pos (by omega)] at hΦ; exact hΦ
    · have := of_decide_eq_true (Classical.not_not.1 r)
      rw [if_neg (by omega)] at hΦ; have h8 := q59 hs; exact ⟨(sizes, ()), q19 (by omega) rfl, by omega, iL (by omega) (by omega), hΦ⟩
def nodW (c : q12) (k : Nat) : Int := if ix c.Nodes (k : Int) < 0 ∨ (c.Positions.length : Int) ≤ ix c.Nodes (k : Int) then 7 else fitW c.Sizes (ix c.Writes (k : Int))
def cptE (c : q12) : Int :=
  if q28 c.Sizes ≠ 0 then q28 c.Sizes else if c.Number < 0 ∨ 1073741823 < c.Number then 2 else if posR 1 c.Positions ≠ 0 then posR 1 c.Positions else if c.Nodes.length ≠ c.Writes.length ∨ 4096 < c.Writes.length then 6 else q78 (nodW c) c.Writes.length
def addE (c : q12) (n : Int) (w : q8) : Int :=
  if cptE c ≠ 0 then cptE c else if n < 0 ∨ (c.Positions.length : Int) ≤ n then 7 else if fitW c.Sizes w ≠ 0 then fitW c.Sizes w else if 4096 ≤ c.Writes.length then 11 else 0
def addR (c : q12) (n : Int) (w : q8) : q12 × Int :=
  if addE c n w ≠ 0 then (cap0, addE c n w) else (⟨c.Number, c.Sizes, c.Positions, c.Nodes ++ [n], c.Writes ++ [w]⟩, 0)
theorem q115 {w : q8} {Φ : q8 → Prop} (hw : w.Data.length ≤ 1000000) (hΦ : Φ w) : Z18 w Φ := q63 hw hΦ
theorem q311 {c : q12} {Φ : q12 → Prop} (hs : c.Sizes.length ≤ 100000) (hp : c.Positions.length ≤ 100000) (hn : c.Nodes.length ≤ 100000) (hl : c.Writes.length ≤ 100000) (hd : ∀ w ∈ c.Writes, w.Data.length ≤ 1000000) (hΦ : Φ c) : Z20 c Φ := by
  refine ⟨(c.Sizes, ()), q19 (by omega) rfl, (c.Positions, ()), q19 (by omega) rfl, (c.Nodes, ()), q19 (by omega) rfl, ?_⟩; refine LoopW.upT c.Writes.length (fun k => ((k : Int), c.Writes.take k)) rfl (fun k rec hk hr => ⟨fun _ => ⟨iX (by omega) (by omega), ?_⟩, fun _ => by omega⟩) fun rec => ⟨fun _ => by omega, fun _ => by rw [q79]; exact hΦ⟩
  have hm := hd _ (q93 (iX (i := (k : Int)) (n := c.Writes.length) (by omega) (by omega))); exact q115 hm ⟨iL (by rw [q20, lenT (by omega)]; omega) (by omega), iI (by omega) (by omega), hr _ (by rw [q126 hk]; rfl)⟩
theorem q419 {c : q12} {n : Int} {w : q8} {Φ : q12 × Int → Prop} (hp : c.Positions.length ≤ 100000) (hn : c.Nodes.length ≤ 100000) (hl : c.Writes.length ≤ 100000) (hd : ∀ w ∈ c.Writes, w.Data.length ≤ 1000000) (hw : w.Data.length ≤ 1000000) (hΦ : Φ (addR c n w)) : q147 c n w Φ := by
  have er : ∀ e, addE c n w = e → e ≠ 0 → Φ (cap0, e) := fun e h1 h2 => by
    unfold addR at hΦ; rw [h1, if_pos h2] at hΦ; exact hΦ
  have cr : ∀ e, cptE c = e → e ≠ 0 → Φ (cap0, e) := fun e h1 h2 => er e (by unfold addE; rw [h1, if_pos h2]) h2; refine q67 (fun hs => ⟨fun q => absurd rfl q, fun _ => ?_⟩) fun hs => ⟨fun _ => cr _ (by unfold cptE; rw [if_pos hs]) hs, fun q => absurd (show q28 c.Sizes = 0 from Classical.not_not.1 q) hs⟩
  have h8 := q59 hs; have e := q171 hs; have hs' : imgE (zeroI c.Sizes) = 0 := by unfold imgE; rw [e]; exact hs
  refine q36 ⟨fun r => ?_, fun r => ?_⟩
  · have := of_decide_eq_false (Bool.eq_false_iff.2 r)
    exact cr 2 (by unfold cptE; rw [if_neg (by omega), if_pos (by omega)]) (by omega)
  have a1 := of_decide_eq_true (Classical.not_not.1 r); refine q80 hp ⟨fun t => cr _ (by unfold cptE; rw [if_neg (by omega), if_neg (by omega), if_pos t]) t, fun t => ?_⟩; have t := Classical.not_not.1 t; refine ⟨fun u => ⟨fun x => cr 6 (by unfold cptE; rw [if_neg (by omega), if_neg (by omega), if_neg (by omega), if_pos (by omega)]) (by omega), fun x => ?_⟩, fun u => cr 6 (by unfold cptE; rw [if_neg (by omega), if_neg (by omega), if_neg (by omega), if_pos (by omega)]) (by omega)⟩; have ce : cptE c = q78 (nodW c) c.Writes.length := by unfold cptE; rw [if_neg (by omega), if_neg (by omega), if_neg (by omega), if_neg (by omega)]
  refine LoopW.errI c.Writes.length (fun k => (k : Int)) (nodW c) (Ψ := fun o => o = cptE c) rfl ce.symm (fun k rec hk hj g1 g2 => ⟨fun _ => ⟨iX (by omega) (by omega), iX (by omega) (by omega), iI (by omega) (by omega), q36 ⟨fun y => ?_, fun y => ?_⟩⟩, fun _ => by omega⟩) fun rec _ c0 => ⟨fun _ => by omega, fun _ => ⟨iI (by omega) (by omega), q36 ⟨fun y => ?_, fun y => ?_⟩⟩⟩
  · have := of_decide_eq_false (Bool.eq_false_iff.2 y)
    unfold nodW at g1; rw [if_pos (by omega)] at g1; exact cr 7 (g1 (by omega)).symm (by omega)
  · have := of_decide_eq_true (Classical.not_not.1 y)
    unfold nodW at g1 g2; rw [if_neg (by omega)] at g1 g2; refine q105 (hd _ (q93 (iX (i := (k : Int)) (n := c.Writes.length) (by omega) (by omega)))) hs' ?_; rw [e]; exact ⟨fun z => cr _ (g1 z).symm z, fun z => ⟨iI (by omega) (by omega), g2 (Classical.not_not.1 z) _ rfl⟩⟩
  · have := of_decide_eq_false (Bool.eq_false_iff.2 y)
    exact er 7 (by unfold addE; rw [if_neg (by omega), if_pos (by omega)]) (by omega)
  · have a2 := of_decide_eq_true (Classical.not_not.1 y)
    refine q105 hw hs' ?_; rw [e]; refine ⟨fun z => er _ (by unfold addE; rw [if_neg (by omega), if_neg (by omega), if_pos z]) z, fun z => ⟨fun v => er 11 (by unfold addE; rw [if_neg (by omega), if_neg (by omega), if_neg z, if_pos (by omega)]) (by omega), fun v => ?_⟩⟩; refine q311 (by omega) hp hn hl hd ⟨iL (by rw [q20]; omega) (by omega), (w, ()), q115 hw rfl, iL (by rw [q20]; omega) (by omega), ?_⟩; have e0 : addE c n w = 0 := by unfold addE; rw [if_neg (by omega), if_neg (by omega), if_neg z, if_neg (by omega)]
    unfold addR at hΦ; rw [if_neg (fun t => t e0)] at hΦ; exact hΦ
def tabL {α : Type} (n : Nat) (f : Nat → α) : List α := (List.range n).map f
theorem q25 {α : Type} (n : Nat) (f : Nat → α) : (tabL n f).length = n := by unfold tabL; rw [List.length_map, List.length_range]
theorem q99 {α : Type} [Dt α] {n i : Nat} {f : Nat → α} (h : i < n) : ix (tabL n f) (i : Int) = f i := by
  rw [q77 (by rw [q25]; exact h)]; unfold tabL; simp
theorem q94 {α : Type} {n : Nat} {f g : Nat → α} (h : ∀ i, i < n → f i = g i) : tabL n f = tabL n g := by
  unfold tabL; exact List.map_congr_left fun i hi => h i (List.mem_range.1 hi)
theorem q312 {α : Type} [Dt α] {n a : Nat} {f g : Nat → α} {x : α} (ha : a < n) (h0 : g a = x) (h : ∀ i, i < n → i ≠ a → g i = f i) : put (tabL n f) (a : Int) x = tabL n g := by
  refine q260 (by rw [q124, q25, q25]) fun i hi => ?_; rw [q124, q25] at hi; rw [q509 _ _ (by rw [q25]; exact ha), q99 hi, q99 hi]; by_cases e : i = a
  · rw [if_pos e, e, h0]
  · rw [if_neg e, h i hi e]
theorem q277 {α : Type} (k : Nat) (f : Nat → α) : tabL (k + 1) f = tabL k f ++ [f k] := q196 f k
theorem q513 {α : Type} [Dt α] (l : List α) : tabL l.length (fun i => ix l (i : Int)) = l := q260 (q25 _ _) fun i hi => by rw [q25] at hi; rw [q99 hi]
theorem LoopW.split {α S : Type} {step : List α × S → (List α × S → Prop) → Prop} (xs : List α) (f : List α → S) {s0 : S} (hs : s0 = f []) (h : ∀ pre x r rec, xs = pre ++ x :: r → (∀ s, s = (r, f (pre ++ [x])) → rec s) → step (x :: r, f pre) rec) (he : ∀ rec, step ([], f xs) rec) : LoopW step (xs, s0) := by
  have key : ∀ r pre, xs = pre ++ r → LoopN step (r.length + 1) (r, f pre) := by
    intro r
    induction r with
    | nil => intro pre e; rw [List.append_nil] at e; subst e; exact he _
    | cons x r ih => intro pre e; exact h pre x r _ e fun s hs => by rw [hs]; exact ih (pre ++ [x]) (by rw [e, List.append_assoc]; rfl)
  rw [hs]; exact ⟨_, key xs [] rfl⟩
def cnt (N : List Int) (n : Int) : Nat → Nat
  | 0 => 0
  | k + 1 => cnt N n k + if ix N (k : Int) = n then 1 else 0
theorem q712 (N : List Int) (n : Int) : ∀ k, cnt N n k ≤ k
  | 0 => Nat.le_refl _
  | k + 1 => by
    have := q712 N n k; unfold cnt; split <;> omega
theorem q381 (N : List Int) (n : Int) (k : Nat) : cnt N n (k + 1) = cnt N n k + if ix N (k : Int) = n then 1 else 0 := rfl
def pos0 (x : Int) : Int := if x < 0 then 0 else x
theorem q609 (x : Int) : pos0 (pos0 x - 1) = pos0 (x - 1) := by unfold pos0; split <;> split <;> (try split) <;> omega
def leftF (d : Nat → Int) (N : List Int) (m k : Nat) : List Int := tabL m fun i => pos0 (d i - (cnt N (i : Int) k : Int))
def partF (d : Nat → Int) (N : List Int) (k : Nat) : Bool := decide (0 < pos0 (d (ix N (k : Int)).toNat - (cnt N (ix N (k : Int)) k : Int)))
theorem q610 {d : Nat → Int} {N : List Int} {m k : Nat} {x : Int} (h0 : 0 ≤ ix N (k : Int)) (h1 : ix N (k : Int) < (m : Int)) (hx : x = pos0 (pos0 (d (ix N (k : Int)).toNat - (cnt N (ix N (k : Int)) k : Int)) - 1)) : put (leftF d N m k) (ix N (k : Int)) x = leftF d N m (k + 1) := by
  obtain ⟨a, ha⟩ := Int.eq_ofNat_of_zero_le h0; rw [ha] at hx ⊢; unfold leftF; refine q312 (by omega) ?_ fun i hi hne => ?_
  · rw [hx]
    show pos0 (d a - (cnt N (a : Int) (k + 1) : Int)) = _; rw [q381, if_pos ha, Int.toNat_natCast, q609, show d a - ((cnt N (a : Int) k + 1 : Nat) : Int) = d a - (cnt N (a : Int) k : Int) - 1 by omega]
  · show pos0 (d i - (cnt N (i : Int) (k + 1) : Int)) = _
    rw [q381, if_neg (by rw [ha]; omega)]; rfl
theorem q382 {d : Nat → Int} {N : List Int} {m k : Nat} {n : Int} (h0 : 0 ≤ n) (h1 : n < (m : Int)) : ix (leftF d N m k) n = pos0 (d n.toNat - (cnt N n k : Int)) := by
  obtain ⟨a, rfl⟩ := Int.eq_ofNat_of_zero_le h0; unfold leftF; rw [q99 (by omega), Int.toNat_natCast]
def dT (c : q12) (to : List Int) (i : Nat) : Int := ix to (i : Int) - ix c.Positions (i : Int)
def dW (c : q12) (to : List Int) (i : Nat) : Int := Go.IntKind.wrap Go.IntKind.i64 (ix to (i : Int) - ix c.Positions (i : Int))
def inB (c : q12) (to : List Int) (k : Nat) : Bool := partF (dT c to) c.Nodes k
def badI (c : q12) (to : List Int) (i : Nat) : Prop := ix to (i : Int) < ix c.Positions (i : Int) ∨ ix c.Positions (i : Int) + (cnt c.Nodes (i : Int) c.Nodes.length : Int) < ix to (i : Int)
instance (c : q12) (to : List Int) (i : Nat) : Decidable (badI c to i) := by unfold badI; infer_instance
def badB (c : q12) (to : List Int) : Bool := (List.range to.length).any fun i => decide (badI c to i)
theorem q420 {c : q12} {to : List Int} {i : Nat} (hi : i < to.length) (h : badI c to i) : badB c to = true := List.any_eq_true.2 ⟨i, List.mem_range.2 hi, decide_eq_true h⟩
theorem q345 {c : q12} {to : List Int} (h : ∀ i, i < to.length → ¬ badI c to i) : badB c to = false := by
  rw [Bool.eq_false_iff]; intro q; obtain ⟨i, hi, hb⟩ := List.any_eq_true.1 q; exact h i (List.mem_range.1 hi) (of_decide_eq_true hb)
theorem q611 {a b : Int} (ha : inI a) (hb : 0 ≤ b ∧ b ≤ 1073741824) : Go.IntKind.wrap Go.IntKind.i64 (a - b) = a - b ∨ (4611686018427387904 ≤ Go.IntKind.wrap Go.IntKind.i64 (a - b) ∧ Go.IntKind.wrap Go.IntKind.i64 (a - b) ≤ 9223372036854775807 ∧ a < b) := by
  have h1 := ha.1; have h2 := ha.2; by_cases h : -9223372036854775808 ≤ a - b
  · exact .inl (q83 h (by omega))
  · refine .inr ?_
    have e : Go.IntKind.wrap Go.IntKind.i64 (a - b) = a - b + 18446744073709551616 := by
      have w : Go.IntKind.wrap Go.IntKind.i64 (a - b) = if 9223372036854775808 ≤ (a - b) % 18446744073709551616 then (a - b) % 18446744073709551616 - 18446744073709551616 else (a - b) % 18446744073709551616 := by
        simp [IntKind.wrap, IntKind.bits, IntKind.signed]
      rw [w]
      split <;> omega
    rw [e]; omega
def selW (c : q12) (q : Nat → Bool) (n : Nat) : List q8 := ((List.range n).filter q).map fun j : Nat => ix c.Writes (j : Int)
def latL (c : q12) (p : Nat → Bool) (k : Nat) : List q8 := selW c (fun j => decide (k < j) && p j) c.Writes.length
def hidW (w : q8) (l : List q8) : q8 := ⟨w.Volume, w.Start, tabL w.Data.length fun j => mget (effM l) ⟨w.Volume, w.Start + (j : Int)⟩ (ix w.Data (j : Int))⟩
def outN (c : q12) (p : Nat → Bool) (n : Nat) : List Int := ((List.range n).filter fun j => !p j).map fun j : Nat => ix c.Nodes (j : Int)
def outW (c : q12) (p : Nat → Bool) (n : Nat) : List q8 := ((List.range n).filter fun j => !p j).map fun j : Nat => hidW (ix c.Writes (j : Int)) (latL c p j)
def cloE (c : q12) (time : Int) (to : List Int) : Int :=
  if cptE c ≠ 0 then cptE c else if time < 0 ∨ 1073741824 < time then 24 else if to.length ≠ c.Positions.length then 6 else if badB c to = true then 2 else 0
def cloR (c : q12) (time : Int) (to : List Int) : q12 × q10 × Int :=
  if cloE c time to ≠ 0 then (cap0, cyc0, cloE c time to) else (⟨c.Number + 1, c.Sizes, to, outN c (inB c to) c.Writes.length, outW c (inB c to) c.Writes.length⟩, ⟨c.Number, c.Number + 1, time, to, canL (effM (selW c (inB c to) c.Writes.length))⟩, 0)
theorem sel_len {c : q12} {q : Nat → Bool} {n : Nat} : (selW c q n).length ≤ n := by
  unfold selW; rw [List.length_map]; have := List.length_filter_le q (List.range n); rw [List.length_range] at this; exact this
theorem q612 {c : q12} {q : Nat → Bool} {n : Nat} (hn : n ≤ c.Writes.length) : ∀ w ∈ selW c q n, w ∈ c.Writes := fun w hw => by
  obtain ⟨j, hj, rfl⟩ := List.mem_map.1 hw; have := List.mem_range.1 (List.mem_filter.1 hj).1; exact q93 (iX (by omega) (by omega))
structure CapOk (c : q12) : Prop where
  sz : q28 c.Sizes = 0
  num : 0 ≤ c.Number ∧ c.Number ≤ 1073741823
  pos : ∀ k : Nat, k < c.Positions.length → 0 ≤ ix c.Positions (k : Int) ∧ ix c.Positions (k : Int) ≤ 1073741824
  len : c.Nodes.length = c.Writes.length
  node : ∀ k : Nat, k < c.Writes.length → 0 ≤ ix c.Nodes (k : Int) ∧ ix c.Nodes (k : Int) < (c.Positions.length : Int)
  fit : ∀ w ∈ c.Writes, fitW c.Sizes w = 0
theorem posR_ix {least : Int} {l : List Int} (h : posR least l = 0) : ∀ k : Nat, k < l.length → 0 ≤ ix l (k : Int) ∧ ix l (k : Int) ≤ 1073741824 := fun k hk => by
  unfold posR at h
  split at h
  · omega
  · have := q35.1 h k hk
    split at this <;> omega
theorem q669 {c : q12} (h : cptE c = 0) : CapOk c := by
  unfold cptE at h
  split at h
  · next q => exact absurd h q
  split at h
  · omega
  split at h
  · next q => exact absurd h q
  split at h
  · omega
  next q1 q2 q3 q4 =>
    have nd : ∀ k : Nat, k < c.Writes.length → (0 ≤ ix c.Nodes (k : Int) ∧ ix c.Nodes (k : Int) < (c.Positions.length : Int)) ∧ fitW c.Sizes (ix c.Writes (k : Int)) = 0 := fun k hk => by
      have := q35.1 h k hk; unfold nodW at this
      split at this
      · omega
      · exact ⟨by omega, this⟩
    refine ⟨Classical.not_not.1 q1, by omega, posR_ix (Classical.not_not.1 q3), by omega, fun k hk => (nd k hk).1, fun w hw => ?_⟩; obtain ⟨k, hk, rfl⟩ := List.getElem_of_mem hw; have := (nd k hk).2; rwa [q77 hk] at this
theorem fit_pl {sizes : List Int} (hs : q28 sizes = 0) {w : q8} (h : fitW sizes w = 0) : q98 w = 0 := by
  obtain ⟨v, s, hf⟩ := q172 (by omega) h; have h1 := hf.vol; have h2 := hf.start; have h3 := hf.hv; have h4 := hf.len; have h5 := hf.le; have h6 := hf.top; have h8 := q59 hs; unfold q98; rw [if_neg (by omega), if_neg (by omega), if_neg (by omega)]
theorem CapOk.pl {c : q12} (h : CapOk c) : PlL c.Writes := fun w hw => fit_pl h.sz (h.fit w hw)
theorem CapOk.sel {c : q12} (h : CapOk c) (q : Nat → Bool) {n : Nat} (hn : n ≤ c.Writes.length) : PlL (selW c q n) := fun w hw => h.pl w (q612 hn w hw)
def itL (c : q12) (q : Nat → Bool) : List (Int × q8 × Unit) := ((List.range c.Writes.length).filter q).map fun j : Nat => ((j : Int), ix c.Writes (j : Int), ())
theorem it_ok {c : q12} {part : List Bool} {b : Bool} {q : Nat → Bool} (hn : c.Writes.length ≤ 1000000) (hl : part.length = c.Writes.length) (hq : ∀ j : Nat, j < c.Writes.length → (ix part (j : Int) = b ↔ q j = true)) : q29 ⟨c, part⟩ b (itL c q) := by
  unfold itL; rw [List.range_eq_range']; refine LoopW.upT c.Writes.length (fun k => (((List.range' k (c.Writes.length - k)).filter q).map fun j : Nat => ((j : Int), ix c.Writes (j : Int), ()), (k : Int))) rfl (fun k rec hk hr => ⟨fun _ => ⟨iX (by omega) (by show (k : Int) < (c.Writes.length : Int); omega), iX (by omega) (by show (k : Int) < (part.length : Int); omega), fun e => ?_, fun e => ?_⟩, fun r => absurd (show (k : Int) < (c.Writes.length : Int) by omega) r⟩) fun rec => ⟨fun r => absurd r (by show ¬ (c.Writes.length : Int) < (c.Writes.length : Int); omega), fun _ => by rw [Nat.sub_self]; rfl⟩
  · have es : c.Writes.length - k = (c.Writes.length - (k + 1)) + 1 := by omega
    rw [es, List.range'_succ, List.filter_cons_of_pos ((hq k hk).1 e), List.map_cons]; exact ⟨rfl, ⟨iI (by omega) (by omega), hr _ rfl⟩, trivial⟩
  · have es : c.Writes.length - k = (c.Writes.length - (k + 1)) + 1 := by omega
    rw [es, List.range'_succ, List.filter_cons_of_neg (fun t => e ((hq k hk).2 t))]; exact ⟨iI (by omega) (by omega), hr _ rfl⟩
theorem q713 {c : q12} {q : Nat → Bool} {pre : List (Int × q8 × Unit)} {x : Int × q8 × Unit} {r : List (Int × q8 × Unit)} (h : itL c q = pre ++ x :: r) : ∃ j : Nat, j < c.Writes.length ∧ q j = true ∧ x = ((j : Int), ix c.Writes (j : Int), ()) := by
  have : x ∈ itL c q := by rw [h]; simp
  unfold itL at this; obtain ⟨j, hj, rfl⟩ := List.mem_map.1 this; have := List.mem_filter.1 hj; exact ⟨j, List.mem_range.1 this.1, this.2, rfl⟩
theorem q714 {c : q12} {q : Nat → Bool} {pre : List (Int × q8 × Unit)} {x : Int × q8 × Unit} {r : List (Int × q8 × Unit)} (h : itL c q = pre ++ x :: r) : pre.length + 1 ≤ c.Writes.length := by
  have h1 : (itL c q).length ≤ c.Writes.length := by
    unfold itL; rw [List.length_map]; have := List.length_filter_le q (List.range c.Writes.length); rw [List.length_range] at this; exact this
  rw [h, List.length_append, List.length_cons] at h1; omega
def geL (k : Nat) (pre : List (Int × q8 × Unit)) : List q8 := (pre.filter fun x => decide ((k : Int) ≤ x.1)).map (·.2.1)
theorem q514 (k : Nat) (pre : List (Int × q8 × Unit)) (x : Int × q8 × Unit) : geL k (pre ++ [x]) = if (k : Int) ≤ x.1 then geL k pre ++ [x.2.1] else geL k pre := by
  unfold geL; rw [List.filter_append]; by_cases h : (k : Int) ≤ x.1
  · rw [if_pos h]; simp [h]
  · rw [if_neg h]; simp [h]
theorem q670 {c : q12} {part : List Bool} {q : Nat → Bool} {k : Nat} {w : q8} {Φ : q8 → Prop} (hc : CapOk c) (hn : c.Writes.length ≤ 1000000) (hl : part.length = c.Writes.length) (hq : ∀ j : Nat, j < c.Writes.length → (ix part (j : Int) = true ↔ q j = true)) (hw : q98 w = 0) (hΦ : Φ (hidW w (geL k (itL c q)))) : Z44 ⟨c, part⟩ (k : Int) w Φ := by
  have w0 := q305 hw; refine q115 (by omega) ⟨itL c q, it_ok hn hl hq, ?_⟩; refine LoopW.split (itL c q) (fun pre => tabL w.Data.length fun j => mget (effM (geL k pre)) ⟨w.Volume, w.Start + (j : Int)⟩ (ix w.Data (j : Int))) ?_ (fun pre x r rec hx hr => ?_) fun rec => hΦ
  · show w.Data = _
    conv => lhs; rw [← q513 w.Data]
    rfl
  · obtain ⟨j, hj, hqj, rfl⟩ := q713 hx
    have x0 := q305 (hc.pl _ (q93 (iX (i := (j : Int)) (n := c.Writes.length) (by omega) (by omega))))
    have J2 : ∀ b : Bool, (b = true ↔ (j : Int) < (k : Int) ∨ (ix c.Writes (j : Int)).Volume ≠ w.Volume) → Z42 w (tabL w.Data.length fun j => mget (effM (geL k pre)) ⟨w.Volume, w.Start + (j : Int)⟩ (ix w.Data (j : Int))) rec ((j : Int), ix c.Writes (j : Int), ()) r Φ b := fun b hb => by
      refine ⟨fun t => hr _ (pairE rfl ?_), fun t => ?_⟩
      · rw [q514]
        by_cases h : (k : Int) ≤ (j : Int)
        · rw [if_pos h]
          refine q94 fun i hi => ?_; unfold mget; rw [q113, q276, if_neg]
          rintro ⟨h1, _⟩
          have h1 : w.Volume = (ix c.Writes (j : Int)).Volume := h1; rcases hb.1 t with h2 | h2
          · omega
          · exact h2 h1.symm
        · rw [if_neg h]
      · have hjk : (k : Int) ≤ (j : Int) := by
          by_cases h : (j : Int) < (k : Int)
          · exact absurd (hb.2 (.inl h)) t
          · omega
        have hvv : (ix c.Writes (j : Int)).Volume = w.Volume := Classical.byContradiction fun h => t (hb.2 (.inr h)); refine LoopW.upT w.Data.length (fun a => ((a : Int), tabL w.Data.length fun i => if i < a then mget (effM (geL k pre ++ [ix c.Writes (j : Int)])) ⟨w.Volume, w.Start + (i : Int)⟩ (ix w.Data (i : Int)) else mget (effM (geL k pre)) ⟨w.Volume, w.Start + (i : Int)⟩ (ix w.Data (i : Int)))) ?_ (fun a rec2 ha hr2 => ⟨fun _ => ⟨iI (by omega) (by omega), iI (by show _ ≤ w.Start + (a : Int) - (ix c.Writes (j : Int)).Start; omega) (by show w.Start + (a : Int) - (ix c.Writes (j : Int)).Start ≤ _; omega), iI (by show _ ≤ ((ix c.Writes (j : Int)).Data.length : Int) - 1; omega) (by show ((ix c.Writes (j : Int)).Data.length : Int) - 1 ≤ _; omega), q36 ?_⟩, fun u => absurd (show (a : Int) < ((tabL w.Data.length _).length : Int) by rw [q25]; omega) u⟩) fun rec2 => ⟨fun u => absurd u (by rw [q25]; omega), fun _ => hr _ (pairE rfl ?_)⟩
        · refine pairE rfl (q94 fun i _ => by rw [if_neg (Nat.not_lt_zero i)])
        · have ef : mfind (effM (geL k pre ++ [ix c.Writes (j : Int)])) ⟨w.Volume, w.Start + (a : Int)⟩ = if 0 ≤ w.Start + (a : Int) - (ix c.Writes (j : Int)).Start ∧ w.Start + (a : Int) - (ix c.Writes (j : Int)).Start ≤ ((ix c.Writes (j : Int)).Data.length : Int) - 1 then some (ix (ix c.Writes (j : Int)).Data (w.Start + (a : Int) - (ix c.Writes (j : Int)).Start)) else mfind (effM (geL k pre)) ⟨w.Volume, w.Start + (a : Int)⟩ := by
            rw [q113, q276]; by_cases h : 0 ≤ w.Start + (a : Int) - (ix c.Writes (j : Int)).Start ∧ w.Start + (a : Int) - (ix c.Writes (j : Int)).Start ≤ ((ix c.Writes (j : Int)).Data.length : Int) - 1
            · rw [if_pos h, if_pos ⟨hvv.symm, by show _ ≤ w.Start + (a : Int); omega, by show w.Start + (a : Int) < _; omega⟩]
            · rw [if_neg h, if_neg (fun u => h ⟨by have : (ix c.Writes (j : Int)).Start ≤ w.Start + (a : Int) := u.2.1; omega, by have : w.Start + (a : Int) < (ix c.Writes (j : Int)).Start + ((ix c.Writes (j : Int)).Data.length : Int) := u.2.2; omega⟩)]
          refine ⟨fun u => ?_, fun u => ?_⟩
          · have u := of_decide_eq_true u
            have u : 0 ≤ w.Start + (a : Int) - (ix c.Writes (j : Int)).Start ∧ w.Start + (a : Int) - (ix c.Writes (j : Int)).Start ≤ ((ix c.Writes (j : Int)).Data.length : Int) - 1 := u; refine ⟨iX u.1 (by show w.Start + (a : Int) - (ix c.Writes (j : Int)).Start < ((ix c.Writes (j : Int)).Data.length : Int); omega), iX (by omega) (by rw [q25]; omega), iI (by omega) (by omega), hr2 _ (pairE rfl ?_)⟩; refine q312 ha ?_ fun i hi hne => ?_
            · rw [if_pos (by omega)]
              unfold mget; rw [ef, if_pos u]
            · by_cases h : i < a
              · rw [if_pos h, if_pos (by omega)]
              · rw [if_neg h, if_neg (by omega)]
          · have u : ¬ (0 ≤ w.Start + (a : Int) - (ix c.Writes (j : Int)).Start ∧ w.Start + (a : Int) - (ix c.Writes (j : Int)).Start ≤ ((ix c.Writes (j : Int)).Data.length : Int) - 1) := fun v => u (decide_eq_true v)
            refine ⟨iI (by omega) (by omega), hr2 _ (pairE rfl ?_)⟩; refine q94 fun i hi => ?_; by_cases h : i < a
            · rw [if_pos h, if_pos (by omega)]
            · rw [if_neg h]
              by_cases h2 : i = a
              · subst h2
                rw [if_pos (by omega)]; unfold mget; rw [ef, if_neg u]
              · rw [if_neg (by omega)]
        · rw [q514, if_pos hjk]
          exact q94 fun i hi => if_pos hi
    exact ⟨fun u => J2 true ⟨fun _ => .inl u, fun _ => rfl⟩, fun u => J2 _ (by
      rw [decide_eq_true_eq]
      exact ⟨.inr, fun h => h.resolve_left u⟩)⟩
theorem ge_lat {c : q12} {p : Nat → Bool} {k : Nat} (hp : p k = false) : geL k (itL c p) = latL c p k := by
  unfold geL latL selW itL; rw [List.filter_map, List.map_map]
  have e : (List.filter ((fun x : Int × q8 × Unit => decide ((k : Int) ≤ x.1)) ∘ fun j : Nat => ((j : Int), ix c.Writes (j : Int), ())) ((List.range c.Writes.length).filter p)) = (List.range c.Writes.length).filter fun j => decide (k < j) && p j := by
    rw [List.filter_filter]; refine List.filter_congr fun j _ => ?_; show (decide ((k : Int) ≤ (j : Int)) && p j) = _; by_cases hj : p j = true
    · rw [hj, Bool.and_true, Bool.and_true]
      refine decide_eq_decide.2 ?_; have : j ≠ k := by rintro rfl; rw [hp] at hj; exact Bool.noConfusion hj
      omega
    · rw [Bool.of_not_eq_true hj, Bool.and_false, Bool.and_false]
  rw [e]; rfl
theorem q671 {α : Type} {n : Nat} {x : α} {f : Nat → α} (h : ∀ i, i < n → f i = x) : List.replicate n x = tabL n f := by
  unfold tabL
  induction n with
  | zero => rfl
  | succ n ih => rw [List.replicate_succ', q196, ih fun i hi => h i (by omega), h n (by omega)]
theorem it_sel (c : q12) (q : Nat → Bool) : (itL c q).map (fun x => x.2.1) = selW c q c.Writes.length := by
  unfold itL selW; rw [List.map_map]; rfl
theorem q672 {c : q12} (hc : CapOk c) (q : Nat → Bool) : foldR (selW c q c.Writes.length) = (canL (effM (selW c q c.Writes.length)), 0) := by
  unfold foldR; rw [if_neg fun t => t (q35.2 fun k hk => hc.sel q (Nat.le_refl _) _ (q93 (iX (by omega) (by omega))))]
theorem q673 (d : Nat → Int) (N : List Int) {m k : Nat} (h0 : 0 ≤ ix N (k : Int)) (h1 : ix N (k : Int) < (m : Int)) : decide (0 < ix (leftF d N m k) (ix N (k : Int))) = partF d N k := by
  rw [q382 h0 h1]; rfl
theorem q321 {c : q12} {t : Int} {to : List Int} {Φ : q12 × q10 × Int → Prop} (hs : q711 c) (hto : to.length ≤ 20) (hr : ∀ i : Nat, i < to.length → inI (ix to (i : Int))) (hΦ : Φ (cloR c t to)) : q102 c t to Φ := by
  have er : ∀ e, cloE c t to = e → e ≠ 0 → Φ (cap0, cyc0, e) := fun e h1 h2 => by
    unfold cloR at hΦ; rw [h1, if_pos h2] at hΦ; exact hΦ
  have cr : ∀ e, cptE c = e → e ≠ 0 → Φ (cap0, cyc0, e) := fun e h1 h2 => er e (by unfold cloE; rw [h1, if_pos h2]) h2; have s1 := hs.pos; have s2 := hs.nodes; have s3 := hs.len; have s5 := hs.sizes; have s4 : ∀ w ∈ c.Writes, w.Data.length ≤ 1000000 := fun w hw => by have := hs.data w hw; omega
  refine q67 (fun hz => ⟨fun q => absurd rfl q, fun _ => ?_⟩) fun hz => ⟨fun _ => cr _ (by unfold cptE; rw [if_pos hz]) hz, fun q => absurd (show q28 c.Sizes = 0 from Classical.not_not.1 q) hz⟩
  have h8 := q59 hz; have e := q171 hz; have hz' : imgE (zeroI c.Sizes) = 0 := by unfold imgE; rw [e]; exact hz
  refine q36 ⟨fun r => ?_, fun r => ?_⟩
  · have := of_decide_eq_false (Bool.eq_false_iff.2 r)
    exact cr 2 (by unfold cptE; rw [if_neg (by omega), if_pos (by omega)]) (by omega)
  have a1 := of_decide_eq_true (Classical.not_not.1 r); refine q80 (by omega) ⟨fun u => cr _ (by unfold cptE; rw [if_neg (by omega), if_neg (by omega), if_pos u]) u, fun u => ?_⟩; have u := Classical.not_not.1 u; refine ⟨fun v => ⟨fun x => cr 6 (by unfold cptE; rw [if_neg (by omega), if_neg (by omega), if_neg (by omega), if_pos (by omega)]) (by omega), fun x => ?_⟩, fun v => cr 6 (by unfold cptE; rw [if_neg (by omega), if_neg (by omega), if_neg (by omega), if_pos (by omega)]) (by omega)⟩; have ce : cptE c = q78 (nodW c) c.Writes.length := by unfold cptE; rw [if_neg (by omega), if_neg (by omega), if_neg (by omega), if_neg (by omega)]
  refine LoopW.errI c.Writes.length (fun k => (k : Int)) (nodW c) (Ψ := fun o => o = cptE c) rfl ce.symm (fun k rec hk hj g1 g2 => ⟨fun _ => ⟨iX (by omega) (by omega), iX (by omega) (by omega), iI (by omega) (by omega), q36 ⟨fun y => ?_, fun y => ?_⟩⟩, fun _ => by omega⟩) fun rec _ c0 => ⟨fun _ => by omega, fun _ => q36 ⟨fun y => ?_, fun y => ?_⟩⟩
  · have := of_decide_eq_false (Bool.eq_false_iff.2 y)
    unfold nodW at g1; rw [if_pos (by omega)] at g1; exact cr 7 (g1 (by omega)).symm (by omega)
  · have := of_decide_eq_true (Classical.not_not.1 y)
    unfold nodW at g1 g2; rw [if_neg (by omega)] at g1 g2; refine q105 (s4 _ (q93 (iX (i := (k : Int)) (n := c.Writes.length) (by omega) (by omega)))) hz' ?_; rw [e]; exact ⟨fun z => cr _ (g1 z).symm z, fun z => ⟨iI (by omega) (by omega), g2 (Classical.not_not.1 z) _ rfl⟩⟩
  · have := of_decide_eq_false (Bool.eq_false_iff.2 y)
    exact er 24 (by unfold cloE; rw [if_neg (by omega), if_pos (by omega)]) (by omega)
  have a2 := of_decide_eq_true (Classical.not_not.1 y); have hk := q669 c0.symm; refine ⟨fun z => er 6 (by unfold cloE; rw [if_neg (by omega), if_neg (by omega), if_pos (by omega)]) (by omega), fun z => ?_⟩; have hm : to.length = c.Positions.length := by omega
  have bad2 : badB c to = true → Φ (cap0, cyc0, 2) := fun hb => er 2 (by unfold cloE; rw [if_neg (by omega), if_neg (by omega), if_neg (by omega), if_pos hb]) (by omega); have wc : ∀ i : Nat, i < to.length → dW c to i = dT c to i ∨ (4611686018427387904 ≤ dW c to i ∧ dW c to i ≤ 9223372036854775807 ∧ ix to (i : Int) < ix c.Positions (i : Int)) := fun i hi => q611 (hr i hi) (hk.pos i (by omega))
  have wT : ∀ i : Nat, i < to.length → dT c to i ≤ 9223372036854775807 := fun i hi => by
    have h1 := (hr i hi).2; have h2 := hk.pos i (by omega); unfold dT; omega
  have wU : ∀ i : Nat, i < to.length → dW c to i ≤ 9223372036854775807 := fun i hi => by
    rcases wc i hi with h | h
    · rw [h]; exact wT i hi
    · exact h.2.1
  refine ⟨by omega, iL (by omega) (by omega), ?_⟩; refine LoopW.upI to.length (fun k => ((k : Int), tabL to.length fun i => if i < k then dW c to i else 0)) (fun k => ∀ j, j < k → 0 ≤ dW c to j) (pairE rfl (q671 fun i _ => if_neg (Nat.not_lt_zero i))) (fun j hj => absurd hj (Nat.not_lt_zero j)) (fun k rec hk' hI hrec => ⟨fun _ => ⟨iX (by omega) (by omega), iX (by omega) (by omega), iX (by omega) (by rw [q25]; omega), iX (by omega) (by rw [q124, q25]; omega), ?_⟩, fun q => by omega⟩) fun rec hI => ⟨fun q => by omega, fun _ => ?_⟩
  · rw [q450 _ (iX (by omega) (by rw [q25]; omega))]
    show (¬ (0 ≤ dW c to k) → _) ∧ (¬ ¬ (0 ≤ dW c to k) → _)
    refine ⟨fun q => bad2 (q420 hk' ?_), fun q => ⟨iI (by omega) (by omega), hrec (fun j hj => ?_) _ (pairE rfl ?_)⟩⟩
    · rcases wc k hk' with h | h
      · rw [h] at q; unfold dT at q; exact .inl (by omega)
      · exact .inl h.2.2
    · rcases Nat.lt_or_ge j k with h2 | h2
      · exact hI j h2
      · obtain rfl : j = k := by omega
        exact Classical.not_not.1 q
    · refine q312 hk' ?_ fun i hi hne => ?_
      · rw [if_pos (by omega)]; rfl
      · by_cases h : i < k
        · rw [if_pos h, if_pos (by omega)]
        · rw [if_neg h, if_neg (by omega)]
  have e0 : (tabL to.length fun i => if i < to.length then dW c to i else 0) = leftF (dW c to) c.Nodes to.length 0 := q94 fun i hi => by
    have := hI i hi; rw [if_pos hi]; show _ = pos0 (dW c to i - ((0 : Nat) : Int)); unfold pos0
    split <;> omega
  rw [e0]; refine LoopW.upT c.Nodes.length (fun k => ((k : Int), leftF (dW c to) c.Nodes to.length k, tabL k (partF (dW c to) c.Nodes))) rfl (fun k rec hk' hrec => ⟨fun _ => ?_, fun q => by omega⟩) fun rec => ⟨fun q => by omega, fun _ => ?_⟩
  · have hn := hk.node k (by omega)
    have ll : (leftF (dW c to) c.Nodes to.length k).length = to.length := q25 _ _; have hx := q382 (d := dW c to) (N := c.Nodes) (m := to.length) (k := k) hn.1 (by omega); obtain ⟨a, ha⟩ := Int.eq_ofNat_of_zero_le hn.1; have hu := wU a (by omega)
    have hb : 0 ≤ pos0 (dW c to (ix c.Nodes (k : Int)).toNat - (cnt c.Nodes (ix c.Nodes (k : Int)) k : Int)) ∧ pos0 (dW c to (ix c.Nodes (k : Int)).toNat - (cnt c.Nodes (ix c.Nodes (k : Int)) k : Int)) ≤ 9223372036854775807 := by
      rw [ha, Int.toNat_natCast]; unfold pos0
      split <;> omega
    refine ⟨iX (by omega) (by omega), iX (by omega) (by rw [ll]; omega), iL (by rw [q20, q25]; omega) (by omega), iX (by omega) (by rw [ll]; omega), by rw [hx]; exact iI (by omega) (by omega), iX (by omega) (by rw [ll]; omega), iI (by omega) (by omega), hrec _ (pairE rfl (pairE ?_ ?_))⟩
    · exact q610 hn.1 (by omega) (by rw [hx]; rfl)
    · rw [q277, q673 (m := to.length) _ _ hn.1 (by omega)]
  have ll : (leftF (dW c to) c.Nodes to.length c.Nodes.length).length = to.length := q25 _ _; have ne1 : ¬ ((0 : Int) ≤ -1) := by omega
  refine LoopW.upI to.length (fun k => (k : Int)) (fun k => ∀ j : Nat, j < k → ¬ 0 < ix (leftF (dW c to) c.Nodes to.length c.Nodes.length) (j : Int)) rfl (fun j hj => absurd hj (Nat.not_lt_zero j)) (fun k rec hk' hI2 hrec => ⟨fun _ => ⟨iX (by omega) (by rw [ll]; omega), fun q => ⟨fun _ => ?_, fun q2 => absurd (fun q3 => q3 (show (0 : Int) ≤ (k : Int) by omega)) q2⟩, fun q => ⟨iI (by omega) (by omega), hrec (fun j hj => ?_) _ rfl⟩⟩, fun q => absurd (show (k : Int) < ((leftF (dW c to) c.Nodes to.length c.Nodes.length).length : Int) by rw [ll]; omega) q⟩) fun rec hI2 => ⟨fun q => absurd q (by rw [ll]; omega), fun _ => ⟨fun q => absurd (Classical.not_not.1 q) ne1, fun _ => ?_⟩⟩
  · have q := of_decide_eq_true q
    have q : 0 < ix (leftF (dW c to) c.Nodes to.length c.Nodes.length) (k : Int) := q; rw [q382 (by omega) (by omega), Int.toNat_natCast] at q
    have q : 0 < dW c to k - (cnt c.Nodes (k : Int) c.Nodes.length : Int) := by
      unfold pos0 at q; split at q <;> omega
    refine bad2 (q420 hk' ?_); rcases wc k hk' with h | h
    · rw [h] at q; unfold dT at q; exact .inr (by omega)
    · exact .inl h.2.2
  · rcases Nat.lt_or_ge j k with h2 | h2
    · exact hI2 j h2
    · obtain rfl : j = k := by omega
      exact fun r => q (decide_eq_true r)
  have dd : ∀ i, i < to.length → dW c to i = dT c to i ∧ dW c to i ≤ (cnt c.Nodes (i : Int) c.Nodes.length : Int) := fun i hi => by
    have q := hI2 i hi; rw [q382 (by omega) (by omega), Int.toNat_natCast] at q
    have q : dW c to i - (cnt c.Nodes (i : Int) c.Nodes.length : Int) ≤ 0 := by
      unfold pos0 at q; split at q <;> omega
    have := q712 c.Nodes (i : Int) c.Nodes.length; rcases wc i hi with h | h
    · exact ⟨h, by omega⟩
    · omega
  have nb : badB c to = false := q345 fun i hi hb => by
    obtain ⟨d1, d2⟩ := dd i hi; have d3 := hI i hi; rw [d1] at d2 d3; unfold dT at d2 d3; unfold badI at hb; omega
  have c00 : cloE c t to = 0 := by unfold cloE; rw [if_neg (by omega), if_neg (by omega), if_neg (by omega), if_neg (by rw [nb]; simp)]
  unfold cloR at hΦ; rw [if_neg (fun q => q c00)] at hΦ; have pl : (tabL c.Nodes.length (partF (dW c to) c.Nodes)).length = c.Writes.length := by rw [q25]; omega
  have pq : ∀ j : Nat, j < c.Writes.length → ix (tabL c.Nodes.length (partF (dW c to) c.Nodes)) (j : Int) = inB c to j := fun j hj => by
    rw [q99 (by omega)]; have hn := hk.node j hj; obtain ⟨a, ha⟩ := Int.eq_ofNat_of_zero_le hn.1; unfold inB partF; rw [ha, Int.toNat_natCast, (dd a (by omega)).1]
  generalize tabL c.Nodes.length (partF (dW c to) c.Nodes) = part at pl pq; have q1 : ∀ j : Nat, j < c.Writes.length → (ix part (j : Int) = true ↔ inB c to j = true) := fun j hj => by rw [pq j hj]
  have q2 : ∀ j : Nat, j < c.Writes.length → (ix part (j : Int) = false ↔ (!inB c to j) = true) := fun j hj => by rw [pq j hj]; simp
  generalize inB c to = p at hΦ q1 q2; refine ⟨itL c p, it_ok (c := c) (by omega) pl q1, ?_⟩; refine LoopW.split (itL c p) (fun pre => pre.map fun x => x.2.1) rfl (fun pre x r rec hx hrec => ⟨iL (by have := q714 hx; rw [q20, List.length_map]; omega) (by omega), hrec _ (pairE rfl (by rw [List.map_append]; rfl))⟩) fun rec => ?_; show Z40 ((itL c p).map fun x => x.2.1) _; rw [it_sel]; refine q267 (by have := sel_len (c := c) (q := p) (n := c.Writes.length); omega) (fun w hw => s4 w (q612 (Nat.le_refl _) w hw)) ?_; rw [q672 hk]; refine ⟨fun q => absurd rfl q, fun _ => ⟨iI (by omega) (by omega), (to, ()), q19 (by omega) rfl, iI (by omega) (by omega), (c.Sizes, ()), q19 (by omega) rfl, (to, ()), q19 (by omega) rfl, itL c (fun j => !p j), it_ok (c := c) (by omega) pl q2, ?_⟩⟩; refine LoopW.split (itL c fun j => !p j) (fun pre => (pre.map fun x => ix c.Nodes x.1, pre.map fun x => hidW x.2.1 (latL c p x.1.toNat))) rfl (fun pre x r rec hx hrec => ?_) fun rec => ?_
  · have hlen := q714 hx
    obtain ⟨j, hj, hq, rfl⟩ := q713 hx
    have hq : p j = false := by cases h : p j with
      | false => rfl
      | true => rw [h] at hq; exact Bool.noConfusion hq
    have lt : geL j (itL c p) = latL c p j := ge_lat hq; refine ⟨iX (by show (0 : Int) ≤ (j : Int); omega) (by show (j : Int) < _; omega), iL (by rw [q20, List.length_map]; omega) (by omega), (hidW (ix c.Writes (j : Int)) (latL c p j), ()), q670 (c := c) hk (by omega) pl q1 (hk.pl _ (q93 (iX (by omega) (by omega)))) (by rw [lt]), iL (by rw [q20, List.length_map]; omega) (by omega), hrec _ (pairE rfl (pairE ?_ ?_))⟩
    · rw [List.map_append]; rfl
    · rw [List.map_append]; rfl
  · have e1 : ((itL c fun j => !p j).map fun x => ix c.Nodes x.1) = outN c p c.Writes.length := by unfold itL outN; rw [List.map_map]; rfl
    have e2 : ((itL c fun j => !p j).map fun x => hidW x.2.1 (latL c p x.1.toNat)) = outW c p c.Writes.length := by unfold itL outW; rw [List.map_map]; rfl
    show Φ (⟨c.Number + 1, c.Sizes, to, (itL c fun j => !p j).map fun x => ix c.Nodes x.1, (itL c fun j => !p j).map fun x => hidW x.2.1 (latL c p x.1.toNat)⟩, ⟨c.Number, c.Number + 1, t, to, canL (effM (selW c p c.Writes.length))⟩, 0); rw [e1, e2]; exact hΦ
def cov (es : List (Int × Int)) (i : Int) : Prop := ∃ e ∈ es, e.1 ≤ i ∧ i < e.1 + e.2
def orK {S R : Type} (a : S → Prop) (b : R → Prop) : S ⊕ R → Prop
 | .inl s => a s
 | .inr r => b r
def loopS {S R : Type} (step : S → Option (S ⊕ R)) : Nat → S → Option R
 | 0, _ => none
 | n + 1, s => match step s with
  | none => none
  | some (.inl s') => loopS step n s'
  | some (.inr r) => some r
theorem LoopW.of_S {S R : Type} {step : S → (S → Prop) → Prop} {stepS : S → Option (S ⊕ R)} {K : R → Prop} (hs : ∀ s q rec, stepS s = some q → orK rec K q → step s rec) : ∀ (n : Nat) (s : S) {o : R}, loopS stepS n s = some o → K o → LoopW step s := by
  intro n s o h hK; refine ⟨n, ?_⟩
  induction n generalizing s with
  | zero => cases h
  | succ n ih =>
    unfold loopS at h
    split at h
    · cases h
    · rename_i s' e
      exact hs s _ _ e (ih s' h)
    · rename_i r e
      cases h; exact hs s _ _ e hK
theorem ofBind {α β : Type} {x : Option α} {f : α → Option β} {o : β} (h : Option.bind x f = some o) : ∃ v, x = some v ∧ f v = some o := Option.bind_eq_some_iff.1 h
theorem ofIf {α : Type} {p : Prop} [Decidable p] {x : Option α} {o : α} (h : (if p then x else none) = some o) : p ∧ x = some o := by
  by_cases hp : p
  · rw [if_pos hp] at h; exact ⟨hp, h⟩
  · rw [if_neg hp] at h; cases h
theorem ofT {α : Type} {p : Prop} [Decidable p] {x y : Option α} {o : α} (hp : p) (h : (if p then x else y) = some o) : x = some o := by rw [if_pos hp] at h; exact h
theorem ofF {α : Type} {p : Prop} [Decidable p] {x y : Option α} {o : α} (hp : ¬ p) (h : (if p then x else y) = some o) : y = some o := by rw [if_neg hp] at h; exact h
theorem lfS {α : Type} {K : α → Prop} {a o : α} (h : some a = some o) (hK : K o) : K a := by
  cases h; exact hK
theorem adS {α : Type} {p : Prop} [Decidable p] {x : Option α} {o : α} {B : Prop} (h : (if p then x else none) = some o) (b : x = some o → B) : p ∧ B := ⟨(ofIf h).1, b (ofIf h).2⟩
theorem ifS {α : Type} {p : Prop} [Decidable p] {x y : Option α} {o : α} {A B : Prop} (h : (if p then x else y) = some o) (a : x = some o → A) (b : y = some o → B) : (p → A) ∧ (¬ p → B) := ⟨fun c => a (ofT c h), fun c => b (ofF c h)⟩
theorem blS {α β : Type} {x : Option α} {f : α → Option β} {o : β} {G : Prop} (h : Option.bind x f = some o) (k : ∀ v, x = some v → f v = some o → G) : G := by
  obtain ⟨v, h1, h2⟩ := ofBind h; exact k v h1 h2
instance decI (x : Int) : Decidable (inI x) := inferInstanceAs (Decidable (_ ∧ _))
instance decX (i : Int) (n : Nat) : Decidable (inX i n) := inferInstanceAs (Decidable (_ ∧ _))
instance decS (a b : Int) (n : Nat) : Decidable (inS a b n) := inferInstanceAs (Decidable (_ ∧ _))
instance decL (n b : Nat) : Decidable (lenOk n b) := inferInstanceAs (Decidable (_ ∧ _))
theorem sp3 {α : Type} {x : Int} {A B C : Option α} {o : α} {P Q R : Prop} (h : (if x = (0 : Int) then A else if x = (1 : Int) then B else if x = (2 : Int) then C else none) = some o) (a : A = some o → P) (b : B = some o → Q) (c : C = some o → R) : (x = (0 : Int) → P) ∧ (x = (1 : Int) → Q) ∧ (x = (2 : Int) → R) ∧ True :=
  ⟨fun e => a (by rw [if_pos e] at h; exact h), fun e => b (by rw [if_neg (by omega), if_pos e] at h; exact h), fun e => c (by rw [if_neg (by omega), if_neg (by omega), if_pos e] at h; exact h), trivial⟩
def Z156 (x0 : BitVec 64) (x1 : BitVec 64) : Option (BitVec 64 × BitVec 64) :=
 some ((((((x0 >>> ((32#64).toNat : Int).toNat) * (x1 >>> ((32#64).toNat : Int).toNat)) + ((((x0 >>> ((32#64).toNat : Int).toNat) * (x1 &&& (4294967295#64))) + (((x0 &&& (4294967295#64)) * (x1 &&& (4294967295#64))) >>> ((32#64).toNat : Int).toNat)) >>> ((32#64).toNat : Int).toNat)) + ((((((x0 >>> ((32#64).toNat : Int).toNat) * (x1 &&& (4294967295#64))) + (((x0 &&& (4294967295#64)) * (x1 &&& (4294967295#64))) >>> ((32#64).toNat : Int).toNat)) &&& (4294967295#64)) + ((x0 &&& (4294967295#64)) * (x1 >>> ((32#64).toNat : Int).toNat))) >>> ((32#64).toNat : Int).toNat)), (x0 * x1)))
theorem q174 (x0 : BitVec 64) (x1 : BitVec 64) {Φ : BitVec 64 × BitVec 64 → Prop} {o} (h : Z156 x0 x1 = some o) (hK : Φ o) : Z5 x0 x1 Φ := by
  unfold Z156 at h; unfold Z5; exact have t := lfS h hK; t
def Z157 (x0 : BitVec 64) (x1 : BitVec 64) : Option (BitVec 64 × BitVec 64) :=
 Option.bind (Z156 x0 x1) fun v1 =>
 some ((v1.1, v1.2))
theorem q205 (x0 : BitVec 64) (x1 : BitVec 64) {Φ : BitVec 64 × BitVec 64 → Prop} {o} (h : Z157 x0 x1 = some o) (hK : Φ o) : Z6 x0 x1 Φ := by
  unfold Z157 at h; unfold Z6; exact blS h fun _ hv h => q174 _ _ hv (have t := lfS h hK; t)
def Z158 : (Int × List Int) → Option ((Int × List Int) ⊕ (List Int))
 | (v3, v4) =>
  if v3 < (v4.length : Int) then
   if inS v3 (v4.length : Int) v4.length then
   if inS 0 v3 v4.length then
   if inI (v3 + ((min (sub v4 0 v3).length (v4.length - (v3 : Int).toNat) : Nat) : Int)) then
   some (.inl ((v3 + ((min (sub v4 0 v3).length (v4.length - (v3 : Int).toNat) : Nat) : Int)), (paste v4 v3 (sub v4 0 v3))))
   else none
   else none
   else none
  else
   some (.inr v4)
theorem q95 (s : Int × List Int) {Φ : List Int → Prop} {rec2 : (Int × List Int) → Prop} {o} (h : Z158 s = some o) (hK : (orK rec2 Φ) o) : Z7 Φ s rec2 := by
  obtain ⟨v3, v4⟩ := s; unfold Z158 at h; unfold Z7; exact ifS h (fun h => adS h fun h => adS h fun h => adS h fun h => have t := lfS h hK; t) fun h => have t := lfS h hK; t
def Z159 (x0 : List Int) (v1 : BitVec 64 × BitVec 64) : (Bool) → Option (List Int)
 | v2 =>
  if v2 = true then
   none
  else
   if 0 ≤ v1.2.toInt then
   if lenOk v1.2.toInt.toNat 8 then
   loopS (Z158) 100000 (((min x0.length ((List.replicate v1.2.toInt.toNat (0 : Int)).length - (0 : Int).toNat) : Nat) : Int), (paste (List.replicate v1.2.toInt.toNat (0 : Int)) 0 x0))
   else none
   else none
theorem q42 (x0 : List Int) (v1 : BitVec 64 × BitVec 64) (s : Bool) {Φ : List Int → Prop} {o} (h : Z159 x0 v1 s = some o) (hK : Φ o) : Z8 x0 v1 Φ s := by
  unfold Z159 at h; unfold Z8; exact ifS h (fun h => (by cases h)) fun h => adS h fun h => adS h fun h => LoopW.of_S (fun s q rec hs hq => q95 s hs hq) _ _ h hK
def Z160 (x0 : List Int) (x1 : Int) : Option (List Int) :=
 if x1 < 0 then
  none
 else
  Option.bind (Z157 (BitVec.ofInt 64 (x0.length : Int)) (BitVec.ofInt 64 x1)) fun v1 =>
  if (0#64) < v1.1 then
   Z159 x0 v1 true
  else
   Z159 x0 v1 (decide ((9223372036854775807#64) < v1.2))
theorem q55 (x0 : List Int) (x1 : Int) {Φ : List Int → Prop} {o} (h : Z160 x0 x1 = some o) (hK : Φ o) : Z9 x0 x1 Φ := by
  unfold Z160 at h; unfold Z9; exact ifS h (fun h => (by cases h)) fun h => blS h fun _ hv h => q205 _ _ hv (ifS h (fun h => q42 _ _ _ h hK) fun h => q42 _ _ _ h hK)
def Z161 (x0 : Int) (x1 : Int) (x2 : Int) : (Bool) → Option (q13 × Int)
 | v2 =>
  if v2 = true then
   some (((q13.mk 0 ([] : List q10) ([] : List Int) ([] : List Bool)), 2))
  else
   Option.bind (Z160 ([x2] : List Int) x0) fun z =>
   let v3 : List Int × Unit := (z, ())
   if 0 ≤ x0 then
   if lenOk x0.toNat 1 then
   some (((q13.mk x1 ([] : List q10) v3.1 (List.replicate x0.toNat (false : Bool))), 0))
   else none
   else none
theorem q47 (x0 : Int) (x1 : Int) (x2 : Int) (s : Bool) {Φ : q13 × Int → Prop} {o} (h : Z161 x0 x1 x2 s = some o) (hK : Φ o) : q144 x0 x1 x2 Φ s := by
  unfold Z161 at h; unfold q144; exact ifS h (fun h => have t := lfS h hK; t) fun h => blS h fun _ hv h => ⟨_, q55 _ _ hv rfl, adS h fun h => adS h fun h => have t := lfS h hK; t⟩
def Z162 (x0 : Int) (x1 : Int) (x2 : Int) : (Bool) → Option (q13 × Int)
 | v1 =>
  if v1 = true then
   some (((q13.mk 0 ([] : List q10) ([] : List Int) ([] : List Bool)), 6))
  else
   if x1 < 1 then
    Z161 x0 x1 x2 true
   else
    if 1024 < x1 then
     Z161 x0 x1 x2 true
    else
     if x2 < 0 then
      Z161 x0 x1 x2 true
     else
      Z161 x0 x1 x2 (decide (1073741824 < x2))
theorem q116 (x0 : Int) (x1 : Int) (x2 : Int) (s : Bool) {Φ : q13 × Int → Prop} {o} (h : Z162 x0 x1 x2 s = some o) (hK : Φ o) : q145 x0 x1 x2 Φ s := by
  unfold Z162 at h; unfold q145; exact ifS h (fun h => have t := lfS h hK; t) fun h => ifS h (fun h => q47 _ _ _ _ h hK) fun h => ifS h (fun h => q47 _ _ _ _ h hK) fun h => ifS h (fun h => q47 _ _ _ _ h hK) fun h => q47 _ _ _ _ h hK
def q261 (x0 : Int) (x1 : Int) (x2 : Int) : Option (q13 × Int) :=
 if x0 < 1 then
  Z162 x0 x1 x2 true
 else
  Z162 x0 x1 x2 (decide (4 < x0))
theorem q150 (x0 : Int) (x1 : Int) (x2 : Int) {Φ : q13 × Int → Prop} {o} (h : q261 x0 x1 x2 = some o) (hK : Φ o) : q91 x0 x1 x2 Φ := by
  unfold q261 at h; unfold q91; exact ifS h (fun h => q116 _ _ _ _ h hK) fun h => q116 _ _ _ _ h hK
def q233 : Option (List Int) :=
 Option.bind (Z160 ([4096] : List Int) 8) fun v1 =>
 some (v1)
theorem q251 {Φ : List Int → Prop} {o} (h : q233 = some o) (hK : Φ o) : q57 Φ := by
  unfold q233 at h; unfold q57; exact blS h fun _ hv h => q55 _ _ hv (have t := lfS h hK; t)
section
def mostF : List Int := [4096, 4096, 4096, 4096, 4096, 4096, 4096, 4096]
theorem q85 {Φ : List Int → Prop} (h : Φ mostF) : q57 Φ := q251 (o := mostF) (by kernel_rfl) h
structure q313 (c : q10) : Prop where
  pos : c.Positions.length ≤ 100000
  len : c.Writes.length ≤ 100000
  data : ∀ w ∈ c.Writes, w.Data.length ≤ 100000
  chk : cycE c mostF = 0
theorem q186 {l : List Bool} {Φ : List Bool → Prop} (hl : l.length ≤ 1000000) (hΦ : Φ l) : Z71 l Φ :=
  ⟨fun h => (by subst h; exact hΦ), iL hl (by omega), hΦ⟩
theorem q62 {c : q10} {Φ : q10 → Prop} (h : q313 c) (hΦ : Φ c) : Z73 c Φ := by
  have hp := h.pos; have hl := h.len; refine q19 (by omega) ⟨by omega, iL (by omega) (by omega), ?_⟩; refine LoopW.upT c.Writes.length (fun k => ((k : Int), c.Writes.take k)) rfl (fun k rec hk hr => ⟨fun _ => ⟨iX (by omega) (by omega), ?_⟩, fun q => absurd (show (k : Int) < (c.Writes.length : Int) by omega) q⟩) fun rec => ⟨fun q => absurd (show (c.Writes.length : Int) < (c.Writes.length : Int) from q) (by omega), fun _ => ?_⟩
  · refine q63 (by have := h.data _ (q93 (iX (i := (k : Int)) (by omega) (by omega))); omega) ⟨iL (by rw [q20, lenT (by omega)]; omega) (by omega), iI (by omega) (by omega), hr _ (pairE rfl ?_)⟩
    exact (q126 hk).symm
  · rw [q79]; exact hΦ
theorem q421 {f : q13} {Φ : q13 → Prop} (hk : ∀ c ∈ f.Kept, q313 c) (h1 : f.Kept.length ≤ 1000) (h2 : f.Applied.length ≤ 1000) (h3 : f.Lost.length ≤ 1000) (hΦ : Φ f) : Z75 f Φ := by
  refine ⟨(f.Applied, ()), q19 (by omega) rfl, (f.Lost, ()), q186 (by omega) rfl, ?_⟩; refine LoopW.upT f.Kept.length (fun k => ((k : Int), f.Kept.take k)) rfl (fun k rec hk' hr => ⟨fun _ => ⟨iX (by omega) (by omega), (ix f.Kept (k : Int), ()), q62 (hk _ (q93 (iX (by omega) (by omega)))) rfl, iL (by rw [q20, lenT (by omega)]; omega) (by omega), iI (by omega) (by omega), hr _ (pairE rfl (q126 hk').symm)⟩, fun q => absurd (show (k : Int) < (f.Kept.length : Int) by omega) q⟩) fun rec => ⟨fun q => absurd (show (f.Kept.length : Int) < (f.Kept.length : Int) from q) (by omega), fun _ => ?_⟩
  rw [q79]; exact hΦ
def oldS (a : List Int) (l : List Bool) : Nat → Int
  | 0 => -1
  | k + 1 => if ix l (k : Int) = true then oldS a l k else if oldS a l k < 0 then ix a (k : Int) else if ix a (k : Int) < oldS a l k then ix a (k : Int) else oldS a l k
theorem q422 {f : q13} {Φ : Int → Prop} (hl : f.Lost.length = f.Applied.length) (hn : f.Applied.length ≤ 1000) (hΦ : Φ (oldS f.Applied f.Lost f.Applied.length)) : Z64 f Φ := by
  refine LoopW.upT f.Applied.length (fun k => (oldS f.Applied f.Lost k, (k : Int))) rfl (fun k rec hk hr => ⟨fun _ => ⟨iX (by omega) (by omega), iX (by omega) (by omega), fun h => ?_, fun h => ⟨iI (by omega) (by omega), hr _ (pairE ?_ rfl)⟩⟩, fun q => absurd (show (k : Int) < (f.Applied.length : Int) by omega) q⟩) fun rec => ⟨fun q => absurd (show (f.Applied.length : Int) < (f.Applied.length : Int) from q) (by omega), fun _ => hΦ⟩
  · refine ⟨fun g => ⟨iI (by omega) (by omega), hr _ (pairE ?_ rfl)⟩, fun g => ⟨iI (by omega) (by omega), hr _ (pairE ?_ rfl)⟩⟩
    · show _ = oldS f.Applied f.Lost (k + 1)
      rw [oldS.eq_2, if_neg h, if_pos g]
    · show _ = oldS f.Applied f.Lost (k + 1)
      rw [oldS.eq_2, if_neg h, if_neg g]
  · show oldS f.Applied f.Lost k = oldS f.Applied f.Lost (k + 1)
    rw [oldS.eq_2, if_pos (Classical.not_not.1 h)]
structure OldS (n : Nat) (a : Nat → Nat) (l : Nat → Bool) (o : Int) : Prop where
  or : (o = -1 ∧ ∀ i, i < n → l i = true) ∨ ∃ i, i < n ∧ l i = false ∧ o = (a i : Int)
  le : ∀ i, i < n → l i = false → o ≤ (a i : Int)
theorem q423 {a : Nat → Nat} {l : Nat → Bool} {N : Nat} : ∀ n, n ≤ N → OldS n a l (oldS (tabL N fun i => (a i : Int)) (tabL N l) n)
  | 0, _ => ⟨.inl ⟨rfl, fun i hi => absurd hi (Nat.not_lt_zero i)⟩, fun i hi => absurd hi (Nat.not_lt_zero i)⟩
  | n + 1, hn => by
    have ih := q423 (a := a) (l := l) (N := N) n (by omega); rw [oldS.eq_2, q99 (show n < N by omega), q99 (show n < N by omega)]
    revert ih
    generalize oldS (tabL N fun i => (a i : Int)) (tabL N l) n = o; intro ih; by_cases h : l n = true
    · rw [if_pos h]
      refine ⟨?_, fun i hi q => ?_⟩
      · rcases ih.or with ⟨e, q⟩ | ⟨i, hi, q⟩
        · refine .inl ⟨e, fun i hi => ?_⟩
          by_cases e : i = n
          · rw [e]; exact h
          · exact q i (by omega)
        · exact .inr ⟨i, by omega, q⟩
      · by_cases e : i = n
        · rw [e, h] at q; cases q
        · exact ih.le i (by omega) q
    · rw [if_neg h]
      have hf : l n = false := by simpa using h
      by_cases g : o < 0
      · rw [if_pos g]
        have hall : ∀ i, i < n → l i = true := by
          rcases ih.or with ⟨_, q⟩ | ⟨i, _, _, q⟩
          · exact q
          · omega
        refine ⟨.inr ⟨n, by omega, hf, rfl⟩, fun i hi q => ?_⟩; by_cases e : i = n
        · rw [e]; omega
        · rw [hall i (by omega)] at q; cases q
      · rw [if_neg g]
        obtain ⟨i0, hi0, hq0, e0⟩ : ∃ i, i < n ∧ l i = false ∧ o = (a i : Int) := by
          rcases ih.or with ⟨q, _⟩ | q
          · omega
          · exact q
        by_cases g2 : (a n : Int) < o
        · rw [if_pos g2]
          refine ⟨.inr ⟨n, by omega, hf, rfl⟩, fun i hi q => ?_⟩; by_cases e : i = n
          · rw [e]; omega
          · have := ih.le i (by omega) q; omega
        · rw [if_neg g2]
          refine ⟨.inr ⟨i0, by omega, hq0, e0⟩, fun i hi q => ?_⟩; by_cases e : i = n
          · rw [e]; omega
          · exact ih.le i (by omega) q
def mxS (a : List Int) : Nat → Int
  | 0 => ix a 0
  | k + 1 => if mxS a k < ix a ((k + 1 : Nat) : Int) then ix a ((k + 1 : Nat) : Int) else mxS a k
theorem q234 {a : List Int} {Φ : Int → Prop} (h1 : 1 ≤ a.length) (hn : a.length ≤ 1000) (hΦ : Φ (mxS a (a.length - 1))) : Z57 a Φ := by
  refine ⟨fun q => absurd q (by omega), fun _ => ⟨iX (by omega) (by omega), ?_⟩⟩; refine LoopW.upT (a.length - 1) (fun k => (mxS a k, ((k + 1 : Nat) : Int))) rfl (fun k rec hk hr => ⟨fun _ => ⟨iX (by omega) (by omega), iI (by omega) (by omega), hr _ (pairE rfl rfl)⟩, fun q => absurd (show ((k + 1 : Nat) : Int) < (a.length : Int) by omega) q⟩) fun rec => ⟨fun q => absurd (show ((a.length - 1 + 1 : Nat) : Int) < (a.length : Int) from q) (by omega), fun _ => hΦ⟩
theorem q383 {a : Nat → Nat} {N : Nat} : ∀ n, n < N → (∃ i, i ≤ n ∧ mxS (tabL N fun i => (a i : Int)) n = (a i : Int)) ∧ ∀ i, i ≤ n → (a i : Int) ≤ mxS (tabL N fun i => (a i : Int)) n
  | 0, h => by
    have e : mxS (tabL N fun i => (a i : Int)) 0 = (a 0 : Int) := q99 h; rw [e]; exact ⟨⟨0, Nat.le_refl _, rfl⟩, fun i hi => by rw [Nat.le_zero.1 hi]; exact Int.le_refl _⟩
  | n + 1, h => by
    have ih := q383 (a := a) (N := N) n (by omega); rw [mxS.eq_2, q99 h]
    revert ih
    generalize mxS (tabL N fun i => (a i : Int)) n = o
    rintro ⟨⟨j, hj, ej⟩, hle⟩
    by_cases g : o < (a (n + 1) : Int)
    · rw [if_pos g]
      refine ⟨⟨n + 1, Nat.le_refl _, rfl⟩, fun i hi => ?_⟩; by_cases e : i = n + 1
      · rw [e]; omega
      · have := hle i (by omega); omega
    · rw [if_neg g]
      refine ⟨⟨j, by omega, ej⟩, fun i hi => ?_⟩; by_cases e : i = n + 1
      · rw [e]; omega
      · exact hle i (by omega)
def seg (Y : Nat → q10) (b n : Nat) : List q10 := tabL n fun k => Y (b + k)
def fanF (Y : Nat → q10) (b m : Nat) (a : Nat → Nat) (l : Nat → Bool) : q13 := ⟨3, seg Y b (m - b), tabL 3 fun i => (a i : Int), tabL 3 l⟩
structure CycY (Y : Nat → q10) (k : Nat) : Prop where
  base : (Y k).Base = (k : Int)
  num : (Y k).Number = (k : Int) + 1
  keep : q313 (Y k)
structure FanOk (Y : Nat → q10) (b m : Nat) (a : Nat → Nat) (l : Nat → Bool) : Prop where
  yb : ∀ k, b ≤ k → k < m → CycY Y k
  bm : b ≤ m
  len : m ≤ b + 3
  mx : m ≤ 1000
  le : ∀ i, i < 3 → a i ≤ m
  ge : ∀ i, i < 3 → l i = false → b ≤ a i
  low : b < m → ∃ i, i < 3 ∧ l i = false ∧ a i = b
  top : b = m → ∃ i, i < 3 ∧ a i = m
theorem q61 (Y : Nat → q10) (b n : Nat) : (seg Y b n).length = n := q25 _ _
theorem q197 {Y : Nat → q10} {b n k : Nat} (h : k < n) : ix (seg Y b n) (k : Int) = Y (b + k) := q99 h
theorem q613 {Y : Nat → q10} {b n : Nat} {c : q10} (h : c ∈ seg Y b n) : ∃ k, k < n ∧ c = Y (b + k) := by
  unfold seg tabL at h; obtain ⟨k, hk, e⟩ := List.mem_map.1 h; exact ⟨k, List.mem_range.1 hk, e.symm⟩
section
variable {Y : Nat → q10} {b m : Nat} {a : Nat → Nat} {l : Nat → Bool}
theorem FanOk.keep (h : FanOk Y b m a l) : ∀ c ∈ (fanF Y b m a l).Kept, q313 c := fun c hc => by
  obtain ⟨k, hk, rfl⟩ := q613 hc; exact (h.yb _ (by omega) (by omega)).keep
theorem FanOk.cpy (h : FanOk Y b m a l) {Φ : q13 → Prop} (hΦ : Φ (fanF Y b m a l)) : Z75 (fanF Y b m a l) Φ := by
  have := h.len; exact q421 h.keep (by show (seg Y b (m - b)).length ≤ 1000; rw [q61]; omega) (by show (tabL 3 _).length ≤ 1000; rw [q25]; omega) (by show (tabL 3 _).length ≤ 1000; rw [q25]; omega) hΦ
def oldF (a : Nat → Nat) (l : Nat → Bool) : Int := oldS (tabL 3 fun i => (a i : Int)) (tabL 3 l) 3
theorem q96 (a : Nat → Nat) (l : Nat → Bool) : OldS 3 a l (oldF a l) := q423 3 (Nat.le_refl _)
theorem q107 {L : Int} {K : List q10} {Φ : Int → Prop} (hΦ : Φ (oldF a l)) : Z64 ⟨L, K, tabL 3 fun i => (a i : Int), tabL 3 l⟩ Φ :=
  q422 (by show (tabL 3 _).length = (tabL 3 _).length; rw [q25, q25]) (by show (tabL 3 _).length ≤ 1000; rw [q25]; omega) (by show Φ (oldS _ _ (tabL 3 _).length); rw [q25]; exact hΦ)
theorem FanOk.newest (h : FanOk Y b m a l) {Φ : Int → Prop} (hΦ : Φ (m : Int)) : Z58 (fanF Y b m a l) Φ := by
  have hbm := h.bm; have hlen := h.len; have e : ((fanF Y b m a l).Kept.length : Int) = (m - b : Nat) := by show ((seg Y b (m - b)).length : Int) = _; rw [q61]
  refine ⟨fun q => ?_, fun q => ?_⟩
  · rw [e] at q ⊢
    refine ⟨iI (by omega) (by omega), iX (by omega) (by omega), ?_⟩; have e2 : ((m - b : Nat) : Int) - 1 = ((m - b - 1 : Nat) : Int) := by omega
    rw [e2]; show Φ ((ix (seg Y b (m - b)) _).Number); rw [q197 (by omega), (h.yb _ (by omega) (by omega)).num]; have e3 : ((b + (m - b - 1) : Nat) : Int) + 1 = (m : Int) := by omega
    rw [e3]; exact hΦ
  · rw [e] at q
    refine q234 (by show 1 ≤ (tabL 3 _).length; rw [q25]; omega) (by show (tabL 3 _).length ≤ 1000; rw [q25]; omega) ?_; show Φ (mxS (tabL 3 _) ((tabL 3 _).length - 1)); rw [q25]; obtain ⟨⟨j, hj, ej⟩, hle⟩ := q383 (a := a) (N := 3) 2 (by omega); obtain ⟨i, hi, ei⟩ := h.top (by omega); have h1 := h.le j (by omega); have h2 := hle i (by omega)
    have : mxS (tabL 3 fun i => (a i : Int)) (3 - 1) = (m : Int) := by
      show mxS (tabL 3 fun i => (a i : Int)) 2 = (m : Int)
      omega
    rw [this]; exact hΦ
theorem FanOk.numbered (h : FanOk Y b m a l) {n : Nat} {Φ : Bool → Prop} (hΦ : Φ (decide (b < n ∧ n ≤ m))) : Z60 (fanF Y b m a l) (n : Int) Φ := by
  have hbm := h.bm; have hlen := h.len; have e : ((fanF Y b m a l).Kept.length : Int) = (m - b : Nat) := by show ((seg Y b (m - b)).length : Int) = _; rw [q61]
  have el : (fanF Y b m a l).Kept.length = m - b := q61 _ _ _; refine LoopW.findI (m - b) (fun k => decide (b + k + 1 = n)) (fun k rec hk hn hr => ?_) fun rec hn => ?_
  · have en : (ix (fanF Y b m a l).Kept (k : Int)).Number = ((b + k : Nat) : Int) + 1 := by
      show (ix (seg Y b (m - b)) (k : Int)).Number = _; rw [q197 hk, (h.yb _ (by omega) (by omega)).num]
    refine ⟨fun _ => ⟨iX (by omega) (by omega), fun q => ?_, fun q => ⟨iI (by omega) (by omega), hr (decide_eq_false (by rw [en] at q; omega))⟩⟩, fun q => absurd (by omega) q⟩; rw [en] at q; rw [decide_eq_true (by omega : (0 : Int) ≤ (k : Int))]; rwa [decide_eq_true (by omega : b < n ∧ n ≤ m)] at hΦ
  · refine ⟨fun q => absurd q (by omega), fun _ => ?_⟩
    rw [decide_eq_false (by omega)]; rwa [decide_eq_false (fun q => by have := hn (n - b - 1) (by omega); simp at this; omega)] at hΦ
theorem FanOk.boundary (h : FanOk Y b m a l) {n : Nat} {Φ : Bool → Prop} (h1 : b ≤ n) (h2 : n ≤ m) (hΦ : Φ true) : Z61 (fanF Y b m a l) (n : Int) Φ := by
  have hbm := h.bm; have hlen := h.len; have e : ((fanF Y b m a l).Kept.length : Int) = (m - b : Nat) := by show ((seg Y b (m - b)).length : Int) = _; rw [q61]
  refine h.newest ⟨fun _ => hΦ, fun q => h.numbered ⟨fun _ => hΦ, fun g => ⟨fun r => ⟨iX (by omega) (by omega), ?_⟩, fun r => ?_⟩⟩⟩
  · have g : ¬ (b < n ∧ n ≤ m) := by simpa using g
    rw [decide_eq_true]
    · exact hΦ
    · show (ix (seg Y b (m - b)) ((0 : Nat) : Int)).Base = (n : Int)
      rw [q197 (by omega), (h.yb _ (by omega) (by omega)).base]; omega
  · have g : ¬ (b < n ∧ n ≤ m) := by simpa using g
    rw [e] at r; omega
end
end
section
section
variable {Y : Nat → q10} {b m : Nat} {a : Nat → Nat} {l : Nat → Bool}
theorem FanOk.klen (_ : FanOk Y b m a l) : (fanF Y b m a l).Kept.length = m - b := q61 _ _ _
theorem alen : (fanF Y b m a l).Applied.length = 3 := q25 _ _
theorem llen : (fanF Y b m a l).Lost.length = 3 := q25 _ _
theorem q424 {i : Nat} (h : i < 3) : ix (fanF Y b m a l).Applied (i : Int) = (a i : Int) := q99 h
theorem q454 {i : Nat} (h : i < 3) : ix (fanF Y b m a l).Lost (i : Int) = l i := q99 h
theorem FanOk.ix_kept (_ : FanOk Y b m a l) {k : Nat} (hk : k < m - b) : ix (fanF Y b m a l).Kept (k : Int) = Y (b + k) := q197 hk
theorem FanOk.old_base (h : FanOk Y b m a l) (hb : b < m) : oldF a l = (b : Int) := by
  obtain ⟨i, hi, q, e⟩ := h.low hb; have s := q96 a l; have h1 := s.le i hi q; rcases s.or with ⟨_, g⟩ | ⟨j, hj, qj, ej⟩
  · rw [g i hi] at q; cases q
  · have := h.ge j hj qj
    omega
theorem q235 {c : q10} {Φ : Int → Prop} (h : q313 c) (hΦ : Φ 0) : q46 c mostF Φ := by
  have h1 := h.pos; have h2 := h.len; exact q195 (by omega) (by omega) (fun w hw => by have := h.data w hw; omega) (by rw [h.chk]; exact hΦ)
theorem FanOk.check (h : FanOk Y b m a l) {Φ : Int → Prop} (hΦ : Φ 0) : Z70 (fanF Y b m a l) Φ := by
  have hbm := h.bm; have hlen := h.len; have hmx := h.mx; have ek := h.klen; have ea := alen (Y := Y) (b := b) (m := m) (a := a) (l := l); have el := llen (Y := Y) (b := b) (m := m) (a := a) (l := l); refine ⟨fun q => absurd q (by rw [ea]; omega), fun _ => ⟨fun q => absurd q (by rw [ea]; omega), fun _ => ?_⟩⟩; rw [decide_eq_false (by rw [ea, el]; simp)]; refine ⟨fun q => absurd q (by simp), fun _ => ⟨fun q => absurd (show (3 : Int) < 1 from q) (by omega), fun _ => ⟨fun q => absurd (show (1024 : Int) < 3 from q) (by omega), fun _ => ?_⟩⟩⟩; refine LoopW.upT 3 (fun k => (k : Int)) rfl (fun k rec hk hr => ⟨fun _ => ⟨iX (by omega) (by rw [ea]; omega), ?_⟩, fun q => absurd (show (k : Int) < ((fanF Y b m a l).Applied.length : Int) by rw [ea]; omega) q⟩) fun rec => ⟨fun q => absurd (show (3 : Int) < ((fanF Y b m a l).Applied.length : Int) from q) (by rw [ea]; omega), fun _ => ?_⟩
  · have := h.le k hk
    rw [q424 hk]; refine ⟨fun _ => ?_, fun q => absurd (show (0 : Int) ≤ (a k : Int) by omega) q⟩; rw [decide_eq_true (show (a k : Int) ≤ 1073741824 by omega)]; exact ⟨fun q => absurd rfl q, fun _ => ⟨iI (by omega) (by omega), hr _ rfl⟩⟩
  refine ⟨fun q => absurd q (by simp), fun _ => ⟨fun q => absurd (show (3 : Int) < ((fanF Y b m a l).Kept.length : Int) from q) (by rw [ek]; omega), fun _ => q85 ?_⟩⟩; refine LoopW.upT (m - b) (fun k => (k : Int)) rfl (fun k rec hk hr => ⟨fun _ => ⟨iX (by omega) (by rw [ek]; omega), ?_⟩, fun q => absurd (show (k : Int) < ((fanF Y b m a l).Kept.length : Int) by rw [ek]; omega) q⟩) fun rec => ⟨fun q => absurd (show ((m - b : Nat) : Int) < ((fanF Y b m a l).Kept.length : Int) from q) (by rw [ek]; omega), fun _ => ?_⟩
  · have yk := h.yb (b + k) (by omega) (by omega)
    rw [h.ix_kept hk]; refine q235 yk.keep ⟨fun q => absurd rfl q, fun _ => ⟨fun q => ⟨iI (by omega) (by omega), iX (by omega) (by rw [ek]; omega), fun r => ?_, fun _ => ⟨iI (by omega) (by omega), hr _ rfl⟩⟩, fun _ => ⟨iI (by omega) (by omega), hr _ rfl⟩⟩⟩; have e : (k : Int) - 1 = ((k - 1 : Nat) : Int) := by omega
    rw [e, h.ix_kept (by omega), yk.base, (h.yb (b + (k - 1)) (by omega) (by omega)).num] at r; omega
  refine LoopW.upT 3 (fun k => (k : Int)) rfl (fun k rec hk hr => ⟨fun _ => ⟨iX (by omega) (by rw [ea]; omega), h.newest ?_⟩, fun q => absurd (show (k : Int) < ((fanF Y b m a l).Applied.length : Int) by rw [ea]; omega) q⟩) fun rec => ⟨fun q => absurd (show (3 : Int) < ((fanF Y b m a l).Applied.length : Int) from q) (by rw [ea]; omega), fun _ => ?_⟩
  · have h1 := h.le k hk
    rw [q424 hk]; refine ⟨fun q => absurd q (by omega), fun _ => ⟨iX (by omega) (by rw [el]; omega), fun q => ?_, fun _ => ⟨iI (by omega) (by omega), hr _ rfl⟩⟩⟩; rw [q454 hk] at q; have q : l k = false := by simpa using q
    exact h.boundary (h.ge k hk q) h1 ⟨fun r => absurd rfl r, fun _ => ⟨iI (by omega) (by omega), hr _ rfl⟩⟩
  · refine ⟨fun q => ⟨(oldF a l, ()), q107 rfl, iX (by omega) q, fun r => ?_, fun _ => hΦ⟩, fun _ => hΦ⟩
    rw [ek] at q; have e : ix (fanF Y b m a l).Kept 0 = Y b := h.ix_kept (k := 0) (by omega); rw [e, (h.yb b (by omega) (by omega)).base] at r; exact absurd (h.old_base (by omega)) r
theorem FanOk.exi (h : FanOk Y b m a l) {t : Nat} (ht : t < 3) {Φ : Int → Prop} (hΦ : Φ 0) : Z84 (fanF Y b m a l) (t : Int) Φ := by
  have ea := alen (Y := Y) (b := b) (m := m) (a := a) (l := l); exact h.check ⟨fun q => absurd rfl q, fun _ => ⟨fun q => absurd q (by omega), fun _ => ⟨fun q => absurd q (by rw [ea]; omega), fun _ => hΦ⟩⟩⟩
theorem FanOk.oldest (h : FanOk Y b m a l) {Φ : Int → Prop} (hΦ : Φ (oldF a l)) : Z104 (fanF Y b m a l) Φ :=
  h.check ⟨fun q => absurd rfl q, fun _ => q107 hΦ⟩
def cycZ : q10 := ⟨0, 0, 0, [], []⟩
theorem FanOk.next (h : FanOk Y b m a l) {t : Nat} (ht : t < 3) {Φ : q10 × Bool → Prop} (h0 : l t = true ∨ m ≤ a t → Φ (cycZ, false)) (h1 : l t = false → a t < m → Φ (Y (a t), true)) : q75 (fanF Y b m a l) (t : Int) Φ := by
  have hbm := h.bm; have hlen := h.len; have ek := h.klen; have ea := alen (Y := Y) (b := b) (m := m) (a := a) (l := l); have el := llen (Y := Y) (b := b) (m := m) (a := a) (l := l); refine h.exi ht ⟨fun q => absurd rfl q, fun _ => ⟨iX (by omega) (by rw [el]; omega), ?_⟩⟩; rw [q454 ht]; refine ⟨fun q => h0 (.inl q), fun q => ?_⟩; have q : l t = false := by simpa using q
  have hg := h.ge t ht q; refine LoopW.upI (m - b) (fun k => (k : Int)) (fun k => b + k ≤ a t) rfl hg (fun k rec hk hI hr => ?_) fun rec hI => ?_
  · have yk := h.yb (b + k) (by omega) (by omega)
    refine ⟨fun _ => ⟨iX (by omega) (by rw [ek]; omega), iX (by omega) (by rw [ea]; omega), fun r => ?_, fun r => ?_⟩, fun r => absurd (show (k : Int) < ((fanF Y b m a l).Kept.length : Int) by rw [ek]; omega) r⟩
    · rw [q424 ht, h.ix_kept hk, yk.num] at r
      have e : b + k = a t := by omega
      rw [h.ix_kept hk]; refine q62 yk.keep ?_; rw [e]; exact h1 q (by omega)
    · rw [q424 ht, h.ix_kept hk, yk.num] at r
      exact ⟨iI (by omega) (by omega), hr (by omega) _ rfl⟩
  · refine ⟨fun r => absurd (show ((m - b : Nat) : Int) < ((fanF Y b m a l).Kept.length : Int) from r) (by rw [ek]; omega), fun _ => h0 (.inr (by omega))⟩
theorem q455 {Y : Nat → q10} {b n k : Nat} (h : k ≤ n) : sub (seg Y b n) (k : Int) (n : Int) = seg Y (b + k) (n - k) := by
  refine q260 (by unfold sub; rw [List.length_take, List.length_drop, q61, q61]; omega) fun i hi => ?_; have hl : (sub (seg Y b n) (k : Int) (n : Int)).length = n - k := by unfold sub; rw [List.length_take, List.length_drop, q61]; omega
  rw [hl] at hi; rw [q197 hi, q502]; unfold sub; have e1 : ((k : Int)).toNat = k := by omega
  have e2 : ((n : Int) - (k : Int)).toNat = n - k := by omega
  rw [e1, e2, List.getD_eq_getElem?_getD, List.getElem?_take_of_lt hi, List.getElem?_drop, ← List.getD_eq_getElem?_getD, ← q502, q197 (by omega), Nat.add_assoc]
theorem tidy_ok {L : Int} {a : Nat → Nat} {l : Nat → Bool} {b n : Nat} {Φ : q13 → Prop} (hn : n ≤ 1000) (hy : ∀ k, k < n → (Y (b + k)).Number = ((b + k : Nat) : Int) + 1)
    (h0 : oldF a l = -1 → Φ ⟨L, [], tabL 3 fun i => (a i : Int), tabL 3 l⟩) (h1 : ∀ o : Nat, oldF a l = (o : Int) → b ≤ o ∧ o ≤ b + n ∧ Φ ⟨L, seg Y o (b + n - o), tabL 3 fun i => (a i : Int), tabL 3 l⟩) : q39 ⟨L, seg Y b n, tabL 3 fun i => (a i : Int), tabL 3 l⟩ Φ := by
  have el : (seg Y b n).length = n := q61 _ _ _
  have fin : ∀ k : Nat, k ≤ n → Φ ⟨L, seg Y (b + k) (n - k), tabL 3 fun i => (a i : Int), tabL 3 l⟩ → Z88 ⟨L, seg Y b n, tabL 3 fun i => (a i : Int), tabL 3 l⟩ Φ (k : Int) := fun k hk hΦ => by
    refine ⟨iS (by omega) (by show (k : Int) ≤ ((seg Y b n).length : Int); rw [el]; omega) (Int.le_refl _), ?_⟩; show Φ ⟨L, sub (seg Y b n) (k : Int) ((seg Y b n).length : Int), _, _⟩; rw [el, q455 hk]; exact hΦ
  have s := q96 a l; refine q107 ?_; rcases s.or with ⟨e, hall⟩ | ⟨j, hj, qj, ej⟩
  · rw [e]
    refine LoopW.upT n (fun k => (k : Int)) rfl (fun k rec hk hr => ⟨fun _ => ⟨iX (by omega) (by rw [el]; omega), fun q => absurd q (by omega), fun _ => ⟨fun q => absurd q (by simp), fun _ => ⟨iI (by omega) (by omega), hr _ rfl⟩⟩⟩, fun q => absurd (show (k : Int) < ((seg Y b n).length : Int) by rw [el]; omega) q⟩) fun rec => ⟨fun q => absurd (show (n : Int) < ((seg Y b n).length : Int) from q) (by rw [el]; omega), fun _ => ⟨fun _ => ?_, fun q => absurd (show (-1 : Int) < 0 by omega) q⟩⟩
    show Z88 _ Φ ((seg Y b n).length : Int); rw [el]; refine fin n (Nat.le_refl _) ?_; rw [Nat.sub_self]; exact h0 e
  · obtain ⟨g1, g2, g3⟩ := h1 (a j) ej
    rw [ej]; generalize a j = o at g1 g2 g3; have fo : Z88 ⟨L, seg Y b n, tabL 3 fun i => (a i : Int), tabL 3 l⟩ Φ ((o - b : Nat) : Int) := fin (o - b) (by omega) (by rw [show b + (o - b) = o by omega, show n - (o - b) = b + n - o by omega]; exact g3); refine LoopW.upI n (fun k => (k : Int)) (fun k => b + k ≤ o) rfl (by omega) (fun k rec hk hI hr => ⟨fun _ => ⟨iX (by omega) (by rw [el]; omega), fun _ => ?_, fun q => absurd (show (0 : Int) ≤ (o : Int) by omega) q⟩, fun q => absurd (show (k : Int) < ((seg Y b n).length : Int) by rw [el]; omega) q⟩) fun rec hI => ⟨fun q => absurd (show (n : Int) < ((seg Y b n).length : Int) from q) (by rw [el]; omega), fun _ => ⟨fun _ => ?_, fun q => absurd (show (-1 : Int) < 0 by omega) q⟩⟩
    · have e : (ix (seg Y b n) (k : Int)).Number = ((b + k : Nat) : Int) + 1 := by rw [q197 hk]; exact hy k hk
      show Z90 _ (k : Int) rec Φ (decide ((o : Int) < (ix (seg Y b n) (k : Int)).Number)); rw [e]; by_cases c : o = b + k
      · rw [decide_eq_true (by omega)]
        refine ⟨fun _ => ⟨fun q => absurd q (by omega), fun _ => ?_⟩, fun q => absurd rfl q⟩; rw [show ((k : Nat) : Int) = ((o - b : Nat) : Int) by omega]; exact fo
      · rw [decide_eq_false (by omega)]
        exact ⟨fun q => absurd q (by simp), fun _ => ⟨iI (by omega) (by omega), hr (by omega) _ rfl⟩⟩
    · show Z88 _ Φ ((seg Y b n).length : Int)
      rw [el, show (n : Int) = ((o - b : Nat) : Int) by omega]; exact fo
end
end
section
def setF {α : Type} (f : Nat → α) (t : Nat) (x : α) : Nat → α := fun i => if i = t then x else f i
theorem q236 {α : Type} (f : Nat → α) (t : Nat) (x : α) : setF f t x t = x := if_pos rfl
theorem q384 {α : Type} (f : Nat → α) {t i : Nat} (x : α) (h : i ≠ t) : setF f t x i = f i := if_neg h
theorem q674 {α : Type} [Dt α] {n t : Nat} {f : Nat → α} {x : α} (h : t < n) : put (tabL n f) (t : Int) x = tabL n (setF f t x) := q312 h (q236 f t x) fun _ _ hi => q384 f x hi
theorem q675 {n t : Nat} {f : Nat → Nat} {x : Nat} (h : t < n) : put (tabL n fun i => (f i : Int)) (t : Int) (x : Int) = tabL n fun i => ((setF f t x i : Nat) : Int) :=
  q312 h (by show ((setF f t x t : Nat) : Int) = _; rw [q236]) fun i _ hi => by show ((setF f t x i : Nat) : Int) = _; rw [q384 f x hi]
theorem q614 (a : Nat → Nat) : ∃ M, (∃ i, i < 3 ∧ a i = M) ∧ ∀ i, i < 3 → a i ≤ M := by
  obtain ⟨⟨j, hj, ej⟩, hle⟩ := q383 (a := a) (N := 3) 2 (by omega); exact ⟨a j, ⟨j, by omega, rfl⟩, fun i hi => by have := hle i (by omega); omega⟩
section
variable {Y : Nat → q10} {b m : Nat} {a : Nat → Nat} {l : Nat → Bool}
theorem q515 {m : Nat} (hall : ∀ i, i < 3 → l i = true) (le : ∀ i, i < 3 → a i ≤ m) (mx : m ≤ 1000) : ∃ M, M ≤ m ∧ FanOk Y M M a l := by
  obtain ⟨M, ⟨i, hi, ei⟩, hM⟩ := q614 a; have := le i hi; exact ⟨M, by omega, ⟨fun k h1 h2 => absurd h1 (by omega), Nat.le_refl _, by omega, by omega, hM, fun j hj q => (by rw [hall j hj] at q; cases q), fun q => absurd q (by omega), fun _ => ⟨i, hi, ei⟩⟩⟩
theorem fan_nil (Y : Nat → q10) (M : Nat) (a : Nat → Nat) (l : Nat → Bool) : fanF Y M M a l = ⟨3, [], tabL 3 fun i => (a i : Int), tabL 3 l⟩ := by
  unfold fanF seg; rw [Nat.sub_self]; rfl
theorem q615 {o : Nat} (yb : ∀ k, b ≤ k → k < m → CycY Y k) (mx : m ≤ 1000) (le : ∀ i, i < 3 → a i ≤ m) (ge : ∀ i, i < 3 → l i = false → b ≤ a i) (e : oldF a l = (o : Int)) (hl : m ≤ o + 3) : b ≤ o ∧ o ≤ m ∧ FanOk Y o m a l := by
  have s := q96 a l; rcases s.or with ⟨q, _⟩ | ⟨j, hj, qj, ej⟩
  · omega
  · have h1 := le j hj
    have h2 := ge j hj qj; exact ⟨by omega, by omega, ⟨fun k h1 h2 => yb k (by omega) h2, by omega, hl, mx, le, fun i hi q => by have := s.le i hi q; omega, fun _ => ⟨j, hj, qj, by omega⟩, fun _ => ⟨j, hj, by omega⟩⟩⟩
theorem q528 {o : Nat} (e : oldF a l = (o : Int)) : ∃ i, i < 3 ∧ l i = false := by
  rcases (q96 a l).or with ⟨q, _⟩ | ⟨j, hj, qj, _⟩
  · omega
  · exact ⟨j, hj, qj⟩
theorem q237 (e : oldF a l = -1) : ∀ i, i < 3 → l i = true := by
  rcases (q96 a l).or with ⟨_, q⟩ | ⟨j, hj, qj, ej⟩
  · exact q
  · omega
theorem q314 (a : Nat → Nat) (l : Nat → Bool) : oldF a l = -1 ∨ ∃ o : Nat, oldF a l = (o : Int) := by
  rcases (q96 a l).or with ⟨e, _⟩ | ⟨j, _, _, ej⟩
  · exact .inl e
  · exact .inr ⟨_, ej⟩
theorem q676 (yb : ∀ k, b ≤ k → k < m → CycY Y k) (bm : b ≤ m) (mx : m ≤ 1000) (le : ∀ i, i < 3 → a i ≤ m) (ge : ∀ i, i < 3 → l i = false → b ≤ a i) (hlen : m ≤ b + 3) {Φ : q13 → Prop}
    (hΦ : ∀ b' m', FanOk Y b' m' a l → m' ≤ m → ((∃ i, i < 3 ∧ l i = false) → m' = m) → Φ (fanF Y b' m' a l)) : q39 ⟨3, seg Y b (m - b), tabL 3 fun i => (a i : Int), tabL 3 l⟩ Φ := by
  refine tidy_ok (by omega) (fun k hk => (yb _ (by omega) (by omega)).num) (fun e => ?_) fun o e => ?_
  · obtain ⟨M, h1, h2⟩ := q515 (Y := Y) (q237 e) le mx
    have := hΦ M M h2 h1 fun ⟨i, hi, q⟩ => by rw [q237 e i hi] at q; cases q
    rwa [fan_nil] at this
  · have s := q96 a l
    have hb : b ≤ o := by
      rcases s.or with ⟨q, _⟩ | ⟨j, hj, qj, ej⟩
      · omega
      · have := ge j hj qj; omega
    obtain ⟨h1, h2, h3⟩ := q615 yb mx le ge e (by omega); refine ⟨h1, by omega, ?_⟩; rw [show b + (m - b) - o = m - o by omega]; exact hΦ o m h3 (Nat.le_refl _) fun _ => rfl
theorem FanOk.applied (h : FanOk Y b m a l) {t : Nat} (ht : t < 3) (hl : l t = false) (ha : a t < m) {Φ : q13 × Int → Prop} (hΦ : ∀ b', FanOk Y b' m (setF a t (a t + 1)) l → Φ (fanF Y b' m (setF a t (a t + 1)) l, 0)) : Z93 (fanF Y b m a l) (t : Int) ((a t + 1 : Nat) : Int) Φ := by
  have hbm := h.bm; have hlen := h.len; have hg := h.ge t ht hl; have ea := alen (Y := Y) (b := b) (m := m) (a := a) (l := l); have el := llen (Y := Y) (b := b) (m := m) (a := a) (l := l); refine h.exi ht ⟨fun q => absurd rfl q, fun _ => ⟨iX (by omega) (by rw [el]; omega), fun q => ?_, fun _ => ⟨iX (by omega) (by rw [ea]; omega), fun q => ?_, fun _ => ?_⟩⟩⟩
  · rw [q454 ht, hl] at q; cases q
  · rw [q424 ht] at q; omega
  · have fin : Z92 (fanF Y b m a l) (t : Int) ((a t + 1 : Nat) : Int) Φ false := by
      refine ⟨fun q => absurd q (by simp), fun _ => h.cpy ⟨iX (by omega) (by rw [ea]; omega), ?_⟩⟩; show q39 ⟨3, seg Y b (m - b), put (tabL 3 fun i => (a i : Int)) (t : Int) ((a t + 1 : Nat) : Int), tabL 3 l⟩ _; rw [q675 ht]; refine q676 h.yb hbm h.mx (fun i hi => ?_) (fun i hi q => ?_) hlen fun b' m' h1 h2 h3 => ?_
      · by_cases e : i = t
        · rw [e, q236]; omega
        · rw [q384 _ _ e]; exact h.le i hi
      · by_cases e : i = t
        · rw [e, q236]; omega
        · rw [q384 _ _ e]; exact h.ge i hi q
      · obtain rfl := h3 ⟨t, ht, hl⟩
        exact hΦ b' h1
    refine ⟨iX (by omega) (by rw [ea]; omega), fun _ => h.numbered ?_, fun _ => fin⟩; rw [decide_eq_true (by omega : b < a t + 1 ∧ a t + 1 ≤ m), decide_eq_false (by simp)]; exact fin
end
end
section
theorem q516 (Y : Nat → q10) (b n : Nat) : seg Y b n ++ [Y (b + n)] = seg Y b (n + 1) := (q277 n fun k => Y (b + k)).symm
section
variable {Y : Nat → q10} {b m : Nat} {a : Nat → Nat} {l : Nat → Bool}
abbrev StP := Int × List q10 × List Int × List Int × List Bool
theorem q425 {L : Int} {n : Nat} {A v15 : List Int} {B : List Bool} {o : Int} {rec1 : StP → Prop} {Φ : q13 × List Int × Int → Prop} (hn : n ≤ 1000) (hy : ∀ k, k < n → (Y (b + k)).Number = ((b + k : Nat) : Int) + 1)
    (h0 : o = -1 → rec1 (L, [], A, v15, B)) (h1 : ∀ q : Nat, o = (q : Int) → b ≤ q ∧ q ≤ b + n ∧ rec1 (L, seg Y q (b + n - q), A, v15, B)) (ho : o = -1 ∨ ∃ q : Nat, o = (q : Int)) : LoopW (Z81 L (seg Y b n) A rec1 v15 B o Φ) 0 := by
  have el : (seg Y b n).length = n := q61 _ _ _
  have fin : ∀ k : Nat, k ≤ n → rec1 (L, seg Y (b + k) (n - k), A, v15, B) → Z78 L (seg Y b n) A rec1 v15 B Φ (k : Int) := fun k hk hΦ => by
    refine ⟨iS (by omega) (by rw [el]; omega) (Int.le_refl _), ?_⟩; rw [el, q455 hk]; exact hΦ
  rcases ho with e | ⟨o', e⟩
  · subst e
    refine LoopW.upT n (fun k => (k : Int)) rfl (fun k rec hk hr => ⟨fun _ => ⟨iX (by omega) (by rw [el]; omega), fun q => absurd q (by omega), fun _ => ⟨fun q => absurd q (by simp), fun _ => ⟨iI (by omega) (by omega), hr _ rfl⟩⟩⟩, fun q => absurd (show (k : Int) < ((seg Y b n).length : Int) by rw [el]; omega) q⟩) fun rec => ⟨fun q => absurd (show (n : Int) < ((seg Y b n).length : Int) from q) (by rw [el]; omega), fun _ => ⟨fun _ => ?_, fun q => absurd (show (-1 : Int) < 0 by omega) q⟩⟩
    show Z78 L (seg Y b n) A rec1 v15 B Φ ((seg Y b n).length : Int); rw [el]; refine fin n (Nat.le_refl _) ?_; rw [Nat.sub_self]; exact h0 rfl
  · obtain ⟨g1, g2, g3⟩ := h1 o' e
    subst e; have fo : Z78 L (seg Y b n) A rec1 v15 B Φ ((o' - b : Nat) : Int) := fin (o' - b) (by omega) (by rw [show b + (o' - b) = o' by omega, show n - (o' - b) = b + n - o' by omega]; exact g3); refine LoopW.upI n (fun k => (k : Int)) (fun k => b + k ≤ o') rfl (by omega) (fun k rec hk hI hr => ⟨fun _ => ⟨iX (by omega) (by rw [el]; omega), fun _ => ?_, fun q => absurd (show (0 : Int) ≤ (o' : Int) by omega) q⟩, fun q => absurd (show (k : Int) < ((seg Y b n).length : Int) by rw [el]; omega) q⟩) fun rec hI => ⟨fun q => absurd (show (n : Int) < ((seg Y b n).length : Int) from q) (by rw [el]; omega), fun _ => ⟨fun _ => ?_, fun q => absurd (show (-1 : Int) < 0 by omega) q⟩⟩
    · have e : (ix (seg Y b n) (k : Int)).Number = ((b + k : Nat) : Int) + 1 := by rw [q197 hk]; exact hy k hk
      show Z80 L (seg Y b n) A rec1 v15 B (k : Int) rec Φ (decide ((o' : Int) < (ix (seg Y b n) (k : Int)).Number)); rw [e]; by_cases c : o' = b + k
      · rw [decide_eq_true (by omega)]
        refine ⟨fun _ => ⟨fun q => absurd q (by omega), fun _ => ?_⟩, fun q => absurd rfl q⟩; rw [show ((k : Nat) : Int) = ((o' - b : Nat) : Int) by omega]; exact fo
      · rw [decide_eq_false (by omega)]
        exact ⟨fun q => absurd q (by simp), fun _ => ⟨iI (by omega) (by omega), hr (by omega) _ rfl⟩⟩
    · show Z78 L (seg Y b n) A rec1 v15 B Φ ((seg Y b n).length : Int)
      rw [el, show (n : Int) = ((o' - b : Nat) : Int) by omega]; exact fo
def losF (a : Nat → Nat) (l : Nat → Bool) (b : Nat) (k : Nat) : Nat → Bool := fun i => if i < k ∧ a i = b then true else l i
def losL (a : Nat → Nat) (l : Nat → Bool) (b : Nat) (k : Nat) : List Int := ((List.range k).filter fun i => decide (a i = b) && !l i).map fun i : Nat => (i : Int)
theorem q517 (a : Nat → Nat) (l : Nat → Bool) (b k : Nat) : (losL a l b k).length ≤ k := by
  unfold losL; rw [List.length_map]; have := q600 (fun i => decide (a i = b) && !l i) (List.range k); rwa [List.length_range] at this
theorem q426 (a : Nat → Nat) (l : Nat → Bool) (b k : Nat) : losL a l b (k + 1) = losL a l b k ++ if (decide (a k = b) && !l k) = true then [(k : Int)] else [] := by
  unfold losL; rw [q248, List.map_append]; by_cases h : (decide (a k = b) && !l k) = true
  · rw [if_pos h, if_pos h]; rfl
  · rw [if_neg h, if_neg h]; rfl
theorem q616 {L : Int} {K : List q10} {rec1 : StP → Prop} {Φ : q13 × List Int × Int → Prop}
    (h : LoopW (Z81 L K (tabL 3 fun i => (a i : Int)) rec1 (losL a l b 3) (tabL 3 (losF a l b 3)) (oldF a (losF a l b 3)) Φ) 0) : LoopW (Z82 L K (tabL 3 fun i => (a i : Int)) rec1 (b : Int) Φ) (0, [], tabL 3 l) := by
  have ea : (tabL 3 fun i => (a i : Int)).length = 3 := q25 _ _; have eB : ∀ k, (tabL 3 (losF a l b k)).length = 3 := fun k => q25 _ _; refine LoopW.upT 3 (fun k => ((k : Int), losL a l b k, tabL 3 (losF a l b k))) ?_ (fun k rec hk hr => ⟨fun _ => ⟨iX (by omega) (by rw [ea]; omega), ?_⟩, fun q => absurd (show (k : Int) < ((tabL 3 fun i => (a i : Int)).length : Int) by rw [ea]; omega) q⟩) fun rec => ⟨fun q => absurd (show (3 : Int) < ((tabL 3 fun i => (a i : Int)).length : Int) from q) (by rw [ea]; omega), fun _ => q107 h⟩
  · refine pairE rfl (pairE rfl (q94 fun i _ => ?_))
    unfold losF; rw [if_neg (by omega)]
  · have lk : losF a l b k k = l k := by unfold losF; rw [if_neg (by omega)]
    have stay : ¬ (a k = b ∧ l k = false) → rec ((k : Int) + 1, losL a l b k, tabL 3 (losF a l b k)) := fun q => hr _ (pairE rfl (pairE (by
      rw [q426, if_neg (by simpa using q), List.append_nil]) (q94 fun i _ => by
      unfold losF; by_cases e : i = k
      · subst e
        by_cases g : a i = b
        · rw [if_neg (by omega), if_pos ⟨by omega, g⟩]
          cases hl : l i with
          | true => rfl
          | false => exact absurd ⟨g, hl⟩ q
        · rw [if_neg (by omega), if_neg (by omega)]
      · by_cases g : i < k ∧ a i = b
        · rw [if_pos g, if_pos ⟨by omega, g.2⟩]
        · rw [if_neg g, if_neg (by omega)])))
    have no : Z77 (k : Int) (losL a l b k) (tabL 3 (losF a l b k)) rec Φ false ↔ (inI ((k : Int) + 1) ∧ rec ((k : Int) + 1, losL a l b k, tabL 3 (losF a l b k))) := ⟨fun q => q.2 (by simp), fun q => ⟨fun r => absurd r (by simp), fun _ => q⟩⟩
    refine ⟨fun q => ⟨iX (by omega) (by rw [eB]; omega), ?_⟩, fun q => no.2 ⟨iI (by omega) (by omega), stay fun r => q (by rw [q99 hk, r.1])⟩⟩; rw [q99 hk] at q; rw [q99 hk, lk]; cases hl : l k with
    | true =>
      rw [decide_eq_false (by simp)]; exact no.2 ⟨iI (by omega) (by omega), stay fun r => by rw [hl] at r; cases r.2⟩
    | false =>
      rw [decide_eq_true (by simp)]; have hc : (decide (a k = b) && !l k) = true := by rw [hl, decide_eq_true (by omega)]; rfl
      refine ⟨fun _ => ⟨iX (by omega) (by rw [eB]; omega), iL (by rw [q20]; have := q517 a l b k; omega) (by omega), iI (by omega) (by omega), hr _ (pairE rfl (pairE (by rw [q426, if_pos hc]) ?_))⟩, fun r => absurd rfl r⟩; rw [q674 hk]; refine q94 fun i _ => ?_; unfold setF losF; by_cases e : i = k
      · subst e
        rw [if_pos rfl, if_pos ⟨by omega, by omega⟩]
      · rw [if_neg e]
        by_cases g : i < k ∧ a i = b
        · rw [if_pos g, if_pos ⟨by omega, g.2⟩]
        · rw [if_neg g, if_neg (by omega)]
theorem q617 {L : List Int} {Φ : List Int → Prop} (h : L.length ≤ 1000) (hΦ : ∀ q, Φ q) : Z76 L Φ := ⟨by omega, hΦ _⟩
theorem FanOk.push (h : FanOk Y b m a l) (hy : CycY Y m) (hm : m + 1 ≤ 1000) {Φ : q13 × List Int × Int → Prop} (h0 : (∀ i, i < 3 → l i = true) → ∀ f q, Φ (f, q, 17))
    (hΦ : ∀ b' m' l' q, FanOk Y b' m' a l' → m' ≤ m + 1 → ((∃ i, i < 3 ∧ l' i = false) → m' = m + 1) → (m + 1 ≤ b + 3 → b' = b ∧ l' = l) → Φ (fanF Y b' m' a l', q, 0)) : q74 (fanF Y b m a l) (Y m) Φ := by
  have hbm := h.bm; have hlen := h.len; have ea : (tabL 3 fun i => (a i : Int)).length = 3 := q25 _ _; refine h.check ⟨fun q => absurd rfl q, fun _ => q107 ⟨fun q => ?_, fun q => ?_⟩⟩
  · rcases q314 a l with e | ⟨o, e⟩
    · exact h0 (q237 e) _ _
    · omega
  · obtain ⟨o, e⟩ := (q314 a l).resolve_left (by omega)
    refine ⟨(mostF, ()), q85 rfl, (0, ()), q235 hy.keep rfl, fun r => absurd rfl r, fun _ => ⟨((m : Int), ()), h.newest rfl, fun r => absurd hy.base r, fun _ => h.cpy ⟨(Y m, ()), q62 hy.keep rfl, iL (by rw [q20, h.klen]; omega) (by omega), ?_⟩⟩⟩
    have es : seg Y b (m - b) ++ [Y m] = seg Y b (m + 1 - b) := by
      have := q516 Y b (m - b); rwa [show b + (m - b) = m by omega, show m - b + 1 = m + 1 - b by omega] at this
    show LoopW (Z83 Φ) (3, seg Y b (m - b) ++ [Y m], tabL 3 fun i => (a i : Int), [], tabL 3 l); rw [es]
    have yb2 : ∀ k, b ≤ k → k < m + 1 → CycY Y k := fun k h1 h2 => by
      rcases Nat.lt_or_ge k m with g | g
      · exact h.yb k h1 g
      · obtain rfl : k = m := by omega
        exact hy
    have le2 : ∀ i, i < 3 → a i ≤ m + 1 := fun i hi => by have := h.le i hi; omega
    have done : ∀ {b' m' : Nat} {l' : Nat → Bool} {v : List Int} {rec1 : StP → Prop}, v.length ≤ 3 → FanOk Y b' m' a l' → m' ≤ m + 1 → ((∃ i, i < 3 ∧ l' i = false) → m' = m + 1) → (m + 1 ≤ b + 3 → b' = b ∧ l' = l) → Z83 Φ (3, seg Y b' (m' - b'), tabL 3 fun i => (a i : Int), v, tabL 3 l') rec1 := fun hv hf h1 h2 h3 => by
      have := hf.len; exact ⟨fun r => absurd r (by rw [q61]; omega), fun _ => q617 (by omega) fun q => hΦ _ _ _ q hf h1 h2 h3⟩
    by_cases hs : m + 1 ≤ b + 3
    · -- nothing falls behind
      have hf : FanOk Y b (m + 1) a l := by
        refine ⟨yb2, by omega, hs, hm, le2, h.ge, fun _ => ?_, fun r => absurd r (by omega)⟩; rcases Nat.lt_or_ge b m with g | g
        · exact h.low g
        · obtain ⟨i, hi, qi⟩ := q528 e
          have h1 := h.le i hi; have h2 := h.ge i hi qi; exact ⟨i, hi, qi, by omega⟩
      exact LoopW.upT 0 (fun _ => (3, seg Y b (m + 1 - b), tabL 3 fun i => (a i : Int), [], tabL 3 l)) rfl (fun k _ hk => absurd hk (Nat.not_lt_zero k)) fun rec => done (by simp) hf (Nat.le_refl _) (fun _ => rfl) fun _ => ⟨rfl, rfl⟩
    · -- the oldest are lost
      have eo : oldF a l = (b : Int) := h.old_base (by omega)
      have key : ∀ {b' m' : Nat}, (m' ≤ m + 1) → FanOk Y b' m' a (losF a l b 3) → ((∃ i, i < 3 ∧ losF a l b 3 i = false) → m' = m + 1) → (∀ rec1 : StP → Prop, rec1 (3, seg Y b' (m' - b'), tabL 3 fun i => (a i : Int), losL a l b 3, tabL 3 (losF a l b 3)) → LoopW (Z81 3 (seg Y b (m + 1 - b)) (tabL 3 fun i => (a i : Int)) rec1 (losL a l b 3) (tabL 3 (losF a l b 3)) (oldF a (losF a l b 3)) Φ) 0) → LoopW (Z83 Φ) (3, seg Y b (m + 1 - b), tabL 3 fun i => (a i : Int), [], tabL 3 l) := fun {b' m'} h1 hf h2 h3 =>
        LoopW.upT 1 (fun k => if k = 0 then (3, seg Y b (m + 1 - b), tabL 3 fun i => (a i : Int), [], tabL 3 l) else (3, seg Y b' (m' - b'), tabL 3 fun i => (a i : Int), losL a l b 3, tabL 3 (losF a l b 3))) rfl (fun k rec hk hr => by
          obtain rfl : k = 0 := by omega
          refine ⟨fun _ => q107 ?_, fun r => absurd (show (3 : Int) < ((seg Y b (m + 1 - b)).length : Int) by rw [q61]; omega) r⟩; rw [eo]
          exact q616 (h3 rec (hr _ rfl))) fun rec => done (q517 a l b 3) hf h1 h2 fun hh => absurd hh hs
      have ge3 : ∀ i, i < 3 → losF a l b 3 i = false → b + 1 ≤ a i := fun i hi r => by
        unfold losF at r; by_cases g : i < 3 ∧ a i = b
        · rw [if_pos g] at r; cases r
        · rw [if_neg g] at r
          have := h.ge i hi r; omega
      have nums : ∀ k, k < m + 1 - b → (Y (b + k)).Number = ((b + k : Nat) : Int) + 1 := fun k hk => (yb2 _ (by omega) (by omega)).num; rcases q314 a (losF a l b 3) with eo2 | ⟨o2, eo2⟩
      · obtain ⟨M, h1, h2⟩ := q515 (Y := Y) (q237 eo2) le2 hm
        refine key h1 h2 (fun ⟨i, hi, r⟩ => by rw [q237 eo2 i hi] at r; cases r) fun rec1 hr => q425 (by omega) nums (fun _ => ?_) (fun q r => absurd (eo2.symm.trans r) (by omega)) (.inl eo2); rwa [Nat.sub_self] at hr
      · have s := q96 a (losF a l b 3)
        have hb2 : b + 1 ≤ o2 := by
          rcases s.or with ⟨r, _⟩ | ⟨j, hj, qj, ej⟩
          · omega
          · have := ge3 j hj qj; omega
        obtain ⟨h1, h2, h3⟩ := q615 (b := b) (m := m + 1) yb2 hm le2 (fun i hi r => by have := ge3 i hi r; omega) eo2 (by omega); refine key (Nat.le_refl _) h3 (fun _ => rfl) fun rec1 hr => q425 (by omega) nums (fun r => absurd (eo2.symm.trans r) (by omega)) (fun q r => ?_) (.inr ⟨_, eo2⟩); obtain rfl : q = o2 := by have := eo2.symm.trans r; omega
        refine ⟨h1, by omega, ?_⟩; rwa [show b + (m + 1 - b) - q = m + 1 - q by omega]
end
end
section
def cyW (k : Nat) : q10 := ⟨(k : Int), (k : Int) + 1, 0, [], []⟩
theorem q198 {k : Nat} (h : k ≤ 1000) : CycY cyW k :=
  ⟨rfl, rfl, ⟨by show (0 : Nat) ≤ _; omega, by show (0 : Nat) ≤ _; omega, (fun _ hw => by cases hw), by
    unfold cycE; rw [if_neg (show ¬ q28 mostF ≠ 0 by decide), if_neg (show ¬ ((cyW k).Base < 0 ∨ (cyW k).Number ≤ (cyW k).Base ∨ 1073741824 < (cyW k).Number) from show ¬ ((k : Int) < 0 ∨ (k : Int) + 1 ≤ (k : Int) ∨ 1073741824 < (k : Int) + 1) by omega), if_neg (show ¬ ((cyW k).Time < 0 ∨ 1073741824 < (cyW k).Time) from show ¬ ((0 : Int) < 0 ∨ (1073741824 : Int) < 0) by omega)]
    rfl⟩⟩
def fan1 (a m : Nat) : q13 := ⟨64, seg cyW a (m - a), [(a : Int)], [false]⟩
section
variable {a m : Nat}
theorem q128 (a m : Nat) : (fan1 a m).Kept.length = m - a := q61 _ _ _
theorem f1_ix {k : Nat} (hk : k < m - a) : ix (fan1 a m).Kept (k : Int) = cyW (a + k) := q197 hk
theorem q618 {L : Int} {K : List q10} {Φ : Int → Prop} (hΦ : Φ (a : Int)) : Z64 ⟨L, K, [(a : Int)], [false]⟩ Φ :=
  q422 rfl (show (1 : Nat) ≤ 1000 by omega) hΦ
theorem q619 (h : a ≤ m) (hm : m ≤ 1000) {Φ : Int → Prop} (hΦ : Φ (m : Int)) : Z58 (fan1 a m) Φ := by
  have e : ((fan1 a m).Kept.length : Int) = (m - a : Nat) := by rw [q128]
  refine ⟨fun q => ?_, fun q => ?_⟩
  · rw [e] at q ⊢
    refine ⟨iI (by omega) (by omega), iX (by omega) (by rw [q128]; omega), ?_⟩; have e2 : ((m - a : Nat) : Int) - 1 = ((m - a - 1 : Nat) : Int) := by omega
    rw [e2, f1_ix (by omega), (q198 (by omega)).num]; have e3 : ((a + (m - a - 1) : Nat) : Int) + 1 = (m : Int) := by omega
    rw [e3]; exact hΦ
  · rw [e] at q
    refine q234 (show 1 ≤ 1 by omega) (show 1 ≤ 1000 by omega) ?_; show Φ (a : Int); rw [show a = m by omega]; exact hΦ
theorem q315 (h : a ≤ m) (hm : m ≤ 1000) {n : Nat} {Φ : Bool → Prop} (hΦ : Φ (decide (a < n ∧ n ≤ m))) : Z60 (fan1 a m) (n : Int) Φ := by
  have e : ((fan1 a m).Kept.length : Int) = (m - a : Nat) := by rw [q128]
  refine LoopW.findI (m - a) (fun k => decide (a + k + 1 = n)) (fun k rec hk hn hr => ?_) fun rec hn => ?_
  · have en : (ix (fan1 a m).Kept (k : Int)).Number = ((a + k : Nat) : Int) + 1 := by
      rw [f1_ix hk, (q198 (by omega)).num]
    refine ⟨fun _ => ⟨iX (by omega) (by rw [q128]; omega), fun q => ?_, fun q => ⟨iI (by omega) (by omega), hr (decide_eq_false (by rw [en] at q; omega))⟩⟩, fun q => absurd (by omega) q⟩; rw [en] at q; rw [decide_eq_true (by omega : (0 : Int) ≤ (k : Int))]; rwa [decide_eq_true (by omega : a < n ∧ n ≤ m)] at hΦ
  · refine ⟨fun q => absurd q (by omega), fun _ => ?_⟩
    rw [decide_eq_false (by omega)]; rwa [decide_eq_false (fun q => by have := hn (n - a - 1) (by omega); simp at this; omega)] at hΦ
theorem q456 (h : a ≤ m) (hm : m ≤ 1000) {n : Nat} {Φ : Bool → Prop} (h1 : a ≤ n) (h2 : n ≤ m) (hΦ : Φ true) : Z61 (fan1 a m) (n : Int) Φ := by
  have e : ((fan1 a m).Kept.length : Int) = (m - a : Nat) := by rw [q128]
  refine q619 h hm ⟨fun _ => hΦ, fun q => q315 h hm ⟨fun _ => hΦ, fun g => ⟨fun r => ⟨iX (by omega) (by rw [q128]; omega), ?_⟩, fun r => ?_⟩⟩⟩
  · have g : ¬ (a < n ∧ n ≤ m) := by simpa using g
    rw [decide_eq_true]
    · exact hΦ
    · show (ix (fan1 a m).Kept ((0 : Nat) : Int)).Base = (n : Int)
      rw [f1_ix (by omega), (q198 (by omega)).base]; omega
  · have g : ¬ (a < n ∧ n ≤ m) := by simpa using g
    rw [e] at r; omega
theorem q620 (hm : m ≤ 1000) {Φ : q13 → Prop} (hΦ : Φ (fan1 a m)) : Z75 (fan1 a m) Φ :=
  q421 (fun c hc => by
    obtain ⟨k, hk, rfl⟩ := q613 hc
    exact (q198 (by omega)).keep) (by rw [q128]; omega) (show 1 ≤ 1000 by omega) (show 1 ≤ 1000 by omega) hΦ
theorem q518 (h : a ≤ m) (hlen : m ≤ a + 64) (hm : m ≤ 1000) {Φ : Int → Prop} (hΦ : Φ 0) : Z70 (fan1 a m) Φ := by
  have ek := q128 a m; have ix0 : ix (fan1 a m).Applied ((0 : Nat) : Int) = (a : Int) := rfl; have ix1 : ix (fan1 a m).Lost ((0 : Nat) : Int) = false := rfl; refine ⟨fun q => absurd (show (1 : Int) < 1 from q) (by omega), fun _ => ⟨fun q => absurd (show (4 : Int) < 1 from q) (by omega), fun _ => ?_⟩⟩; rw [decide_eq_false (show ¬ (((fan1 a m).Lost.length : Int) ≠ ((fan1 a m).Applied.length : Int)) from fun q => q rfl)]; refine ⟨fun q => absurd q (by simp), fun _ => ⟨fun q => absurd (show (64 : Int) < 1 from q) (by omega), fun _ => ⟨fun q => absurd (show (1024 : Int) < 64 from q) (by omega), fun _ => ?_⟩⟩⟩; refine LoopW.upT 1 (fun k => (k : Int)) rfl (fun k rec hk hr => ⟨fun _ => ⟨iX (by omega) (show (k : Int) < ((1 : Nat) : Int) by omega), ?_⟩, fun q => absurd (show (k : Int) < 1 by omega) q⟩) fun rec => ⟨fun q => absurd (show (1 : Int) < 1 from q) (by omega), fun _ => ?_⟩
  · obtain rfl : k = 0 := by omega
    rw [ix0]; refine ⟨fun _ => ?_, fun q => absurd (show (0 : Int) ≤ (a : Int) by omega) q⟩; rw [decide_eq_true (show (a : Int) ≤ 1073741824 by omega)]; exact ⟨fun q => absurd rfl q, fun _ => ⟨iI (by omega) (by omega), hr _ rfl⟩⟩
  refine ⟨fun q => absurd q (by simp), fun _ => ⟨fun q => absurd (show (64 : Int) < ((fan1 a m).Kept.length : Int) from q) (by rw [ek]; omega), fun _ => q85 ?_⟩⟩; refine LoopW.upT (m - a) (fun k => (k : Int)) rfl (fun k rec hk hr => ⟨fun _ => ⟨iX (by omega) (by rw [ek]; omega), ?_⟩, fun q => absurd (show (k : Int) < ((fan1 a m).Kept.length : Int) by rw [ek]; omega) q⟩) fun rec => ⟨fun q => absurd (show ((m - a : Nat) : Int) < ((fan1 a m).Kept.length : Int) from q) (by rw [ek]; omega), fun _ => ?_⟩
  · have yk := q198 (k := a + k) (by omega)
    rw [f1_ix hk]; refine q235 yk.keep ⟨fun q => absurd rfl q, fun _ => ⟨fun q => ⟨iI (by omega) (by omega), iX (by omega) (by rw [ek]; omega), fun r => ?_, fun _ => ⟨iI (by omega) (by omega), hr _ rfl⟩⟩, fun _ => ⟨iI (by omega) (by omega), hr _ rfl⟩⟩⟩; have e : (k : Int) - 1 = ((k - 1 : Nat) : Int) := by omega
    rw [e, f1_ix (by omega), yk.base, (q198 (k := a + (k - 1)) (by omega)).num] at r; omega
  refine LoopW.upT 1 (fun k => (k : Int)) rfl (fun k rec hk hr => ⟨fun _ => ⟨iX (by omega) (show (k : Int) < ((1 : Nat) : Int) by omega), q619 h hm ?_⟩, fun q => absurd (show (k : Int) < 1 by omega) q⟩) fun rec => ⟨fun q => absurd (show (1 : Int) < 1 from q) (by omega), fun _ => ?_⟩
  · obtain rfl : k = 0 := by omega
    rw [ix0]; refine ⟨fun q => absurd q (by omega), fun _ => ⟨iX (by omega) (show (0 : Int) < ((1 : Nat) : Int) by omega), fun q => ?_, fun _ => ⟨iI (by omega) (by omega), hr _ rfl⟩⟩⟩; exact q456 h hm (Nat.le_refl _) h ⟨fun r => absurd rfl r, fun _ => ⟨iI (by omega) (by omega), hr _ rfl⟩⟩
  · refine ⟨fun q => ⟨((a : Int), ()), q618 rfl, iX (by omega) q, fun r => ?_, fun _ => hΦ⟩, fun _ => hΦ⟩
    rw [ek] at q; have e : ix (fan1 a m).Kept 0 = cyW a := f1_ix (k := 0) (by omega); rw [e, (q198 (k := a) (by omega)).base] at r; exact absurd rfl r
theorem q715 (h : a ≤ m) (hlen : m ≤ a + 64) (hm : m ≤ 1000) {Φ : Int → Prop} (hΦ : Φ 0) : Z84 (fan1 a m) 0 Φ :=
  q518 h hlen hm ⟨fun q => absurd rfl q, fun _ => ⟨fun q => absurd q (by omega), fun _ => ⟨fun q => absurd (show (1 : Int) ≤ 0 from q) (by omega), fun _ => hΦ⟩⟩⟩
theorem f1_next (h : a < m) (hlen : m ≤ a + 64) (hm : m ≤ 1000) {Φ : q10 × Bool → Prop} (hΦ : Φ (cyW a, true)) : q75 (fan1 a m) 0 Φ := by
  have ek := q128 a m; refine q715 (by omega) hlen hm ⟨fun q => absurd rfl q, fun _ => ⟨iX (by omega) (show (0 : Int) < ((1 : Nat) : Int) by omega), fun q => (by cases q), fun _ => ?_⟩⟩; refine LoopW.upT 0 (fun k => (k : Int)) rfl (fun k _ hk => absurd hk (Nat.not_lt_zero k)) fun rec => ⟨fun _ => ⟨iX (by omega) (by rw [ek]; omega), iX (by omega) (show (0 : Int) < ((1 : Nat) : Int) by omega), fun r => ?_, fun r => ?_⟩, fun r => absurd (show (0 : Int) < ((fan1 a m).Kept.length : Int) by rw [ek]; omega) r⟩
  · have e : ix (fan1 a m).Kept ((0 : Nat) : Int) = cyW a := f1_ix (k := 0) (by omega)
    rw [e]; exact q62 (q198 (by omega)).keep hΦ
  · have e : ix (fan1 a m).Kept ((0 : Nat) : Int) = cyW a := f1_ix (k := 0) (by omega)
    rw [e, (q198 (k := a) (by omega)).num] at r; exact absurd (show (a : Int) < (a : Int) + 1 by omega) r
theorem f1_tidy {n : Nat} (h1 : a ≤ n) (h2 : n ≤ m) (hm : m ≤ 1000) {Φ : q13 → Prop} (hΦ : Φ (fan1 n m)) : q39 ⟨64, seg cyW a (m - a), [(n : Int)], [false]⟩ Φ := by
  have el : (seg cyW a (m - a)).length = m - a := q61 _ _ _
  have fo : Z88 ⟨64, seg cyW a (m - a), [(n : Int)], [false]⟩ Φ ((n - a : Nat) : Int) := by
    refine ⟨iS (by omega) (by show ((n - a : Nat) : Int) ≤ ((seg cyW a (m - a)).length : Int); rw [el]; omega) (Int.le_refl _), ?_⟩; show Φ ⟨64, sub (seg cyW a (m - a)) ((n - a : Nat) : Int) ((seg cyW a (m - a)).length : Int), _, _⟩; rw [el, q455 (by omega), show a + (n - a) = n by omega, show m - a - (n - a) = m - n by omega]; exact hΦ
  refine q618 ?_; refine LoopW.upI (m - a) (fun k => (k : Int)) (fun k => a + k ≤ n) rfl (by omega) (fun k rec hk hI hr => ⟨fun _ => ⟨iX (by omega) (by rw [el]; omega), fun _ => ?_, fun q => absurd (show (0 : Int) ≤ (n : Int) by omega) q⟩, fun q => absurd (show (k : Int) < ((seg cyW a (m - a)).length : Int) by rw [el]; omega) q⟩) fun rec hI => ⟨fun q => absurd (show ((m - a : Nat) : Int) < ((seg cyW a (m - a)).length : Int) from q) (by rw [el]; omega), fun _ => ⟨fun _ => ?_, fun q => absurd (show (-1 : Int) < 0 by omega) q⟩⟩
  · have e : (ix (seg cyW a (m - a)) (k : Int)).Number = ((a + k : Nat) : Int) + 1 := by rw [q197 hk]; rfl
    show Z90 _ (k : Int) rec Φ (decide ((n : Int) < (ix (seg cyW a (m - a)) (k : Int)).Number)); rw [e]; by_cases c : n = a + k
    · rw [decide_eq_true (by omega)]
      refine ⟨fun _ => ⟨fun q => absurd q (by omega), fun _ => ?_⟩, fun q => absurd rfl q⟩; rw [show ((k : Nat) : Int) = ((n - a : Nat) : Int) by omega]; exact fo
    · rw [decide_eq_false (by omega)]
      exact ⟨fun q => absurd q (by simp), fun _ => ⟨iI (by omega) (by omega), hr (by omega) _ rfl⟩⟩
  · show Z88 _ Φ ((seg cyW a (m - a)).length : Int)
    rw [el, show ((m - a : Nat) : Int) = ((n - a : Nat) : Int) by omega]; exact fo
theorem q529 {n : Nat} (h : a ≤ m) (hlen : m ≤ a + 64) (hm : m ≤ 1000) (h1 : a ≤ n) (h2 : n ≤ m) {Φ : q13 × Int → Prop} (hΦ : Φ (fan1 n m, 0)) : Z93 (fan1 a m) 0 (n : Int) Φ := by
  have ix0 : ix (fan1 a m).Applied 0 = (a : Int) := rfl; refine q715 h hlen hm ⟨fun q => absurd rfl q, fun _ => ⟨iX (by omega) (show (0 : Int) < ((1 : Nat) : Int) by omega), fun q => (by cases q), fun _ => ⟨iX (by omega) (show (0 : Int) < ((1 : Nat) : Int) by omega), fun q => ?_, fun _ => ?_⟩⟩⟩
  · rw [ix0] at q; omega
  · have fin : Z92 (fan1 a m) 0 (n : Int) Φ false := by
      refine ⟨fun q => absurd q (by simp), fun _ => q620 hm ⟨iX (by omega) (show (0 : Int) < ((1 : Nat) : Int) by omega), ?_⟩⟩; show q39 ⟨64, seg cyW a (m - a), [(n : Int)], [false]⟩ _; exact f1_tidy h1 h2 hm hΦ
    refine ⟨iX (by omega) (show (0 : Int) < ((1 : Nat) : Int) by omega), fun q => ?_, fun _ => fin⟩; rw [ix0] at q; refine q315 h hm ?_; rw [decide_eq_true (by omega : a < n ∧ n ≤ m), decide_eq_false (by simp)]; exact fin
theorem f1_push (h : a ≤ m) (hlen : m + 1 ≤ a + 64) (hm : m + 1 ≤ 1000) {Φ : q13 × List Int × Int → Prop} (hΦ : ∀ q, Φ (fan1 a (m + 1), q, 0)) : q74 (fan1 a m) (cyW m) Φ := by
  have hy := q198 (k := m) (by omega); refine q518 h (by omega) (by omega) ⟨fun q => absurd rfl q, fun _ => q618 ⟨fun q => absurd q (by omega), fun q => ?_⟩⟩; refine ⟨(mostF, ()), q85 rfl, (0, ()), q235 hy.keep rfl, fun r => absurd rfl r, fun _ => ⟨((m : Int), ()), q619 h (by omega) rfl, fun r => absurd hy.base r, fun _ => q620 (by omega) ⟨(cyW m, ()), q62 hy.keep rfl, iL (by rw [q20, q128]; omega) (by omega), ?_⟩⟩⟩
  have es : seg cyW a (m - a) ++ [cyW m] = seg cyW a (m + 1 - a) := by
    have := q516 cyW a (m - a); rwa [show a + (m - a) = m by omega, show m - a + 1 = m + 1 - a by omega] at this
  show LoopW (Z83 Φ) (64, seg cyW a (m - a) ++ [cyW m], [(a : Int)], [], [false]); rw [es]; exact LoopW.upT 0 (fun _ => (64, seg cyW a (m + 1 - a), [(a : Int)], [], [false])) rfl (fun k _ hk => absurd hk (Nat.not_lt_zero k)) fun rec => ⟨fun r => absurd (show (64 : Int) < ((seg cyW a (m + 1 - a)).length : Int) from r) (by rw [q61]; omega), fun _ => q617 (show (0 : Nat) ≤ 1000 by omega) fun q => hΦ q⟩
end
end
theorem q316 {n : Nat} {Φ : Bool → Prop} (h : n ≤ 1000) (hΦ : Φ true) : q40 (n : Int) Φ :=
  ⟨fun _ => by rw [decide_eq_true (show (n : Int) ≤ 1073741824 by omega)]; exact hΦ, fun q => absurd (show (0 : Int) ≤ (n : Int) by omega) q⟩
theorem q677 {Φ : Bool → Prop} (hΦ : Φ true) : q40 1 Φ := q316 (n := 1) (by omega) hΦ
theorem q519 {Φ : Bool → Prop} (hΦ : Φ true) : q104 2 Φ := ⟨fun _ => hΦ, fun q => absurd (show (0 : Int) ≤ 2 by omega) q⟩
theorem q385 {n : Nat} {Φ : Bool → Prop} (h : n ≤ 1000) (hΦ : Φ true) : Z120 1 2 (n : Int) Φ :=
  q316 (n := 1) (by omega) ⟨fun _ => q519 ⟨fun _ => q316 h hΦ, fun q => absurd rfl q⟩, fun q => absurd rfl q⟩
def offL (a n : Nat) : List Int := tabL (n - a) fun k => ((a + k : Nat) : Int) + 1
theorem q175 (a n : Nat) : (offL a n).length = n - a := q25 _ _
theorem q346 {a n k : Nat} (h : k < n - a) : ix (offL a n) (k : Int) = ((a + k : Nat) : Int) + 1 := q99 h
theorem q678 {a n : Nat} (h : a ≤ n) : offL a n ++ [(n : Int) + 1] = offL a (n + 1) := by
  have := (q277 (n - a) fun k => ((a + k : Nat) : Int) + 1).symm; unfold offL; rw [show n + 1 - a = n - a + 1 by omega, ← this, show a + (n - a) = n by omega]
theorem off_sub {a n w : Nat} (h1 : a < w) (h2 : w ≤ n) : sub (offL a n) (((w - a - 1 : Nat) : Int) + 1) ((offL a n).length : Int) = offL w n := by
  have hl : (sub (offL a n) (((w - a - 1 : Nat) : Int) + 1) ((offL a n).length : Int)).length = n - w := by
    unfold sub; rw [List.length_take, List.length_drop, q175]; omega
  refine q260 (by rw [hl, q175]) fun i hi => ?_; rw [hl] at hi; rw [q346 hi, q502]; unfold sub; have e1 : (((w - a - 1 : Nat) : Int) + 1).toNat = w - a := by omega
  have e2 : (((offL a n).length : Int) - (((w - a - 1 : Nat) : Int) + 1)).toNat = n - w := by rw [q175]; omega
  rw [e1, e2, List.getD_eq_getElem?_getD, List.getElem?_take_of_lt hi, List.getElem?_drop, ← List.getD_eq_getElem?_getD, ← q502, q346 (by omega), show a + (w - a + i) = w + i by omega]
theorem q621 {a n w : Nat} {Φ : Int → Prop} (hn : n ≤ 1000) (h1 : a < w → w ≤ n → Φ ((w - a - 1 : Nat) : Int)) (h0 : ¬ (a < w ∧ w ≤ n) → Φ (-1)) : Z124 (offL a n) (w : Int) Φ := by
  have el := q175 a n; refine LoopW.findI (n - a) (fun k => decide (a + k + 1 = w)) (fun k rec hk hn hr => ?_) fun rec hn => ?_
  · refine ⟨fun _ => ⟨iX (by omega) (by omega), fun q => ?_, fun q => ⟨iI (by omega) (by omega), hr (decide_eq_false (by rw [q346 hk] at q; omega))⟩⟩, fun q => absurd (by omega) q⟩
    rw [q346 hk] at q; have e : (k : Int) = ((w - a - 1 : Nat) : Int) := by omega
    rw [e]; exact h1 (by omega) (by omega)
  · exact ⟨fun q => absurd q (by omega), fun _ => h0 fun q => by have := hn (w - a - 1) (by omega); simp at this; omega⟩
theorem q622 {a n w : Nat} {Φ : Bool → Prop} (hn : n ≤ 1000) (hΦ : Φ (decide (a < w ∧ w ≤ n))) : Z125 (offL a n) (w : Int) Φ := by
  refine q621 hn (fun h1 h2 => ?_) fun h => ?_
  · rw [decide_eq_true (by omega : (0 : Int) ≤ ((w - a - 1 : Nat) : Int))]
    rwa [decide_eq_true (by omega : a < w ∧ w ≤ n)] at hΦ
  · rw [decide_eq_false (by omega : ¬ (0 : Int) ≤ -1)]
    rwa [decide_eq_false h] at hΦ
def srcS (a b n : Nat) : q15 := ⟨1, 2, offL a n, (b : Int), (a : Int)⟩
def tgtS (ts ta : Nat) : q14 := ⟨1, 2, (ts : Int), (ta : Int)⟩
theorem q238 {a b n : Nat} (h1 : a ≤ b) (h2 : b ≤ n) (hn : n ≤ 1000) {Φ : Int → Prop} (hΦ : Φ 0) : Z127 (srcS a b n) Φ := by
  have el := q175 a n; refine q385 (n := a) (by omega) ⟨fun q => absurd rfl q, fun _ => ⟨fun q => absurd (show (1024 : Int) < ((offL a n).length : Int) from q) (by omega), fun _ => ?_⟩⟩; refine LoopW.upT (n - a) (fun k => (((a + k : Nat) : Int), (k : Int))) rfl (fun k rec hk hr => ⟨fun _ => ⟨iX (by omega) (by show (k : Int) < ((offL a n).length : Int); omega), ?_⟩, fun q => absurd (show (k : Int) < ((offL a n).length : Int) by omega) q⟩) fun rec => ⟨fun q => absurd (show ((n - a : Nat) : Int) < ((offL a n).length : Int) from q) (by omega), fun _ => ?_⟩
  · have e : ix (srcS a b n).Offered (k : Int) = ((a + k : Nat) : Int) + 1 := q346 hk
    rw [e]; exact ⟨fun q => absurd q (by omega), fun _ => ⟨fun q => absurd q (by omega), fun _ => ⟨iI (by omega) (by omega), hr _ rfl⟩⟩⟩
  · refine ⟨fun q => q622 (w := b) hn ?_, fun _ => hΦ⟩
    have q : (b : Int) ≠ (a : Int) := q; rw [decide_eq_true (by omega : a < b ∧ b ≤ n)]; exact ⟨fun r => absurd rfl r, fun _ => hΦ⟩
theorem q317 {ts ta : Nat} (h1 : ta ≤ ts) (h2 : ts ≤ 1000) {Φ : Int → Prop} (hΦ : Φ 0) : Z131 (tgtS ts ta) Φ := by
  unfold Z131 Join; refine q677 ?_; exact ⟨fun q => absurd rfl q, fun _ => q519 ⟨fun q => absurd q (by simp), fun _ => ⟨fun q => absurd (show (ta : Int) < 0 from q) (by omega), fun _ => ⟨fun q => absurd (show (ts : Int) < (ta : Int) from q) (by omega), fun _ => ⟨fun q => absurd (show (1073741824 : Int) < (ts : Int) from q) (by omega), fun _ => hΦ⟩⟩⟩⟩⟩
def MsgOk (ts ta : Nat) (m : q11) : Prop :=
  (m.From = 0 ∧ m.To = 2 ∧ m.Epoch = 1 ∧ (m.Kind = 8 ∨ m.Kind = 10)) ∨ (m.From = 2 ∧ m.To = 0 ∧ m.Epoch = 1 ∧ ((m.Kind = 9 ∧ ∃ v : Nat, m.Value = (v : Int) ∧ v ≤ ts) ∨ (m.Kind = 11 ∧ ∃ v : Nat, m.Value = (v : Int) ∧ v ≤ ta)))
theorem MsgOk.mono {ts ta ts' ta' : Nat} {m : q11} (h : MsgOk ts ta m) (h1 : ts ≤ ts') (h2 : ta ≤ ta') : MsgOk ts' ta' m := by
  rcases h with h | ⟨e1, e2, e3, ⟨e4, v, e5, e6⟩ | ⟨e4, v, e5, e6⟩⟩
  · exact .inl h
  · exact .inr ⟨e1, e2, e3, .inl ⟨e4, v, e5, by omega⟩⟩
  · exact .inr ⟨e1, e2, e3, .inr ⟨e4, v, e5, by omega⟩⟩
def msgA (k n : Int) : q11 := ⟨k, 0, 2, n, 0, 1, [], []⟩
def msgT (k v : Int) : q11 := ⟨k, 2, 0, 0, v, 1, [], []⟩
theorem q386 {ts ta : Nat} {k n : Int} (h : k = 8 ∨ k = 10) : MsgOk ts ta (msgA k n) := .inl ⟨rfl, rfl, rfl, h⟩
theorem oneM {ts ta : Nat} {m : q11} (h : MsgOk ts ta m) : ∀ x ∈ [m], MsgOk ts ta x := fun x hx => by rw [List.mem_singleton.1 hx]; exact h
theorem noM {ts ta : Nat} : ∀ x ∈ ([] : List q11), MsgOk ts ta x := fun x hx => by cases hx
theorem q679 {a b n : Nat} (h1 : a ≤ b) (h2 : b ≤ n) (hn : n + 1 ≤ 1000) {Φ : q15 × List q11 × Int → Prop} (hΦ : Φ (srcS a b (n + 1), [msgA 8 ((n : Int) + 1)], 0)) : Z129 (srcS a b n) ((n : Int) + 1) Φ := by
  have el := q175 a n
  have J : Z128 (srcS a b n) ((n : Int) + 1) Φ (n : Int) := by
    refine ⟨fun q => absurd q (by omega), fun _ => ⟨fun q => absurd q (by omega), fun _ => ⟨fun q => absurd (show (1024 : Int) ≤ ((offL a n).length : Int) from q) (by omega), fun _ => ?_⟩⟩⟩; refine q19 (show (offL a n).length ≤ 1000000 by omega) ⟨iL (by rw [q20]; show (offL a n).length + 1 ≤ _; omega) (by omega), iL (show 1 ≤ 1000000 by omega) (by omega), ?_⟩; show Φ (⟨1, 2, offL a n ++ [(n : Int) + 1], _, _⟩, _, 0); rw [q678 (by omega)]; exact hΦ
  refine q238 h1 h2 (by omega) ⟨fun q => absurd rfl q, fun _ => ⟨fun q => ?_, fun q => ?_⟩⟩
  · have q : (0 : Int) < ((offL a n).length : Int) := q
    show inI (((offL a n).length : Int) - 1) ∧ inX (((offL a n).length : Int) - 1) (offL a n).length ∧ Z128 (srcS a b n) ((n : Int) + 1) Φ (ix (offL a n) (((offL a n).length : Int) - 1)); have e : ((offL a n).length : Int) - 1 = ((n - a - 1 : Nat) : Int) := by omega
    rw [e, q346 (by omega), show ((a + (n - a - 1) : Nat) : Int) + 1 = (n : Int) by omega]; exact ⟨iI (by omega) (by omega), iX (by omega) (by omega), J⟩
  · have q : ¬ (0 : Int) < ((offL a n).length : Int) := q
    show Z128 (srcS a b n) ((n : Int) + 1) Φ (a : Int); rw [show (a : Int) = (n : Int) by omega]; exact J
theorem q680 {n ts ta : Nat} (h1 : ta ≤ ts) (h2 : ts < n) (hn : n ≤ 1000) {Φ : q14 × List q11 × Int → Prop} (hΦ : Φ (tgtS (ts + 1) ta, [msgT 9 ((ts + 1 : Nat) : Int)], 0)) : Z134 (tgtS ts ta) ((ts : Int) + 1) Φ :=
  q317 h1 (by omega) ⟨fun q => absurd rfl q, fun _ => ⟨fun q => absurd (show (ts : Int) + 1 ≤ (ts : Int) from q) (by omega), fun _ => ⟨fun q => absurd q (by omega), fun _ => ⟨([msgT 9 ((ts + 1 : Nat) : Int)], ()), rfl, hΦ⟩⟩⟩⟩
theorem q681 {ts ta : Nat} (h1 : ta < ts) (h2 : ts ≤ 1000) {Φ : q14 × List q11 × Int → Prop} (hΦ : Φ (tgtS ts (ta + 1), [msgT 11 ((ta + 1 : Nat) : Int)], 0)) : Z136 (tgtS ts ta) ((ta : Int) + 1) Φ :=
  q317 (by omega) h2 ⟨fun q => absurd rfl q, fun _ => ⟨fun q => absurd (show (ta : Int) + 1 ≤ (ta : Int) from q) (by omega), fun _ => ⟨fun q => absurd (show (ts : Int) < (ta : Int) + 1 from q) (by omega), fun _ => ⟨([msgT 11 ((ta + 1 : Nat) : Int)], ()), rfl, hΦ⟩⟩⟩⟩
theorem q623 {a b n ts ta : Nat} (h1 : a ≤ b) (h2 : b ≤ n) (hn : n ≤ 1000) {Φ : List q11 → Prop} (hΦ : ∀ l, (∀ x ∈ l, MsgOk ts ta x) → l.length ≤ n + 1 → Φ l) : Z139 (srcS a b n) Φ := by
  have el := q175 a n
  have J : ∀ l, (∀ x ∈ l, MsgOk ts ta x) → l.length ≤ 1 → Z138 (srcS a b n) Φ l := fun l hl hlen => by
    refine LoopW.upS (n - a) (fun s => s.1) (fun k s => (∀ x ∈ s.2, MsgOk ts ta x) ∧ s.2.length ≤ 1 + k) (fun k s rec hk he hI hr => ?_) 0 rfl (Nat.zero_le _) ⟨hl, hlen⟩; obtain ⟨i, s⟩ := s; have he : i = (k : Int) := he; subst he; obtain ⟨g1, g2⟩ := hI; have g2 : s.length ≤ 1 + k := g2; refine ⟨fun q => ?_, fun q => hΦ _ g1 (by omega)⟩; have q : (k : Int) < ((offL a n).length : Int) := q; refine ⟨iX (by omega) q, fun _ => ⟨iL (by rw [q20]; omega) (by omega), iI (by omega) (by omega), hr _ (by omega) rfl ⟨fun x hx => ?_, by show (s ++ [_]).length ≤ _; rw [q20]; omega⟩⟩, fun _ => ⟨iI (by omega) (by omega), hr _ (by omega) rfl ⟨g1, by show s.length ≤ _; omega⟩⟩⟩; rcases List.mem_append.1 hx with hx | hx
    · exact g1 x hx
    · rw [List.mem_singleton.1 hx]; exact q386 (.inl rfl)
  refine q238 h1 h2 hn ⟨fun q => absurd rfl q, fun _ => q19 (show (offL a n).length ≤ 1000000 by omega) ?_⟩; unfold Join; exact ⟨fun _ => ⟨iL (show 1 ≤ 1000000 by omega) (by omega), J _ (oneM (q386 (.inr rfl))) (Nat.le_refl _)⟩, fun _ => J _ noM (Nat.zero_le _)⟩
theorem q682 {a b n ts ta : Nat} (h1 : a ≤ b) (h2 : b ≤ n) (hn : n ≤ 1000) (h3 : a ≤ ta) (_ : ta ≤ ts) (h5 : ts ≤ n) {m : q11} (hm : MsgOk ts ta m) {Φ : q15 × List q11 → Prop}
    (hΦ : ∀ a' b' l, a ≤ a' → a' ≤ b' → b' ≤ n → a' ≤ ta → (∀ x ∈ l, MsgOk ts ta x) → l.length ≤ 1 → Φ (srcS a' b' n, l)) : Z145 (srcS a b n) m Φ := by
  have el := q175 a n; have same : Φ (srcS a b n, []) := hΦ a b [] (Nat.le_refl _) h1 h2 h3 noM (Nat.zero_le _); unfold Z145 Join; refine q238 h1 h2 hn ⟨fun q => absurd rfl q, fun _ => ?_⟩; rcases hm with ⟨e1, e2, e3, e4⟩ | ⟨e1, e2, e3, e4⟩
  · exact ⟨fun _ => ⟨fun _ => same, fun q => absurd rfl q⟩, fun q => absurd (show m.From ≠ 2 by rw [e1]; omega) q⟩
  · refine ⟨fun q => absurd e1 q, fun _ => ⟨fun q => absurd (show m.Epoch < 1 from q) (by rw [e3]; omega), fun _ => ?_⟩⟩
    rw [e3]; refine q316 (n := 1) (by omega) ?_; refine ⟨fun q => absurd q (by simp), fun _ => q19 (show (offL a n).length ≤ 1000000 by omega) ⟨rfl, rfl, rfl, fun q => ?_, fun q => ⟨fun r => ?_, fun r => ?_⟩⟩⟩
    · refine ⟨fun t => absurd (show (1 : Int) < m.Epoch from t) (by rw [e3]; omega), fun _ => ?_⟩
      obtain ⟨v, e5, e6⟩ : ∃ v : Nat, m.Value = (v : Int) ∧ v ≤ ts := by
        rcases e4 with ⟨_, h⟩ | ⟨h, _⟩
        · exact h
        · rw [q] at h; omega
      have J : ∀ c, (c = true → a < v ∧ b ≤ v) → Z141 (srcS a b n) m (offL a n) Φ c := fun c hc => by
        refine ⟨fun t => ⟨iL (show 1 ≤ 1000000 by omega) (by omega), ?_⟩, fun _ => same⟩; have := hc t; show Φ (⟨1, 2, offL a n, m.Value, (a : Int)⟩, [msgA 10 m.Value]); rw [e5]; exact hΦ a v _ (Nat.le_refl _) (by omega) (by omega) h3 (oneM (q386 (.inr rfl))) (Nat.le_refl _)
      unfold Join; show Z125 (offL a n) m.Value _; rw [e5]; refine q622 hn ⟨fun t => J _ fun t2 => ?_, fun _ => J _ fun t => by cases t⟩; have t := of_decide_eq_true t; have t2 : (b : Int) ≤ (v : Int) := of_decide_eq_true t2; exact ⟨t.1, by omega⟩
    · obtain ⟨v, e5, e6⟩ : ∃ v : Nat, m.Value = (v : Int) ∧ v ≤ ta := by
        rcases e4 with ⟨h, _⟩ | ⟨_, h⟩
        · rw [r] at h; omega
        · exact h
      refine ⟨fun t => absurd (show (1 : Int) < m.Epoch from t) (by rw [e3]; omega), fun _ => ?_⟩; rw [e5]; refine q621 hn (fun g1 g2 => ⟨fun _ => ⟨iI (by omega) (by omega), iS (by omega) (show ((v - a - 1 : Nat) : Int) + 1 ≤ ((offL a n).length : Int) by omega) (Int.le_refl _), ?_⟩, fun t => absurd (show (0 : Int) ≤ ((v - a - 1 : Nat) : Int) by omega) t⟩) fun _ => ⟨fun t => absurd t (by omega), fun _ => same⟩
      show Φ (⟨1, 2, sub (offL a n) (((v - a - 1 : Nat) : Int) + 1) ((offL a n).length : Int), (if (b : Int) < (v : Int) then (v : Int) else (b : Int)), (v : Int)⟩, []); rw [off_sub g1 g2]; by_cases c : b < v
      · rw [if_pos (by omega)]
        exact hΦ v v [] (by omega) (Nat.le_refl _) g2 e6 noM (Nat.zero_le _)
      · rw [if_neg (by omega)]
        exact hΦ v b [] (by omega) (by omega) h2 e6 noM (Nat.zero_le _)
    · rcases e4 with ⟨h, _⟩ | ⟨h, _⟩
      · exact absurd h q
      · exact absurd h r
theorem q624 {ts ta : Nat} (h1 : ta ≤ ts) (h2 : ts ≤ 1000) {m : q11} (hm : MsgOk ts ta m) {Φ : q14 × List q11 → Prop} (hΦ : ∀ l, (∀ x ∈ l, MsgOk ts ta x) → l.length ≤ 1 → Φ (tgtS ts ta, l)) : Z148 (tgtS ts ta) m Φ := by
  unfold Z148 Join; refine q317 h1 h2 ⟨fun q => absurd rfl q, fun _ => ?_⟩; rcases hm with ⟨e1, e2, e3, e4⟩ | ⟨e1, e2, e3, e4⟩
  · refine ⟨fun q => absurd e2 q, fun _ => ?_⟩
    rw [e3]; have h9 : Φ (tgtS ts ta, [msgT 9 (ts : Int)]) := hΦ _ (oneM (.inr ⟨rfl, rfl, rfl, .inl ⟨rfl, ts, rfl, Nat.le_refl _⟩⟩)) (Nat.le_refl _); have h11 : Φ (tgtS ts ta, [msgT 11 (ta : Int)]) := hΦ _ (oneM (.inr ⟨rfl, rfl, rfl, .inr ⟨rfl, ta, rfl, Nat.le_refl _⟩⟩)) (Nat.le_refl _)
    have J : Z147 (tgtS ts ta) m Φ false := by
      refine ⟨fun q => absurd q (by simp), fun _ => ⟨fun q => absurd (show m.Epoch < 1 from q) (by rw [e3]; omega), fun _ => ⟨fun q => absurd (show (1 : Int) < m.Epoch from q) (by rw [e3]; omega), fun _ => ?_⟩⟩⟩; exact ⟨⟨rfl, rfl, fun _ => h9, fun q => ⟨fun _ => h11, fun r => e4.elim q r⟩⟩, ⟨rfl, rfl, fun _ => h11, fun q => ⟨fun _ => h9, fun r => e4.elim r q⟩⟩⟩
    refine q316 (n := 1) (by omega) ⟨fun q => absurd rfl q, fun _ => ⟨fun q => ?_, fun _ => J⟩⟩; rw [decide_eq_false (show ¬ (m.Kind ≠ 10) from fun r => e4.elim q r)]; exact J
  · exact ⟨fun _ => ⟨fun _ => hΦ [] noM (Nat.zero_le _), fun q => absurd rfl q⟩, fun q => absurd (show m.To ≠ 2 by rw [e2]; omega) q⟩
theorem q322 {im : List (List Sec)} {c : q10} {Φ : List (List Sec) × Int → Prop} (hi : im.length ≤ 100000) (hp : c.Positions.length ≤ 100000) (hl : c.Writes.length ≤ 100000) (hd : ∀ w ∈ c.Writes, w.Data.length ≤ 1000000) (hΦ : Φ (appR im c)) : q58 im c Φ := by
  unfold appR at hΦ; refine q127 hi ⟨fun q => by rw [if_pos q] at hΦ; exact hΦ, fun q => ?_⟩; rw [if_neg q] at hΦ; refine LoopW.upT im.length (fun k => ((k : Int), (im.take k).map fun v => (v.length : Int))) rfl (fun k rec hk hr => ⟨fun _ => ⟨iX (by omega) (by omega), iL (by rw [q20, List.length_map, lenT (by omega)]; omega) (by omega), iI (by omega) (by omega), hr _ (by rw [q148 _ hk]; rfl)⟩, fun _ => by omega⟩) fun rec => ⟨fun _ => by omega, fun _ => ?_⟩
  rw [q79]; show q46 c (szs im) _; refine q195 hp hl hd ⟨fun t => by rw [if_pos t] at hΦ; exact hΦ, fun t => ?_⟩; rw [if_neg t] at hΦ; exact q194 (by omega) (Classical.not_not.1 q) (wrs_fit (q668 (Classical.not_not.1 t))) hΦ
end Go.Proofs.YtpobhmleblaccaaGreat
