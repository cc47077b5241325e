/- Part 6 of the proof of the statement ReverseMarksCardSaid: lemmas. No condition of its own. -/
import Derived.Lib.TrailingZeros
import Derived.Test.YtefiiimkacemiaaGreatDoorM5
namespace Go.Proofs.YtefiiimkacemiaaGreatDoor
open Go.RowKit
theorem mo : Tryz.prog.follows .mixedOrders = true := by kernel_rfl
theorem ok4 : ct4.Ok Tryz.prog tab gh := Ct.lift (E := ⟨Tryz.prog, tab, [], pl4, [], gh, [], [], []⟩) ⟨tabOk, trivial, mo, trivial, ghUp, trivial, trivial⟩ 9 ct4 fun x Φ => by rw [eq4]; exact id
theorem ok18 : ct18.Ok Tryz.prog tab gh := Ct.lift (E := ⟨Tryz.prog, tab, [], pl18, [], gh, [], [], []⟩) ⟨tabOk, trivial, mo, trivial, ghUp, trivial, trivial⟩ 9 ct18 fun x Φ => by rw [eq18]; exact id
theorem ok9 : ct9.Ok Tryz.prog tab gh := Ct.lift (E := ⟨Tryz.prog, tab, [], pl9, [], gh, [], [], []⟩) ⟨tabOk, trivial, mo, trivial, ghUp, trivial, trivial⟩ 9 ct9 fun x Φ => by rw [eq9]; exact id
theorem okT9 : ct9.Ok Tryz.prog tab ghT := Ct.lift (E := ⟨Tryz.prog, tab, [], pl9, [], ghT, [], [], []⟩) ⟨tabOk, trivial, mo, trivial, fun _ _ _ _ => trivial, trivial, trivial⟩ 9 ct9 fun x Φ => by
  have h : ct9.W x Φ = topF ⟨Tryz.prog, tab, [], pl9, [], ghT, [], [], []⟩ 9 ct9.f ct9.ps ct9.rs ct9.own x Φ := by kernel_rfl
  rw [h]; exact id
theorem ok60 : ct60.Ok Tryz.prog tab gh := Ct.lift (E := ⟨Tryz.prog, tab, [], pl60, [], gh, [], [], []⟩) ⟨tabOk, trivial, mo, trivial, ghUp, trivial, trivial⟩ 9 ct60 fun x Φ => by rw [eq60]; exact id
theorem okT60 : ct60.Ok Tryz.prog tab ghT := Ct.lift (E := ⟨Tryz.prog, tab, [], pl60, [], ghT, [], [], []⟩) ⟨tabOk, trivial, mo, trivial, fun _ _ _ _ => trivial, trivial, trivial⟩ 9 ct60 fun x Φ => by
  have h : ct60.W x Φ = topF ⟨Tryz.prog, tab, [], pl60, [], ghT, [], [], []⟩ 9 ct60.f ct60.ps ct60.rs ct60.own x Φ := by kernel_rfl
  rw [h]; exact id
theorem ok61 : ct61.Ok Tryz.prog tab gh := Ct.lift (E := ⟨Tryz.prog, tab, [ct9, ct60], pl61, [], gh, [], [], []⟩) ⟨tabOk, ⟨ok9, ok60, trivial⟩, mo, trivial, ghUp, trivial, trivial⟩ 9 ct61 fun x Φ => by rw [eq61]; exact id
theorem okT61 : ct61.Ok Tryz.prog tab ghT := Ct.lift (E := ⟨Tryz.prog, tab, [ct9, ct60], pl61, [], ghT, [], [], []⟩) ⟨tabOk, ⟨okT9, okT60, trivial⟩, mo, trivial, fun _ _ _ _ => trivial, trivial, trivial⟩ 9 ct61 fun x Φ => by
  have h : ct61.W x Φ = topF ⟨Tryz.prog, tab, [ct9, ct60], pl61, [], ghT, [], [], []⟩ 9 ct61.f ct61.ps ct61.rs ct61.own x Φ := by kernel_rfl
  rw [h]; exact id
theorem ok62 : ct62.Ok Tryz.prog tab gh := Ct.lift (E := ⟨Tryz.prog, tab, [], pl62, [], gh, [], [], []⟩) ⟨tabOk, trivial, mo, trivial, ghUp, trivial, trivial⟩ 9 ct62 fun x Φ => by rw [eq62]; exact id
theorem okT62 : ct62.Ok Tryz.prog tab ghT := Ct.lift (E := ⟨Tryz.prog, tab, [], pl62, [], ghT, [], [], []⟩) ⟨tabOk, trivial, mo, trivial, fun _ _ _ _ => trivial, trivial, trivial⟩ 9 ct62 fun x Φ => by
  have h : ct62.W x Φ = topF ⟨Tryz.prog, tab, [], pl62, [], ghT, [], [], []⟩ 9 ct62.f ct62.ps ct62.rs ct62.own x Φ := by kernel_rfl
  rw [h]; exact id
theorem ok24 : ct24.Ok Tryz.prog tab gh := Ct.lift (E := ⟨Tryz.prog, tab, [ct9, ct61, ct62], pl24, [], gh, [], [], []⟩) ⟨tabOk, ⟨ok9, ok61, ok62, trivial⟩, mo, trivial, ghUp, trivial, trivial⟩ 9 ct24 fun x Φ => by rw [eq24]; exact id
theorem okT24 : ct24.Ok Tryz.prog tab ghT := Ct.lift (E := ⟨Tryz.prog, tab, [ct9, ct61, ct62], pl24, [], ghT, [], [], []⟩) ⟨tabOk, ⟨okT9, okT61, okT62, trivial⟩, mo, trivial, fun _ _ _ _ => trivial, trivial, trivial⟩ 9 ct24 fun x Φ => by
  have h : ct24.W x Φ = topF ⟨Tryz.prog, tab, [ct9, ct61, ct62], pl24, [], ghT, [], [], []⟩ 9 ct24.f ct24.ps ct24.rs ct24.own x Φ := by kernel_rfl
  rw [h]; exact id
theorem pk26 (v : Value) (cs : List Value) : PkR Tryz.prog 26 v cs = (cs = [v]) := by kernel_rfl
theorem ref07_Check_lift {H : Hp} (x0 : List (List Sec)) {A1 : Option Addr} {n1 c1 : Nat} {s1 : List Value} (hF1 : Fz (α := List Sec) H A1 n1 c1 x0 s1) {Φ : Int → Prop} (hm : ref07_Check_W x0 Φ) : RetP Tryz.prog 61 #[.slice A1 n1 c1] H (fun _ v L => ∃ y, Φ y ∧ v = .int .i64 (y) ∧ L = []) := by
  refine RetP.mono (okT61 (x0, ()) (fun y => Φ y.1) hm H [.slice A1 n1 c1] trivial ⟨_, [.slice A1 n1 c1], _, rfl, by rw [pk26], (show Dt.rd (α := List (List Sec)) H _ _ from ⟨A1, n1, c1, s1, rfl, hF1⟩), rfl⟩) fun H' v L _ ⟨y, hy, hr⟩ => ?_
  obtain ⟨ρ, _, _, _, _, h1, h2⟩ := hr 0 (fun _ => none) (fun _ _ => rfl) _ _ _ (show resE Tryz.prog tab _ _ y 0 = some (.i .i64 y.1, [], 0) by kernel_rfl)
  exact ⟨y.1, hy, h1, h2⟩
theorem ref07_CopyE_lift {H : Hp} (x0 : List (List Sec)) {A1 : Option Addr} {n1 c1 : Nat} {s1 : List Value} (hF1 : Fz (α := List Sec) H A1 n1 c1 x0 s1) {Φ : List (List Sec) → Prop} (hm : ref07_CopyE_W x0 Φ) : RetP Tryz.prog 77 #[.slice A1 n1 c1] H (fun H' v L => ∃ y, Φ y ∧ ∃ A38, ∃ n38, ∃ c38, ∃ s38, ∃ rs39, v = .slice A38 n38 c38 ∧ DeepL (α := List Sec) [58] H' s38 y rs39 ∧ n38 = y.length ∧ L = .row (.slice A38 n38 c38) 45 1 n38 s38 :: rs39) := by
 refine RetP.of_code Tryz.func77 rfl (nb rfl) fun w0 hM => ?_
 refine CW.sr <| RW.st (Ex.assign (.slice none 0 0) rfl) rfl <| RW.nil <| CW.sr <| RW.st (Ex.assign (.slice none 0 0) rfl) rfl <| RW.nil <| CW.seq <| CW.sr <| RW.st (Ex.assign (.int .i64 0) rfl) rfl <| RW.nil <| CW.block ?_
 obtain ⟨m37, hm⟩ := hm
 skip
 replace hM := hM.nilRow 45 1
 refine CW.loop (β := Nat) (fun n σ w => ∃ (v4 : List (List Sec)), ∃ (A5 : Option Addr), ∃ (n6 : Nat), ∃ (c7 : Nat), ∃ (s8 : List Value), ∃ (rs9 : List Ent), ∃ (v12 : Int), ∃ Hk2, H.le Hk2 ∧ (∃ τ, σ = sl [(0, .slice A1 n1 c1), (3, .slice A5 n6 c7), (4, .int .i64 v12)] τ) ∧ Mem w0 H w Hk2 (.row (.slice A5 n6 c7) 45 1 n6 s8 :: rs9) ∧ (DeepL (α := List Sec) [58] Hk2 s8 v4 rs9) ∧ (n6 = v4.length) ∧ LoopN (Z5 x0 Φ) n (v4, v12)) (fun n => n) m37 ⟨([] : List (List Sec)), none, 0, 0, [], [], 0, H, (Hp.le.refl _), sl_canon ⟨rfl, rfl, rfl, trivial⟩, hM, (DeepL.nil : DeepL (α := List Sec) [58] H [] [] []), rfl, hm⟩ ?_
 rintro k13 _ w ⟨v4, A5, n6, c7, s8, rs9, v12, Hk2, hle3, ⟨τ, rfl⟩, hM, hd10, hn11, hm⟩
 obtain _ | k13 := k13
 · exact hm.elim
 replace hm : (Z5 x0 Φ) (v4, v12) (LoopN (Z5 x0 Φ) k13) := hm
 generalize hrec14 : LoopN (Z5 x0 Φ) k13 = rec1 at hm
 refine CW.seq <| CW.sr <| RW.st (Ex.move (.int .i64 v12) rfl) rfl <| RW.st (Ex.move (.slice A1 n1 c1) rfl) rfl <| RW.st (Ex.lenN st26.1 rfl hF1.hn) rfl <| RW.st (Ex.lss rfl rfl) rfl <| RW.nil ?_
 refine CW.cond_dec (p := v12 < (x0.length : Int)) rfl (fun hc15 => ?_) (fun hc15 => ?_)
 ·
  replace hm := And.left hm hc15
  refine CW.skip <| CW.seq <| CW.block <| CW.sr <| RW.st (Ex.assign (.slice none 0 0) rfl) rfl <| RW.nil <| CW.region <| RW.st (Ex.move (.slice A5 n6 c7) rfl) rfl <| RW.st (Ex.move (.slice none 0 0) rfl) rfl <| RW.st (Ex.move (.slice A1 n1 c1) rfl) rfl <| RW.st (Ex.move (.int .i64 v12) rfl) rfl ?_
  obtain ⟨hg16, hm⟩ := hm
  refine RW.st (Ex.index st26 rfl rfl v12.toNat (hF1.ne hg16) hg16.nat (hF1.lt hg16)) rfl ?_
  obtain ⟨_, ⟨A17, n17, c17, s17, rfl, hF17⟩, hx18⟩ := DtL.getI (α := List Sec) (hF1.mono hle3).dat hg16
  refine RW.st (Ex.loadE hM hle3 hF1.rdc to45 rfl (hx18 0 _ rfl)) rfl ?_
  replace hM := hM.nilRow 58 8
  obtain ⟨hg25, hm⟩ := hm
  refine RW.appendF (α := Sec) (xs := ([] : List Sec)) (ys := (ix x0 v12)) hM 0 st45 rfl rfl (DtL.nil : DtL _ [] ([] : List Sec)) rfl rfl (Hp.le.refl _) hF17 hg25 rfl rfl ?_; intro A19 n20 c21 s22 w hd23 hn24 hM
  refine RW.buildSlice hM st26 tz45 [(0, .slice A19 n20 c21)] [.slice A19 n20 c21] (by decide) rfl rfl rfl (by decide) rfl rfl ?_; intro b26 w hM
  obtain ⟨hg32, hm⟩ := hm
  refine RW.appendH (α := List Sec) (xs := v4) (x0 := (([] : List Sec) ++ (ix x0 v12))) hM 2 st26 rfl rfl hn11 rfl (fun j u hj => hM.rowCell (k := 0) rfl rfl hj) rfl (oneAll ⟨rfl, trivial⟩) hg32 rfl rfl ?_; intro A28 n29 c30 w hn31 hM
  obtain ⟨s33, rs34, hd35, hM⟩ := Mem.adopt (α := List Sec) (Ts := [58]) (x := (([] : List Sec) ++ (ix x0 v12))) [.row (.slice (some ⟨b26, 0, none⟩) 1 1) 45 1 1 [.slice A19 n20 c21], .row (.slice A28 n29 c30) 45 1 n29 (s8 ++ [.slice A19 n20 c21])] (Mem.pickT (L1 := [.row (.slice (some ⟨b26, 0, none⟩) 1 1) 45 1 1 [.slice A19 n20 c21], .row (.slice A19 n20 c21) 58 8 n20 s22, .row (.slice A28 n29 c30) 45 1 n29 (s8 ++ [.slice A19 n20 c21])]) (T := rs9) hM [1, 0, 2] rfl rfl) 1 rfl hd10 ⟨A19, n20, c21, s22, rfl, rfl, hd23, hn24⟩
  replace hM : Mem w0 H w Hk2 (.row (.slice A28 n29 c30) 45 1 n29 s33 :: rs34) := Mem.pickT (L1 := [.row (.slice (some ⟨b26, 0, none⟩) 1 1) 45 1 1 [.slice A19 n20 c21], .row (.slice A28 n29 c30) 45 1 n29 s33]) (T := rs34) hM [1] rfl rfl
  refine RW.st (Ex.assign (.slice A28 n29 c30) rfl) rfl <| RW.nil <| CW.region <| RW.st (Ex.move (.int .i64 v12) rfl) rfl ?_
  obtain ⟨hg36, hm⟩ := hm
  refine RW.st (Ex.add rfl rfl hg36.1 hg36.2) rfl <| RW.st (Ex.assign (.int .i64 (v12 + 1)) rfl) rfl <| RW.nil ?_
  exact And.intro rfl ⟨k13, ⟨(v4 ++ [(([] : List Sec) ++ (ix x0 v12))]), A28, n29, c30, s33, rs34, v12 + 1, Hk2, hle3.trans (Hp.le.refl _), sl_canon ⟨rfl, rfl, rfl, trivial⟩, hM, hd35, hn31, (by rw [hrec14]; exact hm)⟩, Nat.lt_succ_self _⟩
 ·
  replace hm := And.right hm hc15
  refine CW.exit ?_
  refine CW.sr <| RW.st (Ex.move (.slice A5 n6 c7) rfl) rfl <| RW.st (Ex.assign (.slice A5 n6 c7) rfl) rfl <| RW.nil <| CW.ret ?_
  refine end_tmp (.inl rfl) rfl (.slice A5 n6 c7) rfl ?_
  exact ⟨_, _, hM, v4, hm, A5, n6, c7, s8, rs9, rfl, hd10, hn11, rfl⟩
theorem pk47 (v : Value) (cs : List Value) : PkR Tryz.prog 47 v cs = (v = .agg cs.toArray) := by kernel_rfl
theorem ref07_Fits_lift {H : Hp} (x0 : List (List Sec)) (x1 : api_Write) {A1 : Option Addr} {n1 c1 : Nat} {s1 : List Value} (hF1 : Fz (α := List Sec) H A1 n1 c1 x0 s1) {A2 : Option Addr} {n2 c2 : Nat} {s2 : List Value} (hF2 : Fz (α := Sec) H A2 n2 c2 x1.Data s2) {Φ : Int → Prop} (hm : ref07_Fits_W x0 x1 Φ) : RetP Tryz.prog 24 #[.slice A1 n1 c1, .agg #[.int .i64 (x1.Volume), .int .i64 (x1.Start), .slice A2 n2 c2]] H (fun _ v L => ∃ y, Φ y ∧ v = .int .i64 (y) ∧ L = []) := by
  refine RetP.mono (okT24 (x0, x1, ()) (fun y => Φ y.1) hm H [.slice A1 n1 c1, .agg #[.int .i64 (x1.Volume), .int .i64 (x1.Start), .slice A2 n2 c2]] trivial ⟨_, [.slice A1 n1 c1], _, rfl, by rw [pk26], (show Dt.rd (α := List (List Sec)) H _ _ from ⟨A1, n1, c1, s1, rfl, hF1⟩), ⟨_, [.int .i64 (x1.Volume), .int .i64 (x1.Start), .slice A2 n2 c2], _, rfl, by rw [pk47], (show Dt.rd (α := api_Write) H _ _ from ⟨A2, n2, c2, s2, rfl, hF2⟩), rfl⟩⟩) fun H' v L _ ⟨y, hy, hr⟩ => ?_
  obtain ⟨ρ, _, _, _, _, h1, h2⟩ := hr 0 (fun _ => none) (fun _ _ => rfl) _ _ _ (show resE Tryz.prog tab _ _ y 0 = some (.i .i64 y.1, [], 0) by kernel_rfl)
  exact ⟨y.1, hy, h1, h2⟩
theorem ref07_Apply_lift {H : Hp} (x0 : List (List Sec)) (x1 : List api_Write) {A1 : Option Addr} {n1 c1 : Nat} {s1 : List Value} (hF1 : Fz (α := List Sec) H A1 n1 c1 x0 s1) {A2 : Option Addr} {n2 c2 : Nat} {s2 : List Value} (hF2 : Fz (α := api_Write) H A2 n2 c2 x1 s2) {Φ : List (List Sec) × Int × Int → Prop} (hm : ref07_Apply_W x0 x1 Φ) : RetP Tryz.prog 49 #[.slice A1 n1 c1, .slice A2 n2 c2] H (fun H' v L => ∃ y, Φ y ∧ ∃ A70, ∃ n70, ∃ c70, ∃ s70, ∃ rs71, v = .tuple #[.slice A70 n70 c70, .int .i64 (y.2.1), .int .i64 (y.2.2)] ∧ DeepL (α := List Sec) [58] H' s70 y.1 rs71 ∧ n70 = y.1.length ∧ L = .row (.slice A70 n70 c70) 45 1 n70 s70 :: rs71) := by
 refine RetP.of_code Tryz.func49 rfl (nb rfl) fun w0 hM => ?_
 refine CW.sr <| RW.st (Ex.assign (.slice none 0 0) rfl) rfl <| RW.st (Ex.assign (.int .i64 0) rfl) rfl <| RW.st (Ex.assign (.int .i64 0) rfl) rfl <| RW.nil <| CW.seq <| CW.sr <| RW.st (Ex.move (.slice A1 n1 c1) rfl) rfl ?_
 refine RW.callP hM (ref07_Check_lift x0 hF1 hm) en61 rfl rfl rfl rfl ?_; rintro _ w H4 _ hle5 ⟨v3, hm, rfl, rfl⟩ hM
 refine RW.st (Ex.assign (.int .i64 v3) rfl) rfl <| RW.nil <| CW.sr <| RW.st (Ex.move (.int .i64 v3) rfl) rfl <| RW.st (Ex.neq rfl rfl) rfl <| RW.nil ?_
 refine CW.cond_dec (p := v3 ≠ 0) rfl (fun hc6 => ?_) (fun hc6 => ?_)
 ·
  replace hm := And.left hm hc6
  refine CW.sr <| RW.st (Ex.move (.int .i64 v3) rfl) rfl <| RW.st (Ex.assign (.slice none 0 0) rfl) rfl <| RW.st (Ex.assign (.int .i64 0) rfl) rfl <| RW.st (Ex.assign (.int .i64 v3) rfl) rfl <| RW.nil <| CW.ret ?_
  refine thenQ_ret ?_
  refine end_tmp3 (.inl rfl) rfl (.slice none 0 0) (.int .i64 0) (.int .i64 v3) rfl rfl rfl ?_
  replace hM := hM.nilRow 45 1
  exact ⟨_, _, hM, (([] : List (List Sec)), 0, v3), hm, none, 0, 0, [], [], rfl, (DeepL.nil : DeepL (α := List Sec) [58] H4 [] [] []), rfl, rfl⟩
 ·
  replace hm := And.right hm hc6
  refine CW.skip <| CW.sr <| RW.st (Ex.move (.slice A1 n1 c1) rfl) rfl ?_
  refine RW.callP hM (ref07_CopyE_lift x0 (hF1.mono hle5) hm) en77 rfl rfl rfl rfl ?_; rintro _ w H8 _ hle9 ⟨v7, hm, A10, n10, c10, s10, rs11, rfl, hd12, hn13, rfl⟩ hM
  replace hM := Mem.toTail (a := [.row (.slice A10 n10 c10) 45 1 n10 s10]) (b := rs11) (c := []) hM
  refine RW.st (Ex.assign (.slice A10 n10 c10) rfl) rfl <| RW.nil <| CW.seq <| CW.sr <| RW.st (Ex.assign (.int .i64 0) rfl) rfl <| RW.nil <| CW.block ?_
  obtain ⟨m69, hm⟩ := hm
  skip
  refine CW.loop (β := Nat) (fun n σ w => ∃ (v16 : List (List Sec)), ∃ (A17 : Option Addr), ∃ (n18 : Nat), ∃ (c19 : Nat), ∃ (s20 : List Value), ∃ (rs21 : List Ent), ∃ (v24 : Int), ∃ Hk14, H8.le Hk14 ∧ (∃ τ, σ = sl [(0, .slice A1 n1 c1), (1, .slice A2 n2 c2), (8, .slice A17 n18 c19), (9, .int .i64 v24)] τ) ∧ Mem w0 H w Hk14 (.row (.slice A17 n18 c19) 45 1 n18 s20 :: rs21) ∧ (DeepL (α := List Sec) [58] Hk14 s20 v16 rs21) ∧ (n18 = v16.length) ∧ LoopN (Z7 x0 x1 Φ) n (v16, v24)) (fun n => n) m69 ⟨v7, A10, n10, c10, s10, rs11, 0, H8, (Hp.le.refl _), sl_canon ⟨rfl, rfl, rfl, rfl, trivial⟩, hM, hd12, hn13, hm⟩ ?_
  rintro k25 _ w ⟨v16, A17, n18, c19, s20, rs21, v24, Hk14, hle15, ⟨τ, rfl⟩, hM, hd22, hn23, hm⟩
  obtain _ | k25 := k25
  · exact hm.elim
  replace hm : (Z7 x0 x1 Φ) (v16, v24) (LoopN (Z7 x0 x1 Φ) k25) := hm
  generalize hrec26 : LoopN (Z7 x0 x1 Φ) k25 = rec1 at hm
  refine CW.seq <| CW.sr <| RW.st (Ex.move (.int .i64 v24) rfl) rfl <| RW.st (Ex.move (.slice A2 n2 c2) rfl) rfl <| RW.st (Ex.lenN st22.1 rfl hF2.hn) rfl <| RW.st (Ex.lss rfl rfl) rfl <| RW.nil ?_
  refine CW.cond_dec (p := v24 < (x1.length : Int)) rfl (fun hc27 => ?_) (fun hc27 => ?_)
  ·
   replace hm := And.left hm hc27
   refine CW.skip <| CW.seq <| CW.block <| CW.seq <| CW.sr <| RW.st (Ex.move (.slice A1 n1 c1) rfl) rfl <| RW.st (Ex.move (.slice A2 n2 c2) rfl) rfl <| RW.st (Ex.move (.int .i64 v24) rfl) rfl ?_
   obtain ⟨hg28, hm⟩ := hm
   refine RW.st (Ex.index st22 rfl rfl v24.toNat (hF2.ne hg28) hg28.nat (hF2.lt hg28)) rfl ?_
   obtain ⟨_, ⟨A29, n29, c29, s29, rfl, hF29⟩, hx30⟩ := DtL.getI (α := api_Write) (hF2.mono ((hle5.trans hle9).trans hle15)).dat hg28
   refine RW.st (Ex.loadEA hM ((hle5.trans hle9).trans hle15) hF2.rdc [.int .i64 ((ix x1 v24).Volume), .int .i64 ((ix x1 v24).Start), .slice A29 n29 c29] ta47 rfl (hF2.ne hg28) rfl (chunk_sub (off := 0) (n := 3) hx30 rfl)) rfl ?_
   refine RW.callP hM (ref07_Fits_lift x0 (ix x1 v24) (hF1.mono ((hle5.trans hle9).trans hle15)) hF29 hm) en24 rfl rfl rfl rfl ?_; rintro _ w H32 _ hle33 ⟨v31, hm, rfl, rfl⟩ hM
   refine RW.st (Ex.assign (.int .i64 v31) rfl) rfl <| RW.nil <| CW.sr <| RW.st (Ex.move (.int .i64 v31) rfl) rfl <| RW.st (Ex.neq rfl rfl) rfl <| RW.nil ?_
   refine CW.cond_dec (p := v31 ≠ 0) rfl (fun hc34 => ?_) (fun hc34 => ?_)
   ·
    replace hm := And.left hm hc34
    refine CW.sr <| RW.st (Ex.move (.int .i64 v24) rfl) rfl <| RW.st (Ex.move (.int .i64 v31) rfl) rfl <| RW.st (Ex.assign (.slice none 0 0) rfl) rfl <| RW.st (Ex.assign (.int .i64 v24) rfl) rfl <| RW.st (Ex.assign (.int .i64 v31) rfl) rfl <| RW.nil <| CW.ret ?_
    refine thenQ_ret (blockQ_ret (thenQ_ret (thenQ_ret (blockQ_ret (thenQ_ret ?_)))))
    refine end_tmp3 (.inl rfl) rfl (.slice none 0 0) (.int .i64 v24) (.int .i64 v31) rfl rfl rfl ?_
    replace hM := hM.nilRow 45 1
    exact ⟨_, _, ((Mem.dropT (L1 := [.row (.slice none 0 0) 45 1 0 [], .row (.slice A17 n18 c19) 45 1 n18 s20]) (T := rs21) hM).pick [0] rfl rfl), (([] : List (List Sec)), v24, v31), hm, none, 0, 0, [], [], rfl, (DeepL.nil : DeepL (α := List Sec) [58] H32 [] [] []), rfl, rfl⟩
   ·
    replace hm := And.right hm hc34
    refine CW.skip <| CW.sr <| RW.st (Ex.assign (.int .i64 0) rfl) rfl <| RW.nil <| CW.block ?_
    obtain ⟨m68, hm⟩ := hm
    skip
    refine CW.loop (β := Nat) (fun n σ w => ∃ (v37 : List (List Sec)), ∃ (A38 : Option Addr), ∃ (n39 : Nat), ∃ (c40 : Nat), ∃ (s41 : List Value), ∃ (rs42 : List Ent), ∃ (v45 : Int), ∃ Hk35, H32.le Hk35 ∧ (∃ τ, σ = sl [(0, .slice A1 n1 c1), (1, .slice A2 n2 c2), (8, .slice A38 n39 c40), (9, .int .i64 v24), (11, .int .i64 v45)] τ) ∧ Mem w0 H w Hk35 (.row (.slice A38 n39 c40) 45 1 n39 s41 :: rs42) ∧ (DeepL (α := List Sec) [58] Hk35 s41 v37 rs42) ∧ (n39 = v37.length) ∧ LoopN (Z6 x1 v24 rec1 Φ) n (v37, v45)) (fun n => n) m68 ⟨v16, A17, n18, c19, s20, rs21, 0, H32, (Hp.le.refl _), sl_canon ⟨rfl, rfl, rfl, rfl, rfl, trivial⟩, hM, (hd22.mono hle33), hn23, hm⟩ ?_
    rintro k46 _ w ⟨v37, A38, n39, c40, s41, rs42, v45, Hk35, hle36, ⟨τ, rfl⟩, hM, hd43, hn44, hm⟩
    obtain _ | k46 := k46
    · exact hm.elim
    replace hm : (Z6 x1 v24 rec1 Φ) (v37, v45) (LoopN (Z6 x1 v24 rec1 Φ) k46) := hm
    generalize hrec47 : LoopN (Z6 x1 v24 rec1 Φ) k46 = rec2 at hm
    refine CW.seq <| CW.sr <| RW.st (Ex.move (.int .i64 v45) rfl) rfl <| RW.st (Ex.move (.slice A2 n2 c2) rfl) rfl <| RW.st (Ex.move (.int .i64 v24) rfl) rfl <| RW.st (Ex.index st22 rfl rfl v24.toNat (hF2.ne hg28) hg28.nat (hF2.lt hg28)) rfl <| RW.st (Ex.fieldE fa47_2 (hF2.ne hg28) rfl) rfl <| RW.st (Ex.loadE hM ((((hle5.trans hle9).trans hle15).trans hle33).trans hle36) hF2.rdc to45 rfl (hx30 2 _ rfl)) rfl <| RW.st (Ex.lenN st45.1 rfl hF29.hn) rfl <| RW.st (Ex.lss rfl rfl) rfl <| RW.nil ?_
    refine CW.cond_dec (p := v45 < (((ix x1 v24).Data).length : Int)) rfl (fun hc48 => ?_) (fun hc48 => ?_)
    ·
     replace hm := And.left hm hc48
     refine CW.skip <| CW.seq <| CW.block ?_
     obtain ⟨hg49, hm⟩ := hm
     obtain ⟨c51, _, c52, _, rs53, rfl, ⟨A50, n50, c50, s50, rfl, rfl, hF50, hn55⟩, hh54, hM⟩ := Mem.focus [.row (.slice A38 n39 c40) 45 1 n39 s41] hM hd43 hg49
     have hx56 := Hole.get (ch := [.slice A50 n50 c50]) hh54
     obtain ⟨hg57, hm⟩ := hm
     obtain ⟨hg58, hm⟩ := hm
     obtain ⟨_, rfl, hx59⟩ := DtL.getI (α := Sec) (hF29.mono (hle33.trans hle36)).dat hg58
     refine CW.drawE 23 [.slice A38 n39 c40, .slice A2 n2 c2, .int .i64 v24, elp A2 (v24.toNat * 3 + 0), elp A2 (v24.toNat * 3 + 0), .int .i64 ((ix x1 v24).Volume), elp A38 ((((ix x1 v24).Volume).toNat) * 1 + 0), .slice A50 n50 c50, .slice A2 n2 c2, .int .i64 v24, elp A2 (v24.toNat * 3 + 0), elp A2 (v24.toNat * 3 + 1), .int .i64 ((ix x1 v24).Start), .int .i64 v45, .int .i64 (((ix x1 v24).Start) + v45), .slice A2 n2 c2, .int .i64 v24, elp A2 (v24.toNat * 3 + 0), elp A2 (v24.toNat * 3 + 2), .slice A29 n29 c29, .int .i64 v45, elp A29 (v45.toNat * 8 + 0), .agg #[u8 (ix ((ix x1 v24).Data) v45).b0, u8 (ix ((ix x1 v24).Data) v45).b1, u8 (ix ((ix x1 v24).Data) v45).b2, u8 (ix ((ix x1 v24).Data) v45).b3, u8 (ix ((ix x1 v24).Data) v45).b4, u8 (ix ((ix x1 v24).Data) v45).b5, u8 (ix ((ix x1 v24).Data) v45).b6, u8 (ix ((ix x1 v24).Data) v45).b7]]
      [[(8, none)], [(1, none)], [(9, none)], [(46, some 1), (47, some 2)], [(48, some 3)], [(49, some 4)], [(45, some 0), (50, some 5)], [(51, some 6)], [(1, none)], [(9, none)], [(53, some 8), (54, some 9)], [(55, some 10)], [(56, some 11)], [(11, none)], [(57, some 12), (58, some 13)], [(1, none)], [(9, none)], [(60, some 15), (61, some 16)], [(62, some 17)], [(63, some 18)], [(11, none)], [(64, some 19), (65, some 20)], [(66, some 21)]] [(0, none), (1, none), (8, none), (9, none), (11, none), (52, some 7), (59, some 14), (67, some 22)] (by kernel_rfl) hM (by kernel_rfl) ⟨?_, ?_, ?_, ?_, ?_, ?_, ?_, ?_, ?_, ?_, ?_, ?_, ?_, ?_, ?_, ?_, ?_, ?_, ?_, ?_, ?_, ?_, ?_, trivial⟩ ?_
     · exact One.ex (fun H' τ w hled hM => Ex.move (.slice A38 n39 c40) rfl) rfl (fun _ => rfl) rfl
     · exact One.ex (fun H' τ w hled hM => Ex.move (.slice A2 n2 c2) rfl) rfl (fun _ => rfl) rfl
     · exact One.ex (fun H' τ w hled hM => Ex.move (.int .i64 v24) rfl) rfl (fun _ => rfl) rfl
     · exact One.ex (fun H' τ w hled hM => Ex.index st22 rfl rfl v24.toNat (hF2.ne hg28) hg28.nat (hF2.lt hg28)) rfl (fun _ => rfl) rfl
     · exact One.ex (fun H' τ w hled hM => Ex.fieldE fa47_0 (hF2.ne hg28) rfl) rfl (fun _ => rfl) rfl
     · exact One.ex (fun H' τ w hled hM => Ex.loadE hM (((((hle5.trans hle9).trans hle15).trans hle33).trans hle36).trans hled) hF2.rdc to3 rfl (hx30 0 _ rfl)) rfl (fun _ => rfl) rfl
     · exact One.ex (fun H' τ w hled hM => Ex.index st26 rfl rfl (((ix x1 v24).Volume).toNat) (hM.rowNeD (α := List Sec) (p := 1) rfl hn44 hg49) hg49.nat (Nat.lt_of_lt_of_eq hg49.lt (hn44).symm)) rfl (fun _ => rfl) rfl
     · exact One.ex (fun H' τ w hled hM => Ex.loadR hM 1 rfl to45 (hM.rowNeD (α := List Sec) (p := 1) rfl hn44 hg49) rfl (hx56 0 _ rfl)) rfl (fun _ => rfl) rfl
     · exact One.ex (fun H' τ w hled hM => Ex.move (.slice A2 n2 c2) rfl) rfl (fun _ => rfl) rfl
     · exact One.ex (fun H' τ w hled hM => Ex.move (.int .i64 v24) rfl) rfl (fun _ => rfl) rfl
     · exact One.ex (fun H' τ w hled hM => Ex.index st22 rfl rfl v24.toNat (hF2.ne hg28) hg28.nat (hF2.lt hg28)) rfl (fun _ => rfl) rfl
     · exact One.ex (fun H' τ w hled hM => Ex.fieldE fa47_1 (hF2.ne hg28) rfl) rfl (fun _ => rfl) rfl
     · exact One.ex (fun H' τ w hled hM => Ex.loadE hM (((((hle5.trans hle9).trans hle15).trans hle33).trans hle36).trans hled) hF2.rdc to3 rfl (hx30 1 _ rfl)) rfl (fun _ => rfl) rfl
     · exact One.ex (fun H' τ w hled hM => Ex.move (.int .i64 v45) rfl) rfl (fun _ => rfl) rfl
     · exact One.ex (fun H' τ w hled hM => Ex.add rfl rfl hg57.1 hg57.2) rfl (fun _ => rfl) rfl
     · exact One.ex (fun H' τ w hled hM => Ex.move (.slice A2 n2 c2) rfl) rfl (fun _ => rfl) rfl
     · exact One.ex (fun H' τ w hled hM => Ex.move (.int .i64 v24) rfl) rfl (fun _ => rfl) rfl
     · exact One.ex (fun H' τ w hled hM => Ex.index st22 rfl rfl v24.toNat (hF2.ne hg28) hg28.nat (hF2.lt hg28)) rfl (fun _ => rfl) rfl
     · exact One.ex (fun H' τ w hled hM => Ex.fieldE fa47_2 (hF2.ne hg28) rfl) rfl (fun _ => rfl) rfl
     · exact One.ex (fun H' τ w hled hM => Ex.loadE hM (((((hle5.trans hle9).trans hle15).trans hle33).trans hle36).trans hled) hF2.rdc to45 rfl (hx30 2 _ rfl)) rfl (fun _ => rfl) rfl
     · exact One.ex (fun H' τ w hled hM => Ex.move (.int .i64 v45) rfl) rfl (fun _ => rfl) rfl
     · exact One.ex (fun H' τ w hled hM => Ex.index st45 rfl rfl v45.toNat (hF29.ne hg58) hg58.nat (hF29.lt hg58)) rfl (fun _ => rfl) rfl
     · exact One.ex (fun H' τ w hled hM => Ex.loadEA hM ((hle33.trans hle36).trans hled) hF29.rdc [u8 (ix ((ix x1 v24).Data) v45).b0, u8 (ix ((ix x1 v24).Data) v45).b1, u8 (ix ((ix x1 v24).Data) v45).b2, u8 (ix ((ix x1 v24).Data) v45).b3, u8 (ix ((ix x1 v24).Data) v45).b4, u8 (ix ((ix x1 v24).Data) v45).b5, u8 (ix ((ix x1 v24).Data) v45).b6, u8 (ix ((ix x1 v24).Data) v45).b7] ta58 rfl (hF29.ne hg58) rfl (chunk_sub (off := 0) (n := 8) hx59 rfl)) rfl (fun _ => rfl) rfl
     intro τ w hM
     change RW _ _ _ _ _ _ _ _ (sl [(0, .slice A1 n1 c1), (1, .slice A2 n2 c2), (8, .slice A38 n39 c40), (9, .int .i64 v24), (11, .int .i64 v45), (52, .slice A50 n50 c50), (59, .int .i64 (((ix x1 v24).Start) + v45)), (67, .agg #[u8 (ix ((ix x1 v24).Data) v45).b0, u8 (ix ((ix x1 v24).Data) v45).b1, u8 (ix ((ix x1 v24).Data) v45).b2, u8 (ix ((ix x1 v24).Data) v45).b3, u8 (ix ((ix x1 v24).Data) v45).b4, u8 (ix ((ix x1 v24).Data) v45).b5, u8 (ix ((ix x1 v24).Data) v45).b6, u8 (ix ((ix x1 v24).Data) v45).b7])] τ) _
     obtain ⟨hg60, hm⟩ := hm
     refine RW.st (Ex.index st45 rfl rfl ((((ix x1 v24).Start) + v45).toNat) (hM.rowNeD (α := Sec) (p := 0) rfl hn55 hg60) hg60.nat (Nat.lt_of_lt_of_eq hg60.lt (hn55).symm)) rfl ?_
     refine RW.storeD (α := Sec) (off := 0) (x' := (ix ((ix x1 v24).Data) v45)) hM 0 hF50 (.agg #[u8 (ix ((ix x1 v24).Data) v45).b0, u8 (ix ((ix x1 v24).Data) v45).b1, u8 (ix ((ix x1 v24).Data) v45).b2, u8 (ix ((ix x1 v24).Data) v45).b3, u8 (ix ((ix x1 v24).Data) v45).b4, u8 (ix ((ix x1 v24).Data) v45).b5, u8 (ix ((ix x1 v24).Data) v45).b6, u8 (ix ((ix x1 v24).Data) v45).b7]) [u8 (ix ((ix x1 v24).Data) v45).b0, u8 (ix ((ix x1 v24).Data) v45).b1, u8 (ix ((ix x1 v24).Data) v45).b2, u8 (ix ((ix x1 v24).Data) v45).b3, u8 (ix ((ix x1 v24).Data) v45).b4, u8 (ix ((ix x1 v24).Data) v45).b5, u8 (ix ((ix x1 v24).Data) v45).b6, u8 (ix ((ix x1 v24).Data) v45).b7] sz58 rfl hn55 hg60 (nb rfl) rfl rfl (oneAll ⟨rfl, rfl, rfl, rfl, rfl, rfl, rfl, rfl, trivial⟩) rfl (fun ch h => rdWhole h (show Dt.rd (α := Sec) _ [u8 (ix ((ix x1 v24).Data) v45).b0, u8 (ix ((ix x1 v24).Data) v45).b1, u8 (ix ((ix x1 v24).Data) v45).b2, u8 (ix ((ix x1 v24).Data) v45).b3, u8 (ix ((ix x1 v24).Data) v45).b4, u8 (ix ((ix x1 v24).Data) v45).b5, u8 (ix ((ix x1 v24).Data) v45).b6, u8 (ix ((ix x1 v24).Data) v45).b7] (ix ((ix x1 v24).Data) v45) from rfl)) rfl rfl ?_
     intro s61 w hd62 hM
     refine RW.nil <| CW.region <| RW.st (Ex.move (.int .i64 v45) rfl) rfl ?_
     obtain ⟨hg63, hm⟩ := hm
     refine RW.st (Ex.add rfl rfl hg63.1 hg63.2) rfl <| RW.st (Ex.assign (.int .i64 (v45 + 1)) rfl) rfl <| RW.nil ?_
     obtain ⟨s64, rs65, hd66, hM⟩ := Mem.unfocus (α := List Sec) (Ts := [58]) (x := (put (ix v37 ((ix x1 v24).Volume)) (((ix x1 v24).Start) + v45) (ix ((ix x1 v24).Data) v45))) [.row (.slice A38 n39 c40) 45 1 n39 (c51 ++ ([.slice A50 n50 c50] ++ c52))] hM 0 rfl hh54 ⟨A50, n50, c50, s61, rfl, rfl, hd62, (hn55).trans (put_len _ _ _).symm⟩
     exact And.intro rfl ⟨k46, ⟨(put v37 ((ix x1 v24).Volume) (put (ix v37 ((ix x1 v24).Volume)) (((ix x1 v24).Start) + v45) (ix ((ix x1 v24).Data) v45))), A38, n39, c40, s64, rs65, v45 + 1, Hk35, hle36.trans (Hp.le.refl _), sl_canon ⟨rfl, rfl, rfl, rfl, rfl, trivial⟩, hM, hd66, (hn44).trans (put_len _ _ _).symm, (by rw [hrec47]; exact hm)⟩, Nat.lt_succ_self _⟩
    ·
     replace hm := And.right hm hc48
     refine CW.exit ?_
     refine CW.region <| RW.st (Ex.move (.int .i64 v24) rfl) rfl ?_
     obtain ⟨hg67, hm⟩ := hm
     refine RW.st (Ex.add rfl rfl hg67.1 hg67.2) rfl <| RW.st (Ex.assign (.int .i64 (v24 + 1)) rfl) rfl <| RW.nil ?_
     exact And.intro rfl ⟨k25, ⟨v37, A38, n39, c40, s41, rs42, v24 + 1, Hk35, hle15.trans (hle33.trans hle36), sl_canon ⟨rfl, rfl, rfl, rfl, trivial⟩, hM, hd43, hn44, (by rw [hrec26]; exact hm)⟩, Nat.lt_succ_self _⟩
  ·
   replace hm := And.right hm hc27
   refine CW.exit ?_
   refine CW.sr <| RW.st (Ex.move (.slice A17 n18 c19) rfl) rfl <| RW.st (Ex.assign (.slice A17 n18 c19) rfl) rfl <| RW.st (Ex.assign (.int .i64 0) rfl) rfl <| RW.st (Ex.assign (.int .i64 0) rfl) rfl <| RW.nil <| CW.ret ?_
   refine end_tmp3 (.inl rfl) rfl (.slice A17 n18 c19) (.int .i64 0) (.int .i64 0) rfl rfl rfl ?_
   exact ⟨_, _, hM, (v16, 0, 0), hm, A17, n18, c19, s20, rs21, rfl, hd22, hn23, rfl⟩
theorem pk22 (v : Value) (cs : List Value) : PkR Tryz.prog 22 v cs = (cs = [v]) := by kernel_rfl
set_option maxRecDepth 100000 in
theorem ok49 : ct49.Ok Tryz.prog tab gh := by
  intro x Φ hW H vs _ hA
  obtain ⟨v0, k0, q0, rfl, p0, r0, v1, k1, q1, rfl, p1, r1, hq⟩ := hA
  obtain rfl : q1 = [] := hq
  rw [pk26] at p0
  subst p0
  obtain ⟨A0, n0, c0, s0, e0, hF0⟩ := (show Dt.rd (α := List (List Sec)) H _ _ from r0)
  obtain rfl := (List.cons.inj e0).1
  rw [pk22] at p1
  subst p1
  obtain ⟨A1, n1, c1, s1, e1, hF1⟩ := (show Dt.rd (α := List api_Write) H _ _ from r1)
  obtain rfl := (List.cons.inj e1).1
  have hW : ref07_Apply_W x.1 x.2.1 (fun y => Φ (y.1, y.2.1, y.2.2, ())) := hW
  intro w hw
  refine (ref07_Apply_lift x.1 x.2.1 hF0 hF1 hW w hw).mono fun e w' ⟨v, H', L', h1, hM, y, hy, A, n, c, s, rs, hv, hd, hn, hL⟩ => ?_
  subst hL
  obtain ⟨H2, g1, g2, g3⟩ := DeepL.flat (es := [_]) hM hd
  refine ⟨v, H2, _, h1, g1, _, hy, fun nx ρ0 hn0 s' b m hre => ?_⟩
  rw [show resE Tryz.prog tab ct49.rs ct49.own (y.1, y.2.1, y.2.2, ()) nx = some (.tup [.own nx, .i .i64 y.2.1, .i .i64 y.2.2], [(nx, .row 45 y.1)], nx + 1) by kernel_rfl] at hre
  cases hre
  obtain ⟨f1, f2⟩ := fresh_put hn0 (.r A n c)
  exact ⟨ρ0.put nx (.r A n c), f1, Nat.le_succ _, f2, fun id hid => RM.put_ne _ _ (Nat.ne_of_lt hid), ⟨_, hv, _, _, rfl, ⟨A, n, c, RM.put_same _ _ _, rfl⟩, _, _, rfl, rfl, _, _, rfl, rfl, rfl⟩, _, _, rfl, ⟨A, n, c, s, RM.put_same _ _ _, rfl, g3, hn⟩, rfl⟩
theorem ok33 : ct33.Ok Tryz.prog tab gh := Ct.lift (E := ⟨Tryz.prog, tab, [], pl33, [], gh, [], [], []⟩) ⟨tabOk, trivial, mo, trivial, ghUp, trivial, trivial⟩ 9 ct33 fun x Φ => by rw [eq33]; exact id
theorem ok11 : ct11.Ok Tryz.prog tab gh := Ct.lift (E := ⟨Tryz.prog, tab, [ct33], pl11, [], gh, [], [], []⟩) ⟨tabOk, ⟨ok33, trivial⟩, mo, trivial, ghUp, trivial, trivial⟩ 9 ct11 fun x Φ => by rw [eq11]; exact id
theorem ok31 : ct31.Ok Tryz.prog tab gh := Ct.lift (E := ⟨Tryz.prog, tab, [], pl31, [], gh, [], [], []⟩) ⟨tabOk, trivial, mo, trivial, ghUp, trivial, trivial⟩ 9 ct31 fun x Φ => by rw [eq31]; exact id
theorem ok48 : ct48.Ok Tryz.prog tab gh := Ct.lift (E := ⟨Tryz.prog, tab, [], pl48, [], gh, [], [], []⟩) ⟨tabOk, trivial, mo, trivial, ghUp, trivial, trivial⟩ 9 ct48 fun x Φ => by rw [eq48]; exact id
theorem ok47 : ct47.Ok Tryz.prog tab gh := Ct.lift (E := ⟨Tryz.prog, tab, [ct48], pl47, [], gh, [], [], []⟩) ⟨tabOk, ⟨ok48, trivial⟩, mo, trivial, ghUp, trivial, trivial⟩ 9 ct47 fun x Φ => by rw [eq47]; exact id
theorem ok93 : ct93.Ok Tryz.prog tab gh := Ct.lift (E := ⟨Tryz.prog, tab, [], pl93, [], gh, [], [], []⟩) ⟨tabOk, trivial, mo, trivial, ghUp, trivial, trivial⟩ 9 ct93 fun x Φ => by rw [eq93]; exact id
theorem ok69 : ct69.Ok Tryz.prog tab gh := Ct.lift (E := ⟨Tryz.prog, tab, [ct31, ct47, ct93], pl69, [], gh, [], [], []⟩) ⟨tabOk, ⟨ok31, ok47, ok93, trivial⟩, mo, trivial, ghUp, trivial, trivial⟩ 9 ct69 fun x Φ => by rw [eq69]; exact id
theorem ok32 : ct32.Ok Tryz.prog tab gh := Ct.lift (E := ⟨Tryz.prog, tab, [ct69], pl32, [], gh, [], [], []⟩) ⟨tabOk, ⟨ok69, trivial⟩, mo, trivial, ghUp, trivial, trivial⟩ 9 ct32 fun x Φ => by rw [eq32]; exact id
theorem ok10 : ct10.Ok Tryz.prog tab gh := Ct.lift (E := ⟨Tryz.prog, tab, [ct31, ct32], pl10, [], gh, [], [], []⟩) ⟨tabOk, ⟨ok31, ok32, trivial⟩, mo, trivial, ghUp, trivial, trivial⟩ 9 ct10 fun x Φ => by rw [eq10]; exact id
theorem ok17 : ct17.Ok Tryz.prog tab gh := Ct.lift (E := ⟨Tryz.prog, tab, [ct9, ct10, ct11, ct49], pl17, [], gh, [], [], []⟩) ⟨tabOk, ⟨ok9, ok10, ok11, ok49, trivial⟩, mo, trivial, ghUp, trivial, trivial⟩ 9 ct17 fun x Φ => by rw [eq17]; exact id
theorem ok78 : ct78.Ok Tryz.prog tab gh := Ct.lift (E := ⟨Tryz.prog, tab, [], pl78, [], gh, [], [], []⟩) ⟨tabOk, trivial, mo, trivial, ghUp, trivial, trivial⟩ 9 ct78 fun x Φ => by rw [eq78]; exact id
theorem ok79 : ct79.Ok Tryz.prog tab gh := Ct.lift (E := ⟨Tryz.prog, tab, [ct78], pl79, [], gh, [], [], []⟩) ⟨tabOk, ⟨ok78, trivial⟩, mo, trivial, ghUp, trivial, trivial⟩ 9 ct79 fun x Φ => by rw [eq79]; exact id
theorem ok113 : ct113.Ok Tryz.prog tab gh := Ct.lift (E := ⟨Tryz.prog, tab, [], pl113, [], gh, [], [], []⟩) ⟨tabOk, trivial, mo, trivial, ghUp, trivial, trivial⟩ 9 ct113 fun x Φ => by rw [eq113]; exact id
theorem ok96 : ct96.Ok Tryz.prog tab gh := Ct.lift (E := ⟨Tryz.prog, tab, [ct113], pl96, [], gh, [], [], []⟩) ⟨tabOk, ⟨ok113, trivial⟩, mo, trivial, ghUp, trivial, trivial⟩ 9 ct96 fun x Φ => by rw [eq96]; exact id
theorem ok88 : ct88.Ok Tryz.prog tab gh := Ct.lift (E := ⟨Tryz.prog, tab, [], pl88, [], gh, [], [], []⟩) ⟨tabOk, trivial, mo, trivial, ghUp, trivial, trivial⟩ 9 ct88 fun x Φ => by rw [eq88]; exact id
theorem ok63 : ct63.Ok Tryz.prog tab gh := Ct.lift (E := ⟨Tryz.prog, tab, [ct88], pl63, [], gh, [], [], []⟩) ⟨tabOk, ⟨ok88, trivial⟩, mo, trivial, ghUp, trivial, trivial⟩ 9 ct63 fun x Φ => by rw [eq63]; exact id
theorem ok71 : ct71.Ok Tryz.prog tab gh := Ct.lift (E := ⟨Tryz.prog, tab, [ct63, ct96], pl71, [], gh, [], [], []⟩) ⟨tabOk, ⟨ok63, ok96, trivial⟩, mo, trivial, ghUp, trivial, trivial⟩ 9 ct71 fun x Φ => by rw [eq71]; exact id
theorem ok89 : ct89.Ok Tryz.prog tab gh := Ct.lift (E := ⟨Tryz.prog, tab, [], pl89, [], gh, [], [], []⟩) ⟨tabOk, trivial, mo, trivial, ghUp, trivial, trivial⟩ 9 ct89 fun x Φ => by rw [eq89]; exact id
theorem ok80 : ct80.Ok Tryz.prog tab gh := Ct.lift (E := ⟨Tryz.prog, tab, [ct89], pl80, [], gh, [], [], []⟩) ⟨tabOk, ⟨ok89, trivial⟩, mo, trivial, ghUp, trivial, trivial⟩ 9 ct80 fun x Φ => by rw [eq80]; exact id
theorem ok50 : ct50.Ok Tryz.prog tab gh := Ct.lift (E := ⟨Tryz.prog, tab, [ct71, ct78, ct79, ct80], pl50, [], gh, [], [], []⟩) ⟨tabOk, ⟨ok71, ok78, ok79, ok80, trivial⟩, mo, trivial, ghUp, trivial, trivial⟩ 9 ct50 fun x Φ => by rw [eq50]; exact id
theorem ok51 : ct51.Ok Tryz.prog tab gh := Ct.lift (E := ⟨Tryz.prog, tab, [], pl51, [], gh, [], [], []⟩) ⟨tabOk, trivial, mo, trivial, ghUp, trivial, trivial⟩ 9 ct51 fun x Φ => by rw [eq51]; exact id
theorem ok101 : ct101.Ok Tryz.prog tab gh := Ct.lift (E := ⟨Tryz.prog, tab, [], pl101, [], gh, [], [], []⟩) ⟨tabOk, trivial, mo, trivial, ghUp, trivial, trivial⟩ 9 ct101 fun x Φ => by rw [eq101]; exact id
theorem pk106 (v : Value) (cs : List Value) : PkR Tryz.prog 106 v cs = (cs = [v]) := by kernel_rfl
theorem Ret.toP {P : Program} {f : FuncId} {args : Array Value} {H : Hp} {Φ : Hp → Value → Prop} (h : Ret P f args H Φ) : RetP P f args H (fun H' v L => Φ H' v ∧ L = []) := fun w hw =>
  (h w hw).mono fun _ _ ⟨v, H', h1, h2, h3, h4, h5, h6⟩ => ⟨v, H', [], h1, ⟨h5, h2, h4, h3, by simp, List.Pairwise.nil, by simp⟩, h6, rfl⟩
theorem tz_ret (H : Hp) (x : BitVec 64) (hx : x ≠ 0#64) (hT : TabH H 0) : RetV Tryz.prog 102 #[u64 x] H (.int .i64 (Lib.ctz 64 x.toNat : Int)) := by
  obtain ⟨cs, T, fr, hb, hc⟩ := hT
  obtain ⟨hi, htab, hk⟩ := tz_idx hx
  refine Ret.of_code Tryz.func102 rfl (Nat.le_of_ble_eq_true rfl) fun w0 hM => ?_
  refine CW.seq (CW.region (RW.step (Ex.assign (.int .i64 0) rfl) rfl rfl rfl (RW.nil ?_)))
  refine CW.seq (CW.seq (CW.region (RW.step (Ex.move (u64 x) rfl) rfl rfl rfl (RW.step (Ex.eql64 (a := x) (b := 0#64) rfl rfl) rfl rfl rfl (RW.nil ?_)))))
  refine CW.cond_dec rfl (fun h => absurd h hx) fun _ => CW.skip ?_
  refine CW.seq (CW.region ?_)
  refine RW.step (Ex.move (u64 x) rfl) rfl rfl rfl ?_
  refine RW.step (Ex.move (u64 x) rfl) rfl rfl rfl ?_
  refine RW.step (Ex.neg64 (a := x) rfl) rfl rfl rfl ?_
  refine RW.step (Ex.and64 (a := x) (b := -x) rfl rfl) rfl rfl rfl ?_
  refine RW.step (Ex.mul64 (a := x &&& -x) (b := 285870213051353865#64) rfl rfl) rfl rfl rfl ?_
  refine RW.step (Ex.shr64 (a := (x &&& -x) * 285870213051353865#64) (n := 58) rfl rfl (by omega)) rfl rfl rfl ?_
  refine RW.step (Ex.indexArr (arrT_of (n := 64) (e := 5) (sz := 1) (by kernel_rfl)) rfl rfl (((x &&& -x) * 285870213051353865#64) >>> (58 : Int).toNat).toNat rfl hi) rfl rfl rfl ?_
  refine RW.step (Ex.loadH hM (Hp.le.refl _) hb to5 rfl (by rw [Nat.zero_add, Nat.mul_one, hc _ hi, htab])) rfl rfl rfl ?_
  refine RW.step (Ex.conv Tryz.underlying5 Tryz.underlying3 rfl (wrap_i64 (by omega) (by omega))) rfl rfl rfl ?_
  refine RW.step (Ex.assign (.int .i64 (Lib.ctz 64 x.toNat : Int)) rfl) rfl rfl rfl (RW.nil ?_)
  refine CW.ret ?_
  refine end_tmp (.inl rfl) rfl (.int .i64 (Lib.ctz 64 x.toNat : Int)) rfl ?_
  exact ⟨_, _, hM, rfl⟩
set_option maxRecDepth 100000 in
theorem ok102 : ct102.Ok Tryz.prog tab gh := by
  intro x Φ hW H vs hG hA
  obtain ⟨v0, k0, q0, rfl, p0, r0, hq⟩ := hA
  obtain rfl : q0 = [] := hq
  rw [pk106] at p0
  subst p0
  have e0 : [v0] = [u64 x.1] := r0
  cases e0
  have hW : x.1 ≠ 0#64 ∧ Φ ((Lib.ctz 64 (x.1 : BitVec 64).toNat : Int), ()) := hW
  refine RetP.mono (Ret.toP (tz_ret H x.1 hW.1 hG)) fun H' v L _ ⟨hv, hL⟩ => ⟨_, hW.2, fun nx ρ0 hn0 s b m hre => ?_⟩
  rw [show resE Tryz.prog tab ct102.rs ct102.own ((Lib.ctz 64 (x.1 : BitVec 64).toNat : Int), ()) nx = some (.i .i64 (Lib.ctz 64 (x.1 : BitVec 64).toNat : Int), [], nx) by kernel_rfl] at hre
  cases hre
  exact ⟨ρ0, RM.le.refl _, Nat.le_refl _, hn0, fun _ _ => rfl, hv, hL⟩
theorem itok100 : it100.Ok Tryz.prog gh := It.lift (E := ⟨Tryz.prog, tab, [ct80, ct101, ct102], pl100, [], gh, [], [], []⟩) ⟨tabOk, ⟨ok80, ok101, ok102, trivial⟩, mo, trivial, ghUp, trivial, trivial⟩ it100 fun x l => by rw [eqi100]; exact id
theorem ok54 : ct54.Ok Tryz.prog tab gh := Ct.lift (E := ⟨Tryz.prog, tab, [], pl54, [it100], gh, [], [], []⟩) ⟨tabOk, trivial, mo, ⟨itok100, trivial⟩, ghUp, trivial, trivial⟩ 9 ct54 fun x Φ => by rw [eq54]; exact id
theorem ok53 : ct53.Ok Tryz.prog tab gh := Ct.lift (E := ⟨Tryz.prog, tab, [ct54], pl53, [], gh, [], [], []⟩) ⟨tabOk, ⟨ok54, trivial⟩, mo, trivial, ghUp, trivial, trivial⟩ 9 ct53 fun x Φ => by rw [eq53]; exact id
theorem ok19 : ct19.Ok Tryz.prog tab gh := Ct.lift (E := ⟨Tryz.prog, tab, [ct50, ct51, ct53], pl19, [], gh, [], [], []⟩) ⟨tabOk, ⟨ok50, ok51, ok53, trivial⟩, mo, trivial, ghUp, trivial, trivial⟩ 9 ct19 fun x Φ => by rw [eq19]; exact id
theorem ok104 : ct104.Ok Tryz.prog tab gh := Ct.lift (E := ⟨Tryz.prog, tab, [], pl104, [], gh, [], [], []⟩) ⟨tabOk, trivial, mo, trivial, ghUp, trivial, trivial⟩ 9 ct104 fun x Φ => by rw [eq104]; exact id
theorem ok82 : ct82.Ok Tryz.prog tab gh := Ct.lift (E := ⟨Tryz.prog, tab, [ct104], pl82, [], gh, [], [], []⟩) ⟨tabOk, ⟨ok104, trivial⟩, mo, trivial, ghUp, trivial, trivial⟩ 9 ct82 fun x Φ => by rw [eq82]; exact id
theorem ok76 : ct76.Ok Tryz.prog tab gh := Ct.lift (E := ⟨Tryz.prog, tab, [], pl76, [], gh, [], [], []⟩) ⟨tabOk, trivial, mo, trivial, ghUp, trivial, trivial⟩ 9 ct76 fun x Φ => by rw [eq76]; exact id
theorem ok42 : ct42.Ok Tryz.prog tab gh := Ct.lift (E := ⟨Tryz.prog, tab, [ct76, ct80], pl42, [], gh, [], [], []⟩) ⟨tabOk, ⟨ok76, ok80, trivial⟩, mo, trivial, ghUp, trivial, trivial⟩ 9 ct42 fun x Φ => by rw [eq42]; exact id
theorem ok83 : ct83.Ok Tryz.prog tab gh := Ct.lift (E := ⟨Tryz.prog, tab, [ct42, ct54], pl83, [], gh, [], [], []⟩) ⟨tabOk, ⟨ok42, ok54, trivial⟩, mo, trivial, ghUp, trivial, trivial⟩ 9 ct83 fun x Φ => by rw [eq83]; exact id
theorem ok55 : ct55.Ok Tryz.prog tab gh := Ct.lift (E := ⟨Tryz.prog, tab, [ct50, ct82, ct83], pl55, [], gh, [], [], []⟩) ⟨tabOk, ⟨ok50, ok82, ok83, trivial⟩, mo, trivial, ghUp, trivial, trivial⟩ 9 ct55 fun x Φ => by rw [eq55]; exact id
theorem ok20 : ct20.Ok Tryz.prog tab gh := Ct.lift (E := ⟨Tryz.prog, tab, [ct55], pl20, [], gh, [], [], []⟩) ⟨tabOk, ⟨ok55, trivial⟩, mo, trivial, ghUp, trivial, trivial⟩ 9 ct20 fun x Φ => by rw [eq20]; exact id
theorem ok56 : ct56.Ok Tryz.prog tab gh := Ct.lift (E := ⟨Tryz.prog, tab, [ct79], pl56, [], gh, [], [], []⟩) ⟨tabOk, ⟨ok79, trivial⟩, mo, trivial, ghUp, trivial, trivial⟩ 9 ct56 fun x Φ => by rw [eq56]; exact id
theorem ok29 : ct29.Ok Tryz.prog tab gh := Ct.lift (E := ⟨Tryz.prog, tab, [], pl29, [], gh, [], [], []⟩) ⟨tabOk, trivial, mo, trivial, ghUp, trivial, trivial⟩ 9 ct29 fun x Φ => by rw [eq29]; exact id
theorem ok57 : ct57.Ok Tryz.prog tab gh := Ct.lift (E := ⟨Tryz.prog, tab, [], pl57, [], gh, [], [], []⟩) ⟨tabOk, trivial, mo, trivial, ghUp, trivial, trivial⟩ 9 ct57 fun x Φ => by rw [eq57]; exact id
theorem ok65 : ct65.Ok Tryz.prog tab gh := Ct.lift (E := ⟨Tryz.prog, tab, [], pl65, [], gh, [], [], []⟩) ⟨tabOk, trivial, mo, trivial, ghUp, trivial, trivial⟩ 9 ct65 fun x Φ => by rw [eq65]; exact id
theorem ok25 : ct25.Ok Tryz.prog tab gh := Ct.lift (E := ⟨Tryz.prog, tab, [ct63, ct65], pl25, [], gh, [], [], []⟩) ⟨tabOk, ⟨ok63, ok65, trivial⟩, mo, trivial, ghUp, trivial, trivial⟩ 9 ct25 fun x Φ => by rw [eq25]; exact id
theorem ok84 : ct84.Ok Tryz.prog tab gh := Ct.lift (E := ⟨Tryz.prog, tab, [], pl84, [], gh, [], [], []⟩) ⟨tabOk, trivial, mo, trivial, ghUp, trivial, trivial⟩ 9 ct84 fun x Φ => by rw [eq84]; exact id
theorem ok105 : ct105.Ok Tryz.prog tab gh := Ct.lift (E := ⟨Tryz.prog, tab, [ct84], pl105, [], gh, [], [], []⟩) ⟨tabOk, ⟨ok84, trivial⟩, mo, trivial, ghUp, trivial, trivial⟩ 9 ct105 fun x Φ => by rw [eq105]; exact id
theorem ok85 : ct85.Ok Tryz.prog tab gh := Ct.lift (E := ⟨Tryz.prog, tab, [ct84, ct105], pl85, [], gh, [], [], []⟩) ⟨tabOk, ⟨ok84, ok105, trivial⟩, mo, trivial, ghUp, trivial, trivial⟩ 9 ct85 fun x Φ => by rw [eq85]; exact id
theorem ok72 : ct72.Ok Tryz.prog tab gh := Ct.lift (E := ⟨Tryz.prog, tab, [], pl72, [], gh, [], [], []⟩) ⟨tabOk, trivial, mo, trivial, ghUp, trivial, trivial⟩ 9 ct72 fun x Φ => by rw [eq72]; exact id
theorem ok35 : ct35.Ok Tryz.prog tab gh := Ct.lift (E := ⟨Tryz.prog, tab, [ct71, ct72], pl35, [], gh, [], [], []⟩) ⟨tabOk, ⟨ok71, ok72, trivial⟩, mo, trivial, ghUp, trivial, trivial⟩ 9 ct35 fun x Φ => by rw [eq35]; exact id
theorem ok86 : ct86.Ok Tryz.prog tab gh := Ct.lift (E := ⟨Tryz.prog, tab, [ct25, ct35], pl86, [], gh, [], [], []⟩) ⟨tabOk, ⟨ok25, ok35, trivial⟩, mo, trivial, ghUp, trivial, trivial⟩ 9 ct86 fun x Φ => by rw [eq86]; exact id
theorem ok58 : ct58.Ok Tryz.prog tab gh := Ct.lift (E := ⟨Tryz.prog, tab, [ct25, ct84, ct85, ct86], pl58, [], gh, [], [], []⟩) ⟨tabOk, ⟨ok25, ok84, ok85, ok86, trivial⟩, mo, trivial, ghUp, trivial, trivial⟩ 9 ct58 fun x Φ => by rw [eq58]; exact id
theorem ok21 : ct21.Ok Tryz.prog tab gh := Ct.lift (E := ⟨Tryz.prog, tab, [ct29, ct51, ct55, ct56, ct57, ct58], pl21, [], gh, [], [], []⟩) ⟨tabOk, ⟨ok29, ok51, ok55, ok56, ok57, ok58, trivial⟩, mo, trivial, ghUp, trivial, trivial⟩ 9 ct21 fun x Φ => by rw [eq21]; exact id
theorem ok59 : ct59.Ok Tryz.prog tab gh := Ct.lift (E := ⟨Tryz.prog, tab, [], pl59, [], gh, [], [], []⟩) ⟨tabOk, trivial, mo, trivial, ghUp, trivial, trivial⟩ 9 ct59 fun x Φ => by rw [eq59]; exact id
theorem ok22 : ct22.Ok Tryz.prog tab gh := Ct.lift (E := ⟨Tryz.prog, tab, [ct59], pl22, [], gh, [], [], []⟩) ⟨tabOk, ⟨ok59, trivial⟩, mo, trivial, ghUp, trivial, trivial⟩ 9 ct22 fun x Φ => by rw [eq22]; exact id
theorem ok5 : ct5.Ok Tryz.prog tab gh := Ct.lift (E := ⟨Tryz.prog, tab, [ct17, ct18, ct19, ct20, ct21, ct22], pl5, [], gh, [], [], []⟩) ⟨tabOk, ⟨ok17, ok18, ok19, ok20, ok21, ok22, trivial⟩, mo, trivial, ghUp, trivial, trivial⟩ 9 ct5 fun x Φ => by rw [eq5]; exact id
theorem ok23 : ct23.Ok Tryz.prog tab gh := Ct.lift (E := ⟨Tryz.prog, tab, [ct60], pl23, [], gh, [], [], []⟩) ⟨tabOk, ⟨ok60, trivial⟩, mo, trivial, ghUp, trivial, trivial⟩ 9 ct23 fun x Φ => by rw [eq23]; exact id
theorem ok6 : ct6.Ok Tryz.prog tab gh := Ct.lift (E := ⟨Tryz.prog, tab, [ct23], pl6, [], gh, [], [], []⟩) ⟨tabOk, ⟨ok23, trivial⟩, mo, trivial, ghUp, trivial, trivial⟩ 9 ct6 fun x Φ => by rw [eq6]; exact id
theorem ok7 : ct7.Ok Tryz.prog tab gh := Ct.lift (E := ⟨Tryz.prog, tab, [ct24], pl7, [], gh, [], [], []⟩) ⟨tabOk, ⟨ok24, trivial⟩, mo, trivial, ghUp, trivial, trivial⟩ 9 ct7 fun x Φ => by rw [eq7]; exact id
theorem ok28 : ct28.Ok Tryz.prog tab gh := Ct.lift (E := ⟨Tryz.prog, tab, [], pl28, [], gh, [], [], []⟩) ⟨tabOk, trivial, mo, trivial, ghUp, trivial, trivial⟩ 9 ct28 fun x Φ => by rw [eq28]; exact id
theorem ok26 : ct26.Ok Tryz.prog tab gh := Ct.lift (E := ⟨Tryz.prog, tab, [ct28], pl26, [], gh, [], [], []⟩) ⟨tabOk, ⟨ok28, trivial⟩, mo, trivial, ghUp, trivial, trivial⟩ 9 ct26 fun x Φ => by rw [eq26]; exact id
theorem ok66 : ct66.Ok Tryz.prog tab gh := Ct.lift (E := ⟨Tryz.prog, tab, [ct89], pl66, [], gh, [], [], []⟩) ⟨tabOk, ⟨ok89, trivial⟩, mo, trivial, ghUp, trivial, trivial⟩ 9 ct66 fun x Φ => by rw [eq66]; exact id
theorem ok27 : ct27.Ok Tryz.prog tab gh := Ct.lift (E := ⟨Tryz.prog, tab, [ct66], pl27, [], gh, [], [], []⟩) ⟨tabOk, ⟨ok66, trivial⟩, mo, trivial, ghUp, trivial, trivial⟩ 9 ct27 fun x Φ => by rw [eq27]; exact id
theorem ok8 : ct8.Ok Tryz.prog tab gh := Ct.lift (E := ⟨Tryz.prog, tab, [ct25, ct26, ct27, ct28, ct29], pl8, [], gh, [], [], [sk67]⟩) ⟨tabOk, ⟨ok25, ok26, ok27, ok28, ok29, trivial⟩, mo, trivial, ghUp, trivial, ⟨skok67, trivial⟩⟩ 9 ct8 fun x Φ => by rw [eq8]; exact id
theorem ok95 : ct95.Ok Tryz.prog tab gh := Ct.lift (E := ⟨Tryz.prog, tab, [ct80], pl95, [], gh, [], [], []⟩) ⟨tabOk, ⟨ok80, trivial⟩, mo, trivial, ghUp, trivial, trivial⟩ 9 ct95 fun x Φ => by rw [eq95]; exact id
theorem ok70 : ct70.Ok Tryz.prog tab gh := Ct.lift (E := ⟨Tryz.prog, tab, [ct95], pl70, [], gh, [], [], []⟩) ⟨tabOk, ⟨ok95, trivial⟩, mo, trivial, ghUp, trivial, trivial⟩ 9 ct70 fun x Φ => by rw [eq70]; exact id
theorem ok34 : ct34.Ok Tryz.prog tab gh := Ct.lift (E := ⟨Tryz.prog, tab, [ct25, ct26, ct28, ct70], pl34, [], gh, [], [], []⟩) ⟨tabOk, ⟨ok25, ok26, ok28, ok70, trivial⟩, mo, trivial, ghUp, trivial, trivial⟩ 9 ct34 fun x Φ => by rw [eq34]; exact id
theorem ok45 : ct45.Ok Tryz.prog tab gh := Ct.lift (E := ⟨Tryz.prog, tab, [], pl45, [], gh, [], [], []⟩) ⟨tabOk, trivial, mo, trivial, ghUp, trivial, trivial⟩ 9 ct45 fun x Φ => by rw [eq45]; exact id
theorem ok97 : ct97.Ok Tryz.prog tab gh := Ct.lift (E := ⟨Tryz.prog, tab, [ct45], pl97, [], gh, [], [], []⟩) ⟨tabOk, ⟨ok45, trivial⟩, mo, trivial, ghUp, trivial, trivial⟩ 9 ct97 fun x Φ => by rw [eq97]; exact id
theorem ok73 : ct73.Ok Tryz.prog tab gh := Ct.lift (E := ⟨Tryz.prog, tab, [ct97], pl73, [], gh, [], [], []⟩) ⟨tabOk, ⟨ok97, trivial⟩, mo, trivial, ghUp, trivial, trivial⟩ 9 ct73 fun x Φ => by rw [eq73]; exact id
theorem ok114 : ct114.Ok Tryz.prog tab gh := Ct.lift (E := ⟨Tryz.prog, tab, [], pl114, [], gh, [], [], []⟩) ⟨tabOk, trivial, mo, trivial, ghUp, trivial, trivial⟩ 9 ct114 fun x Φ => by rw [eq114]; exact id
theorem ok98 : ct98.Ok Tryz.prog tab gh := Ct.lift (E := ⟨Tryz.prog, tab, [], pl98, [], gh, [], [], []⟩) ⟨tabOk, trivial, mo, trivial, ghUp, trivial, trivial⟩ 9 ct98 fun x Φ => by rw [eq98]; exact id
theorem ok74 : ct74.Ok Tryz.prog tab gh := Ct.lift (E := ⟨Tryz.prog, tab, [ct45, ct80, ct98, ct101, ct114], pl74, [], gh, [], [], []⟩) ⟨tabOk, ⟨ok45, ok80, ok98, ok101, ok114, trivial⟩, mo, trivial, ghUp, trivial, trivial⟩ 9 ct74 fun x Φ => by rw [eq74]; exact id
theorem ok12 : ct12.Ok Tryz.prog tab gh := Ct.lift (E := ⟨Tryz.prog, tab, [ct25, ct29, ct34, ct35, ct73, ct74], pl12, [], gh, [], [([10, 0, 1, 11, 0, 1, 1, 1, 1, 1], 54002), ([10, 0, 4, 1, 1, 5, 4, 1, 0, 1, 1, 1, 1, 1, 1], 54002), ([10, 0, 11, 0, 0, 1, 1, 14, 0, 1, 12, 0, 1, 1, 1, 1, 1, 1, 1], 54002), ([11, 0, 0, 1, 1, 1, 1, 1, 1], 54002), ([13, 1, 1, 4, 1, 1, 5, 4, 1, 0, 1, 1, 1, 1, 1, 1], 54002), ([14, 1, 1, 4, 0, 1, 1, 5, 4, 1, 0, 1, 1, 11, 0, 1, 1, 1, 1, 1], 54002)], [sk67]⟩) ⟨tabOk, ⟨ok25, ok29, ok34, ok35, ok73, ok74, trivial⟩, mo, trivial, ghUp, trivial, ⟨skok67, trivial⟩⟩ 9 ct12 fun x Φ => by rw [eq12]; exact id
theorem ok41 : ct41.Ok Tryz.prog tab gh := Ct.lift (E := ⟨Tryz.prog, tab, [ct66, ct74], pl41, [], gh, [], [], []⟩) ⟨tabOk, ⟨ok66, ok74, trivial⟩, mo, trivial, ghUp, trivial, trivial⟩ 9 ct41 fun x Φ => by rw [eq41]; exact id
theorem ok44 : ct44.Ok Tryz.prog tab gh := Ct.lift (E := ⟨Tryz.prog, tab, [ct45], pl44, [], gh, [], [], []⟩) ⟨tabOk, ⟨ok45, trivial⟩, mo, trivial, ghUp, trivial, trivial⟩ 9 ct44 fun x Φ => by rw [eq44]; exact id
theorem ok13 : ct13.Ok Tryz.prog tab gh := Ct.liftS (E := ⟨Tryz.prog, tab, [ct29, ct34, ct41, ct42, ct44], pl13, [], gh, [], [], []⟩) ⟨tabOk, ⟨ok29, ok34, ok41, ok42, ok44, trivial⟩, mo, trivial, ghUp, trivial, trivial⟩ 9 ct13 fun x Φ => by rw [eq13]; exact id
theorem ok14 : ct14.Ok Tryz.prog tab gh := Ct.lift (E := ⟨Tryz.prog, tab, [ct34, ct73], pl14, [], gh, [], [], []⟩) ⟨tabOk, ⟨ok34, ok73, trivial⟩, mo, trivial, ghUp, trivial, trivial⟩ 9 ct14 fun x Φ => by rw [eq14]; exact id
theorem ok46 : ct46.Ok Tryz.prog tab gh := Ct.lift (E := ⟨Tryz.prog, tab, [], pl46, [], gh, [], [], []⟩) ⟨tabOk, trivial, mo, trivial, ghUp, trivial, trivial⟩ 9 ct46 fun x Φ => by rw [eq46]; exact id
theorem ok15 : ct15.Ok Tryz.prog tab gh := Ct.lift (E := ⟨Tryz.prog, tab, [ct46], pl15, [], gh, [], [], []⟩) ⟨tabOk, ⟨ok46, trivial⟩, mo, trivial, ghUp, trivial, trivial⟩ 9 ct15 fun x Φ => by rw [eq15]; exact id
theorem ok16 : ct16.Ok Tryz.prog tab gh := Ct.lift (E := ⟨Tryz.prog, tab, [ct47, ct48], pl16, [], gh, [], [], []⟩) ⟨tabOk, ⟨ok47, ok48, trivial⟩, mo, trivial, ghUp, trivial, trivial⟩ 9 ct16 fun x Φ => by rw [eq16]; exact id
theorem ok3 : ct3.Ok Tryz.prog tab gh := Ct.lift (E := ⟨Tryz.prog, tab, [ct4, ct5, ct6, ct7, ct8, ct9, ct10, ct11, ct12, ct13, ct14, ct15, ct16], pl3, [], gh, [], [], []⟩) ⟨tabOk, ⟨ok4, ok5, ok6, ok7, ok8, ok9, ok10, ok11, ok12, ok13, ok14, ok15, ok16, trivial⟩, mo, trivial, ghUp, trivial, trivial⟩ 9 ct3 fun x Φ => by rw [eq3]; exact id
section
theorem iI {x : Int} (h1 : -9223372036854775808 ≤ x) (h2 : x ≤ 9223372036854775807) : inI x := ⟨h1, h2⟩
theorem iX {i : Int} {n : Nat} (h1 : 0 ≤ i) (h2 : i < (n : Int)) : inX i n := ⟨h1, h2⟩
theorem iL {n b : Nat} (h : n ≤ 1000000) (hb : b ≤ 1000000) : lenOk n b := by
  have := Nat.mul_le_mul h hb
  refine ⟨by omega, ?_⟩
  simp only [maxLen]
  omega
section
variable {α : Type} [Dt α]
theorem ix_get {xs : List α} {k : Nat} (h : k < xs.length) : ix xs (k : Int) = xs[k] := by
  show xs.getD k default = _
  rw [List.getD_eq_getElem?_getD, List.getElem?_eq_getElem h]; rfl
theorem take_ix {xs : List α} {k : Nat} (h : k < xs.length) : xs.take (k + 1) = xs.take k ++ [ix xs (k : Int)] := by
  rw [ix_get h]; exact (List.take_append_getElem h).symm
theorem ix_mem {xs : List α} {i : Int} (h : inX i xs.length) : ix xs i ∈ xs := by
  have e := h.nat
  have hl := h.lt
  rw [e, ix_get hl]
  exact List.getElem_mem hl
theorem ext_ix {xs ys : List α} (hl : xs.length = ys.length) (h : ∀ k : Nat, k < xs.length → ix xs (k : Int) = ix ys (k : Int)) : xs = ys := by
  apply List.ext_getElem hl
  intro k h1 h2
  have := h k h1
  rwa [ix_get h1, ix_get h2] at this
omit [Dt α] in
theorem put_nat (xs : List α) (k : Nat) (x : α) : put xs (k : Int) x = xs.set k x := rfl
end
section
variable {A : Type}
theorem LoopW.up {step : Int → (Int → Prop) → Prop} (n : Nat) (Inv : Nat → Prop) (h : ∀ (k : Nat) rec, k ≤ n → Inv k → (k < n → Inv (k + 1) → rec ((k : Int) + 1)) → step (k : Int) rec) {k0 : Nat} {i0 : Int} (hi : i0 = (k0 : Int)) (hk : k0 ≤ n) (h0 : Inv k0) : LoopW step i0 := by
  subst hi
  refine LoopW.of_inv (fun i => ∃ k : Nat, i = (k : Int) ∧ k ≤ n ∧ Inv k) (fun i => n - i.toNat) ?_ ⟨k0, rfl, hk, h0⟩
  rintro _ rec ⟨k, rfl, hk, hI⟩ hrec
  refine h k rec hk hI fun hlt hI' => hrec _ ⟨k + 1, rfl, hlt, hI'⟩ ?_
  simp only [Int.toNat_natCast]
  omega
theorem LoopW.upS {S : Type} {step : S → (S → Prop) → Prop} (n : Nat) (idx : S → Int) (Inv : Nat → S → Prop) (h : ∀ (k : Nat) s rec, k ≤ n → idx s = (k : Int) → Inv k s → (∀ s', k < n → idx s' = (k : Int) + 1 → Inv (k + 1) s' → rec s') → step s rec) {s0 : S} (k0 : Nat) (hi : idx s0 = (k0 : Int)) (hk : k0 ≤ n) (h0 : Inv k0 s0) : LoopW step s0 := by
  refine LoopW.of_inv (fun s => ∃ k : Nat, idx s = (k : Int) ∧ k ≤ n ∧ Inv k s) (fun s => n - (idx s).toNat) ?_ ⟨k0, hi, hk, h0⟩
  rintro s rec ⟨k, he, hk, hI⟩ hrec
  refine h k s rec hk he hI fun s' hlt he' hI' => hrec s' ⟨k + 1, by rw [he']; rfl, hlt, hI'⟩ ?_
  show n - (idx s').toNat < n - (idx s).toNat
  rw [he, he']
  omega
def firstN (f : Nat → Int) : Nat → Int
  | 0 => 0
  | n + 1 => if firstN f n ≠ 0 then firstN f n else f n
theorem firstN_hit {f : Nat → Int} : ∀ {n k : Nat}, k < n → (∀ j, j < k → f j = 0) → f k ≠ 0 → firstN f n = f k
  | 0, _, hk, _, _ => by omega
  | n + 1, k, hk, h0, h1 => by
    unfold firstN
    rcases Nat.lt_or_ge k n with h | h
    · rw [firstN_hit h h0 h1, if_pos h1]
    · have e : k = n := by omega
      subst e
      have : firstN f k = 0 := by
        clear h1 hk h
        induction k with
        | zero => rfl
        | succ k ih => unfold firstN; rw [ih fun j hj => h0 j (by omega), if_neg (by simp), h0 k (by omega)]
      rw [this, if_neg (by simp)]
theorem firstN_zero {f : Nat → Int} : ∀ {n : Nat}, firstN f n = 0 ↔ ∀ k, k < n → f k = 0
  | 0 => by simp [firstN]
  | n + 1 => by
    unfold firstN
    constructor
    · intro h k hk
      by_cases h1 : firstN f n ≠ 0
      · rw [if_pos h1] at h; exact absurd h h1
      · rw [if_neg h1] at h
        rcases Nat.lt_or_ge k n with hlt | hge
        · exact (firstN_zero.1 (Classical.not_not.1 h1)) k hlt
        · have : k = n := by omega
          subst this; exact h
    · intro h
      rw [if_neg (by rw [firstN_zero.2 fun k hk => h k (by omega)]; simp), h n (by omega)]
end
end
theorem ofInt_mod (k : Nat) : ((BitVec.ofInt 64 ((k : Int) % 64)).toNat : Int).toNat = k % 64 := by
  rw [BitVec.toNat_ofInt]; omega
theorem bitw_prop {b : api_Bitmap} {k : Nat} : ((((ix b.Words ((k : Int) / 64)) >>> ((BitVec.ofInt 64 ((k : Int) % 64)).toNat : Int).toNat) &&& (1#64)) = (1#64)) ↔ bitN b.Words k = true := by
  rw [ofInt_mod, bit_shift]
  unfold bitN
  rw [show ix b.Words ((k : Int) / 64) = b.Words.getD (k / 64) 0#64 from by show b.Words.getD ((k : Int) / 64).toNat default = _; rw [show ((k : Int) / 64).toNat = k / 64 by omega]; rfl]
theorem ref02_bit_ok {b : api_Bitmap} {k : Nat} {Φ : Bool → Prop} (hl : b.Words.length ≤ 1000000) (hk : k < 64 * b.Words.length) (hΦ : Φ (bitN b.Words k)) : ref02_bit_W b (k : Int) Φ := by
  refine ⟨⟨by omega, iI (by omega) (by omega), by omega⟩, iX (by omega) (by omega), ⟨by omega, by omega⟩, ?_⟩
  have e : decide ((((ix b.Words ((k : Int) / 64)) >>> ((BitVec.ofInt 64 ((k : Int) % 64)).toNat : Int).toNat) &&& (1#64)) = (1#64)) = bitN b.Words k := by
    rw [Bool.eq_iff_iff, decide_eq_true_iff]; exact bitw_prop
  rw [e]; exact hΦ
def chkB (b : api_Bitmap) : Int := chk b.Size b.Words
theorem ref02_Check_ok {b : api_Bitmap} {Φ : Int → Prop} (hΦ : Φ (chkB b)) : ref02_Check_W b Φ := by
  unfold chkB at hΦ
  refine ⟨fun h => ?_, fun h1 => ⟨fun h2 => ?_, fun h2 => ⟨iI (by omega) (by omega), ⟨by omega, iI (by omega) (by omega), by omega⟩, fun h3 => ?_, fun h3 => ?_⟩⟩⟩
  · rw [chk_bad (by omega)] at hΦ; exact hΦ
  · rw [chk_bad (by omega)] at hΦ; exact hΦ
  · rw [chk_bad (by omega)] at hΦ; exact hΦ
  · have hn : 0 ≤ b.Size ∧ b.Size ≤ 4096 ∧ (b.Words.length : Int) = (b.Size + 63) / 64 := by omega
    refine LoopW.up (64 * b.Words.length) (fun k => b.Size ≤ (k : Int) ∧ ∀ i : Nat, b.Size ≤ (i : Int) → i < k → bitN b.Words i = false) ?_ (k0 := b.Size.toNat) (by omega) (by omega) ⟨by omega, fun i h1 h2 => by omega⟩
    intro k rec hk hz hrec
    refine ⟨iI (by omega) (by omega), fun hlt => ref02_bit_ok (by omega) (by omega) ⟨fun hb => ?_, fun hb => ⟨iI (by omega) (by omega), hrec (by omega) ⟨by omega, zstep hz.2 hb⟩⟩⟩, fun hge => ?_⟩
    · rw [chk_set (show k < 64 * b.Words.length by omega) hz.1 hb] at hΦ; exact hΦ
    · rw [chk_ok hn.1 hn.2.1 hn.2.2 fun i h1 h2 => hz.2 i h2 (by omega)] at hΦ; exact hΦ
theorem bitmap_words_ok {n : Int} {Φ : Int → Prop} (h0 : 0 ≤ n) (h1 : n ≤ 1000000) (hΦ : Φ ((n + 64 - 1) / 64)) : Z19 n Φ :=
  ⟨iI (by omega) (by omega), iI (by omega) (by omega), ⟨by omega, iI (by omega) (by omega), by omega⟩, hΦ⟩
theorem bitmap_Check_ok {b : api_Bitmap} {Φ : Int → Prop} (hΦ : Φ (chkB b)) : Z20 b Φ := by
  unfold chkB at hΦ
  refine ⟨fun h => ?_, fun h1 => ⟨fun h2 => ?_, fun h2 => ⟨((b.Size + 64 - 1) / 64, ()), bitmap_words_ok (by omega) (by omega) rfl, fun h3 => ?_, fun h3 => ?_⟩⟩⟩
  · rw [chk_bad (by omega)] at hΦ; exact hΦ
  · rw [chk_bad (by omega)] at hΦ; exact hΦ
  · rw [chk_bad (by simp only at h3; omega)] at hΦ; exact hΦ
  · have h3 : (b.Words.length : Int) = (b.Size + 64 - 1) / 64 := Classical.not_not.1 h3
    have e : ∀ h : 0 < b.Size % 64, ix b.Words ((b.Words.length : Int) - 1) = b.Words.getD (b.Words.length - 1) 0#64 := fun h => by
      show b.Words.getD ((b.Words.length : Int) - 1).toNat default = _
      rw [show ((b.Words.length : Int) - 1).toNat = b.Words.length - 1 by omega]; rfl
    refine ⟨⟨by omega, by omega⟩, fun h4 => ⟨iI (by omega) (by omega), iX (by omega) (by omega), by omega, fun h5 => ?_, fun h5 => ?_⟩, fun h4 => ?_⟩
    · rw [e h4] at h5
      rw [chk_top (by omega) (by omega) (by omega) h4 h5] at hΦ; exact hΦ
    · rw [chk_top_ok (by omega) (by omega) (by omega) fun h6 => by rw [e h6] at h5; exact Classical.not_not.1 h5] at hΦ; exact hΦ
    · rw [chk_top_ok (by omega) (by omega) (by omega) fun h6 => absurd h6 h4] at hΦ; exact hΦ
theorem chkB_len {b : api_Bitmap} (h : ¬ chkB b ≠ 0) : 0 ≤ b.Size ∧ b.Size ≤ 4096 ∧ (b.Words.length : Int) = (b.Size + 63) / 64 := wf_len (Classical.not_not.1 h)
theorem LoopW.upI {S : Type} {step : S → (S → Prop) → Prop} (n : Nat) (st : Nat → S) (I : Nat → Prop) {s : S} (hs : s = st 0) (h0 : I 0)
    (h : ∀ (k : Nat) rec, k < n → I k → (I (k + 1) → ∀ s, s = st (k + 1) → rec s) → step (st k) rec) (he : ∀ rec, I n → step (st n) rec) : LoopW step s := by
  have key : ∀ m k, k + m = n → I k → LoopN step (m + 1) (st k) := by
    intro m
    induction m with
    | zero => intro k hk hI; obtain rfl : k = n := hk; exact he _ hI
    | succ m ih => intro k hk hI; exact h k _ (by omega) hI fun hI' s hs => by rw [hs]; exact ih (k + 1) (by omega) hI'
  exact ⟨n + 1, by rw [hs]; exact key n 0 (by omega) h0⟩
theorem LoopW.upT {S : Type} {step : S → (S → Prop) → Prop} (n : Nat) (st : Nat → S) {s : S} (hs : s = st 0)
    (h : ∀ (k : Nat) rec, k < n → (∀ s, s = st (k + 1) → rec s) → step (st k) rec) (he : ∀ rec, step (st n) rec) : LoopW step s :=
  LoopW.upI n st (fun _ => True) hs trivial (fun k rec hk _ hr => h k rec hk (hr trivial)) fun rec _ => he rec
theorem LoopW.findI {step : Int → (Int → Prop) → Prop} (n : Nat) (p : Nat → Bool) (h : ∀ (k : Nat) rec, k < n → (∀ j, j < k → p j = false) → (p k = false → rec ((k : Int) + 1)) → step (k : Int) rec)
    (he : ∀ rec, (∀ j, j < n → p j = false) → step (n : Int) rec) : LoopW step 0 :=
  LoopW.upI n (fun k => (k : Int)) (fun k => ∀ j, j < k → p j = false) rfl (fun j hj => absurd hj (Nat.not_lt_zero j)) (fun k rec hk hI hr => h k rec hk hI fun hp => hr (fun j hj => by
    rcases Nat.lt_or_ge j k with h2 | h2
    · exact hI j h2
    · obtain rfl : j = k := by omega
      exact hp) _ rfl) he
theorem any_ix {α : Type} [Dt α] {xs : List α} {p : α → Bool} : xs.any p = true ↔ ∃ k, k < xs.length ∧ p (ix xs (k : Int)) = true := by
  rw [List.any_eq_true]
  constructor
  · rintro ⟨x, hx, hp⟩
    obtain ⟨k, hk, rfl⟩ := List.getElem_of_mem hx
    exact ⟨k, hk, by rw [ix_get hk]; exact hp⟩
  · rintro ⟨k, hk, hp⟩
    exact ⟨xs[k], List.getElem_mem hk, by rw [ix_get hk] at hp; exact hp⟩
theorem any_false_ix {α : Type} [Dt α] {xs : List α} {p : α → Bool} (h : ∀ k, k < xs.length → p (ix xs (k : Int)) = false) : xs.any p = false := by
  rw [Bool.eq_false_iff]
  intro q
  obtain ⟨k, hk, hp⟩ := any_ix.1 q
  rw [h k hk] at hp; cases hp
theorem any_true_ix {α : Type} [Dt α] {xs : List α} {p : α → Bool} {k : Nat} (hk : k < xs.length) (h : p (ix xs (k : Int)) = true) : xs.any p = true := any_ix.2 ⟨k, hk, h⟩
theorem LoopW.anyL {α : Type} [Dt α] {step : Int → (Int → Prop) → Prop} (xs : List α) (p : α → Bool) {Φ : Bool → Prop} (hΦ : Φ (xs.any p)) (h : ∀ (k : Nat) rec, k < xs.length → (p (ix xs (k : Int)) = true → Φ true) → (p (ix xs (k : Int)) = false → rec ((k : Int) + 1)) → step (k : Int) rec)
    (he : ∀ rec, Φ false → step (xs.length : Int) rec) : LoopW step 0 :=
  LoopW.findI xs.length (fun k => p (ix xs (k : Int))) (fun k rec hk _ hr => h k rec hk (fun hp => by rw [any_true_ix hk hp] at hΦ; exact hΦ) hr) fun rec hn => he rec (by rw [any_false_ix hn] at hΦ; exact hΦ)
theorem len_snoc {α : Type} (xs : List α) (x : α) : (xs ++ [x]).length = xs.length + 1 := by simp
theorem lenT {α : Type} {xs : List α} {k : Nat} (h : k ≤ xs.length) : (xs.take k).length = k := by rw [List.length_take]; omega
theorem take_all {α : Type} (xs : List α) : xs.take xs.length = xs := List.take_length
theorem map_take_snoc {α β : Type} [Dt α] {xs : List α} {k : Nat} (f : α → β) (h : k < xs.length) : (xs.take (k + 1)).map f = (xs.take k).map f ++ [f (ix xs (k : Int))] := by rw [take_ix h, List.map_append]; rfl
theorem filter_take_snoc {α : Type} [Dt α] {xs : List α} {k : Nat} (p : α → Bool) (h : k < xs.length) : (xs.take (k + 1)).filter p = (xs.take k).filter p ++ (if p (ix xs (k : Int)) then [ix xs (k : Int)] else []) := by
  rw [take_ix h, List.filter_append]; congr 1; by_cases hp : p (ix xs (k : Int)) = true <;> simp [hp]
theorem LoopW.errI {S : Type} {step : S → (S → Prop) → Prop} (n : Nat) (st : Nat → S) (f : Nat → Int) {Ψ : Int → Prop} {s : S} (hs : s = st 0) (hΨ : Ψ (firstN f n))
    (h : ∀ (k : Nat) rec, k < n → (∀ j, j < k → f j = 0) → (f k ≠ 0 → Ψ (f k)) → (f k = 0 → ∀ s, s = st (k + 1) → rec s) → step (st k) rec) (he : ∀ rec, (∀ j, j < n → f j = 0) → Ψ 0 → step (st n) rec) : LoopW step s :=
  LoopW.upI n st (fun k => ∀ j, j < k → f j = 0) hs (fun j hj => absurd hj (Nat.not_lt_zero j)) (fun k rec hk hI hr => h k rec hk hI (fun h1 => by rw [firstN_hit hk hI h1] at hΨ; exact hΨ) fun h0 => hr fun j hj => by
    rcases Nat.lt_or_ge j k with h2 | h2
    · exact hI j h2
    · obtain rfl : j = k := by omega
      exact h0) fun rec hI => he rec hI (by rw [firstN_zero.2 hI] at hΨ; exact hΨ)
def bmOf (r : BR) : api_Bitmap × Int := (⟨r.n, r.ws⟩, r.e)
def newB (n : Int) : api_Bitmap := ⟨n, List.replicate ((n + 63) / 64).toNat 0#64⟩
theorem ref02_New_ok {n : Int} {Φ : api_Bitmap × Int → Prop} (h0 : 0 ≤ n) (h1 : n ≤ 4096) (hΦ : Φ (newB n, 0)) : ref02_New_W n Φ := by
  refine ⟨fun q => absurd q (by omega), fun _ => ?_⟩
  rw [decide_eq_false (show ¬ 4096 < n by omega)]
  exact ⟨fun q => (by cases q), fun _ => ⟨iI (by omega) (by omega), ⟨by omega, iI (by omega) (by omega), by omega⟩, by omega, iL (by omega) (by omega), hΦ⟩⟩
theorem bitmap_New_ok {n : Int} {Φ : api_Bitmap × Int → Prop} (h0 : 0 ≤ n) (h1 : n ≤ 4096) (hΦ : Φ (newB n, 0)) : bitmap_New_W n Φ := by
  refine ⟨fun q => absurd q (by omega), fun _ => ?_⟩
  rw [decide_eq_false (show ¬ 4096 < n by omega)]
  refine ⟨fun q => (by cases q), fun _ => bitmap_words_ok h0 (by omega) ⟨by omega, iL (by omega) (by omega), ?_⟩⟩
  rw [show n + 64 - 1 = n + 63 by omega]
  exact hΦ
theorem fits_of {s c n : Int} {Φ : Bool → Prop} (h0 : 0 ≤ n) (h1 : n ≤ 4096) (hΦ : Φ (fitsB s c n)) : (0 ≤ s → (0 ≤ c → (s ≤ n → inI (n - s) ∧ Φ (decide (c ≤ n - s))) ∧ (¬ s ≤ n → Φ false)) ∧ (¬ 0 ≤ c → Φ false)) ∧ (¬ 0 ≤ s → Φ false) := by
  have hf : ∀ q : ¬ (0 ≤ s ∧ 0 ≤ c ∧ s ≤ n ∧ c ≤ n - s), Φ false := fun q => by
    have : fitsB s c n = false := by rw [Bool.eq_false_iff]; exact fun z => q (fitsB_iff.1 z)
    rw [this] at hΦ; exact hΦ
  refine ⟨fun a => ⟨fun b => ⟨fun d => ⟨iI (by omega) (by omega), ?_⟩, fun d => hf (by omega)⟩, fun b => hf (by omega)⟩, fun a => hf (by omega)⟩
  by_cases hc : c ≤ n - s
  · have : fitsB s c n = true := fitsB_iff.2 ⟨a, b, d, hc⟩
    rw [this] at hΦ; rw [decide_eq_true hc]; exact hΦ
  · rw [decide_eq_false hc]; exact hf (by omega)
theorem ref02_Fits_ok {e : api_Extent} {n : Int} {Φ : Bool → Prop} (h0 : 0 ≤ n) (h1 : n ≤ 4096) (hΦ : Φ (fitsB e.Start e.Count n)) : ref02_Fits_W e n Φ := fits_of h0 h1 hΦ
theorem bitmap_fits_ok {e : api_Extent} {n : Int} {Φ : Bool → Prop} (h0 : 0 ≤ n) (h1 : n ≤ 4096) (hΦ : Φ (fitsB e.Start e.Count n)) : bitmap_fits_W e n Φ := fits_of h0 h1 hΦ
theorem ref02_Copy_ok {b : api_Bitmap} {Φ : api_Bitmap → Prop} (hl : b.Words.length ≤ 1000000) (hΦ : Φ b) : ref02_Copy_W b Φ := ⟨iL (by rw [List.nil_append]; exact hl) (by omega), hΦ⟩
def setBm (b : api_Bitmap) (e : api_Extent) : api_Bitmap × Int := bmOf (chR true b.Size b.Words e.Start e.Count)
theorem ref02_Set_ok {b : api_Bitmap} {e : api_Extent} {Φ : api_Bitmap × Int → Prop} (hΦ : Φ (setBm b e)) : ref02_Set_W b e Φ := by
  unfold setBm at hΦ
  unfold ref02_Set_W Z11
  refine ref02_Check_ok ⟨fun q => by rw [chR_form q] at hΦ; exact hΦ, fun q => ?_⟩
  have hw := chkB_len q
  refine ref02_Fits_ok hw.1 hw.2.1 ⟨fun q2 => by rw [chR_range q q2] at hΦ; exact hΦ, fun q2 => ?_⟩
  have q3 := Classical.not_not.1 q2
  rw [chR_ok q q3] at hΦ
  have hf := fitsB_iff.1 q3
  refine ref02_Copy_ok (by omega) ?_
  obtain ⟨s, hs⟩ := Int.eq_ofNat_of_zero_le hf.1
  obtain ⟨c, hc⟩ := Int.eq_ofNat_of_zero_le hf.2.1
  refine LoopW.upI c (fun k => (((s + k : Nat) : Int), chW true b.Words e.Start ((s + k : Nat) : Int))) (fun _ => True) ?_ trivial (fun k rec hk _ hrec => ?_) fun rec _ => ?_
  · exact Prod.ext hs (chW_none true b.Words (by omega)).symm
  · have hl := chW_length true b.Words e.Start ((s + k : Nat) : Int)
    refine ⟨iI (by omega) (by omega), fun _ => ⟨fun _ => ⟨⟨by omega, iI (by omega) (by omega), by omega⟩, ⟨by omega, iI (by omega) (by omega), by omega⟩, iX (by omega) (by omega), ⟨by omega, by omega⟩, iX (by omega) (by omega), iI (by omega) (by omega), hrec trivial _ (Prod.ext rfl ?_)⟩, fun z => absurd rfl z⟩, fun hge => absurd (show ((s + k : Nat) : Int) < e.Start + e.Count by omega) hge⟩
    refine chW_step2 true b.Words e.Start (k := s + k) (by omega) (by omega) (by omega) ?_
    rw [opW_true, ofInt_mod, show (((s + k : Nat) : Int) % 64).toNat = (s + k) % 64 by omega]; rfl
  · refine ⟨iI (by omega) (by omega), fun hlt => absurd (show ((s + c : Nat) : Int) < e.Start + e.Count from hlt) (by omega), fun _ => ?_⟩
    rw [show e.Start + e.Count = ((s + c : Nat) : Int) by omega] at hΦ; exact hΦ
theorem bitmap_mask_ok {i f g : Int} {Φ : BitVec 64 → Prop} (h0 : 0 ≤ i) (h1 : i ≤ 1000000) (h2 : -100000 ≤ f) (h3 : f ≤ 1000000) (h4 : -100000 ≤ g) (h5 : g ≤ 1000000) (hΦ : Φ (maskW i f g)) : bitmap_mask_W i f g Φ := by
  have hm : maskW i f g = if (if 64 < g - i * 64 then 64 else g - i * 64) ≤ (if f - i * 64 < 0 then 0 else f - i * 64) then 0#64 else 18446744073709551615#64 >>> (64 - ((if 64 < g - i * 64 then 64 else g - i * 64) - (if f - i * 64 < 0 then 0 else f - i * 64))).toNat <<< (if f - i * 64 < 0 then 0 else f - i * 64).toNat := rfl
  rw [hm] at hΦ
  refine ⟨iI (by omega) (by omega), iI (by omega) (by omega), iI (by omega) (by omega), iI (by omega) (by omega), fun q => ?_, fun q => ⟨iI (by split <;> split <;> omega) (by split <;> split <;> omega), iI (by split <;> split <;> omega) (by split <;> split <;> omega), by split <;> split <;> omega, by split <;> omega, ?_⟩⟩
  · rw [if_pos q] at hΦ; exact hΦ
  · rw [if_neg q] at hΦ; exact hΦ
theorem clone_word_ok {l : List (BitVec 64)} {Φ : List (BitVec 64) → Prop} (hl : l.length ≤ 1000000) (hΦ : Φ l) : Z75 l Φ :=
  ⟨fun h => by subst h; exact hΦ, iL (by rw [List.nil_append]; exact hl) (by omega), hΦ⟩
theorem bitmap_Set_ok {b : api_Bitmap} {e : api_Extent} {Φ : api_Bitmap × Int → Prop} (hΦ : Φ (setBm b e)) : bitmap_Set_W b e Φ := by
  unfold setBm at hΦ
  unfold bitmap_Set_W
  refine bitmap_Check_ok ⟨fun q => ?_, fun q => ?_⟩
  · rw [chR_form q] at hΦ; unfold chkB at *; rw [chk_ne q]; exact hΦ
  have hw := chkB_len q
  refine bitmap_fits_ok hw.1 hw.2.1 ⟨fun q2 => by rw [chR_range q q2] at hΦ; exact hΦ, fun q2 => ?_⟩
  have q3 := Classical.not_not.1 q2
  rw [chR_ok q q3] at hΦ
  have hf := fitsB_iff.1 q3
  refine clone_word_ok (by omega) ?_
  refine LoopW.upI b.Words.length (fun k => ((k : Int), chK true b.Words e.Start (e.Start + e.Count) k)) (fun _ => True) ?_ trivial (fun k rec hk _ hrec => ?_) fun rec _ => ?_
  · exact Prod.ext rfl (chK_zero true b.Words e.Start (e.Start + e.Count)).symm
  · have hl : (chK true b.Words e.Start (e.Start + e.Count) k).length = b.Words.length := chK_length _ _ _ _ _
    refine ⟨fun _ => ⟨iX (by omega) (by omega), iI (by omega) (by omega), (_, ()), bitmap_mask_ok (by omega) (by omega) (by omega) (by omega) (by omega) (by omega) rfl, (_, ()), rfl, iX (by omega) (by omega), iI (by omega) (by omega), hrec trivial _ (Prod.ext rfl ?_)⟩, fun hge => absurd (show (k : Int) < (b.Words.length : Int) by omega) hge⟩
    exact chK_step true b.Words e.Start (e.Start + e.Count) hk
  · refine ⟨fun hlt => absurd (show (b.Words.length : Int) < (b.Words.length : Int) from hlt) (by omega), fun _ => ?_⟩
    rw [← chK_full true b.Words e.Start (e.Start + e.Count) (Nat.le_refl _)] at hΦ
    exact hΦ
def orB (a b : api_Bitmap) : api_Bitmap × Int := bmOf (bothR (fun x y => x ||| y) a.Size a.Words b.Size b.Words)
theorem bitmap_Or_ok {a b : api_Bitmap} {Φ : api_Bitmap × Int → Prop} (hΦ : Φ (orB a b)) : bitmap_Or_W a b Φ := by
  unfold orB at hΦ
  unfold bitmap_Or_W
  refine bitmap_Check_ok ⟨fun h => ?_, fun h => bitmap_Check_ok ⟨fun h2 => ?_, fun h2 => ⟨fun h3 => ?_, fun h3 => ?_⟩⟩⟩
  · rw [bothR_bad (bothE_1 h) (by omega)] at hΦ; unfold chkB at *; rw [chk_ne h]; exact hΦ
  · rw [bothR_bad (bothE_2 h h2) (by omega)] at hΦ; unfold chkB at *; rw [chk_ne h2]; exact hΦ
  · rw [bothR_bad (bothE_3 h h2 h3) (by omega)] at hΦ; exact hΦ
  · have hw := chkB_len h
    have hw2 := chkB_len h2
    rw [bothR_ok (bothE_4 h h2 h3)] at hΦ
    have hl : a.Words.length = b.Words.length := by omega
    refine ⟨by omega, iL (by omega) (by omega), ?_⟩
    have hz : (List.zipWith (fun x y => x ||| y) a.Words b.Words).length = (List.replicate (a.Words.length : Int).toNat (0#64)).length := by rw [List.length_zipWith, List.length_replicate]; omega
    have hr : (List.replicate (a.Words.length : Int).toNat (0#64)).length = a.Words.length := by simp
    refine LoopW.upI a.Words.length (fun k => ((k : Int), mixK (List.zipWith (fun x y => x ||| y) a.Words b.Words) (List.replicate (a.Words.length : Int).toNat (0#64)) k)) (fun _ => True) (Prod.ext rfl (mixK_zero _ _).symm) trivial (fun k rec hk _ hrec => ?_) fun rec _ => ?_
    · have hml := mixK_length hz k
      refine ⟨fun _ => ⟨iX (by omega) (by omega), iX (by omega) (by omega), (_, ()), rfl, iX (by omega) (by omega), iI (by omega) (by omega), hrec trivial _ (Prod.ext rfl ?_)⟩, fun hge => absurd (show (k : Int) < ((List.replicate (a.Words.length : Int).toNat (0#64)).length : Int) by omega) hge⟩
      exact mixK_step hz (zip_get (by omega) (by omega))
    · refine ⟨fun hlt => absurd (show (a.Words.length : Int) < ((List.replicate (a.Words.length : Int).toNat (0#64)).length : Int) from hlt) (by omega), fun _ => ?_⟩
      rw [mixK_full hz (by omega)]
      exact hΦ
def sizesE (l : List Int) : Int := if (l.length : Int) < 1 ∨ 8 < (l.length : Int) then 6 else firstN (fun k => if ix l (k : Int) < 1 ∨ 4096 < ix l (k : Int) then 2 else 0) l.length
def szs (im : List (List Sec)) : List Int := im.map fun v => (v.length : Int)
def imgE (im : List (List Sec)) : Int := sizesE (szs im)
theorem szs_len (im : List (List Sec)) : (szs im).length = im.length := by unfold szs; rw [List.length_map]
theorem ix_szs {im : List (List Sec)} {k : Nat} (h : k < im.length) : ix (szs im) (k : Int) = ((ix im (k : Int)).length : Int) := by
  rw [ix_get (by rw [szs_len]; exact h), ix_get h]; unfold szs; rw [List.getElem_map]
theorem sizesE_len {l : List Int} (h : sizesE l = 0) : 1 ≤ l.length ∧ l.length ≤ 8 := by
  unfold sizesE at h
  by_cases hl : (l.length : Int) < 1 ∨ 8 < (l.length : Int)
  · rw [if_pos hl] at h; cases h
  · omega
theorem sizesE_ix {l : List Int} (h : sizesE l = 0) {k : Nat} (hk : k < l.length) : 1 ≤ ix l (k : Int) ∧ ix l (k : Int) ≤ 4096 := by
  unfold sizesE at h
  by_cases hl : (l.length : Int) < 1 ∨ 8 < (l.length : Int)
  · rw [if_pos hl] at h; cases h
  · rw [if_neg hl] at h
    have := firstN_zero.1 h k hk
    by_cases q : ix l (k : Int) < 1 ∨ 4096 < ix l (k : Int)
    · rw [if_pos q] at this; cases this
    · omega
theorem ref07_Sizes_ok {l : List Int} {Φ : Int → Prop} (hΦ : Φ (sizesE l)) : ref07_Sizes_W l Φ := by
  unfold sizesE at hΦ
  by_cases h : (l.length : Int) < 1 ∨ 8 < (l.length : Int)
  · rw [if_pos h] at hΦ
    exact ⟨fun _ => hΦ, fun _ => ⟨fun _ => hΦ, fun _ => by omega⟩⟩
  · rw [if_neg h] at hΦ
    refine ⟨fun _ => by omega, fun _ => ⟨fun _ => by omega, fun _ => ?_⟩⟩
    refine LoopW.errI l.length (fun k => (k : Int)) _ rfl hΦ (fun k rec hk _ h1 h2 => ?_) fun rec _ h0 => ⟨fun _ => by omega, fun _ => h0⟩
    refine ⟨fun _ => ⟨iX (by omega) (by omega), fun q => ?_, fun q => ⟨iX (by omega) (by omega), fun r => ?_, fun r => ⟨iI (by omega) (by omega), h2 (if_neg (by omega)) _ rfl⟩⟩⟩, fun _ => by omega⟩
    · have := h1 (by rw [if_pos (.inl q)]; omega)
      rw [if_pos (.inl q)] at this; exact this
    · have := h1 (by rw [if_pos (.inr r)]; omega)
      rw [if_pos (.inr r)] at this; exact this
theorem image_checkSizes_ok {l : List Int} {Φ : Int → Prop} (hΦ : Φ (sizesE l)) : Z18 l Φ := by
  unfold sizesE at hΦ
  by_cases h : (l.length : Int) < 1 ∨ 8 < (l.length : Int)
  · rw [if_pos h] at hΦ
    exact ⟨fun _ => hΦ, fun _ => ⟨fun _ => hΦ, fun _ => by omega⟩⟩
  · rw [if_neg h] at hΦ
    refine ⟨fun _ => by omega, fun _ => ⟨fun _ => by omega, fun _ => ?_⟩⟩
    refine LoopW.errI l.length (fun k => (k : Int)) _ rfl hΦ (fun k rec hk _ h1 h2 => ?_) fun rec _ h0 => ⟨fun _ => by omega, fun _ => ⟨fun _ => by omega, fun _ => h0⟩⟩
    have go : ∀ q : ix l (k : Int) < 1 ∨ 4096 < ix l (k : Int), Φ 2 := fun q => by
      have := h1 (by rw [if_pos q]; omega)
      rw [if_pos q] at this; exact this
    refine ⟨fun _ => ⟨iX (by omega) (by omega), fun q => ⟨fun _ => ⟨fun _ => go (.inl q), fun _ => by omega⟩, fun r => absurd rfl r⟩, fun q => ⟨fun r => ⟨fun _ => go (.inr (of_decide_eq_true r)), fun _ => by omega⟩, fun r => ⟨iI (by omega) (by omega), h2 (if_neg (by have := of_decide_eq_false (Bool.eq_false_iff.2 r); omega)) _ rfl⟩⟩⟩, fun _ => by omega⟩
theorem image_sizes_ok {im : List (List Sec)} {Φ : List Int → Prop} (hl : im.length ≤ 100000) (hΦ : Φ (szs im)) : image_sizes_W im Φ := by
  refine ⟨by omega, iL (by omega) (by omega), ?_⟩
  refine LoopW.upT im.length (fun k => ((k : Int), (im.take k).map fun v => (v.length : Int))) rfl (fun k rec hk hr => ?_) fun rec => ⟨fun _ => by omega, fun _ => by rw [take_all]; exact hΦ⟩
  refine ⟨fun _ => ⟨iX (by omega) (by omega), iL (by rw [len_snoc, List.length_map, lenT (by omega)]; omega) (by omega), iI (by omega) (by omega), hr _ (by rw [map_take_snoc _ hk]; rfl)⟩, fun _ => by omega⟩
theorem image_Check_ok {im : List (List Sec)} {Φ : Int → Prop} (hl : im.length ≤ 100000) (hΦ : Φ (imgE im)) : image_Check_W im Φ := image_sizes_ok hl (image_checkSizes_ok hΦ)
def zeroI (l : List Int) : List (List Sec) := l.map fun n => List.replicate n.toNat sec0
theorem zeroI_len (l : List Int) : (zeroI l).length = l.length := by unfold zeroI; rw [List.length_map]
theorem ix_zeroI {l : List Int} {k : Nat} (h : k < l.length) : ix (zeroI l) (k : Int) = List.replicate (ix l (k : Int)).toNat sec0 := by
  rw [ix_get (by rw [zeroI_len]; exact h), ix_get h]; unfold zeroI; rw [List.getElem_map]
theorem szs_zeroI {l : List Int} (h : sizesE l = 0) : szs (zeroI l) = l := by
  refine ext_ix (by rw [szs_len, zeroI_len]) fun k hk => ?_
  rw [szs_len, zeroI_len] at hk
  have := sizesE_ix h hk
  rw [ix_szs (by rw [zeroI_len]; exact hk), ix_zeroI hk, List.length_replicate]; omega
theorem image_New_ok {l : List Int} {Φ : List (List Sec) × Int → Prop} (h0 : sizesE l = 0 → Φ (zeroI l, 0)) (h1 : sizesE l ≠ 0 → Φ ([], sizesE l)) : image_New_W l Φ := by
  refine image_checkSizes_ok ⟨fun q => h1 q, fun q => ?_⟩
  have q : sizesE l = 0 := Classical.not_not.1 q
  have hl := sizesE_len q
  refine ⟨by omega, iL (by omega) (by omega), ?_⟩
  refine LoopW.upT l.length (fun k => ((k : Int), (l.take k).map fun n => List.replicate n.toNat sec0)) rfl (fun k rec hk hr => ?_) fun rec => ⟨fun _ => by omega, fun _ => by rw [take_all]; exact h0 q⟩
  have := sizesE_ix q hk
  refine ⟨fun _ => ⟨iX (by omega) (by omega), by omega, iL (by omega) (by omega), iL (by rw [len_snoc, List.length_map, lenT (by omega)]; omega) (by omega), iI (by omega) (by omega), hr _ (by rw [map_take_snoc _ hk]; rfl)⟩, fun _ => by omega⟩
def fitW (l : List Int) (w : api_Write) : Int := if w.Volume < 0 ∨ (l.length : Int) ≤ w.Volume then 7 else if (w.Data.length : Int) = 0 then 1 else if w.Start < 0 ∨ ix l w.Volume - w.Start < (w.Data.length : Int) then 2 else 0
theorem image_fits_ok {im : List (List Sec)} {w : api_Write} {Φ : Int → Prop} (hd : w.Data.length ≤ 1000000) (hv : ∀ k : Nat, k < im.length → (ix im (k : Int)).length ≤ 1000000) (hΦ : Φ (fitW (szs im) w)) : image_fits_W im w Φ := by
  unfold fitW at hΦ
  rw [szs_len] at hΦ
  show (_ → image_fits_J1 _ _ _ _) ∧ _
  have tail : ¬ (w.Volume < 0 ∨ (im.length : Int) ≤ w.Volume) → image_fits_J1 im w Φ false := fun q => by
    rw [if_neg q] at hΦ
    refine ⟨fun r => (Bool.noConfusion r), fun _ => ⟨fun r => by rw [if_pos (by omega)] at hΦ; exact hΦ, fun r => ?_⟩⟩
    rw [if_neg (by omega)] at hΦ
    obtain ⟨v, hw⟩ := Int.eq_ofNat_of_zero_le (show 0 ≤ w.Volume by omega)
    have hvl : v < im.length := by omega
    rw [hw, ix_szs hvl] at hΦ
    have := hv v hvl
    refine ⟨fun s => by rw [if_pos (.inl s)] at hΦ; exact hΦ, fun s => ⟨iX (by omega) (by omega), ?_⟩⟩
    rw [hw]
    exact ⟨iI (by omega) (by omega), fun t => by rw [if_pos (by omega)] at hΦ; exact hΦ, fun t => by rw [if_neg (by omega)] at hΦ; exact hΦ⟩
  refine ⟨fun q => ⟨fun _ => by rw [if_pos (.inl q)] at hΦ; exact hΦ, fun r => absurd rfl r⟩, fun q => ?_⟩
  by_cases r : (im.length : Int) ≤ w.Volume
  · rw [decide_eq_true r]
    exact ⟨fun _ => by rw [if_pos (.inr r)] at hΦ; exact hΦ, fun r => absurd rfl r⟩
  · rw [decide_eq_false r]; exact tail (by omega)
theorem ref07_FitsSizes_ok {l : List Int} {w : api_Write} {Φ : Int → Prop} (hd : w.Data.length ≤ 1000000) (hl : ∀ k : Nat, k < l.length → ix l (k : Int) ≤ 1000000) (hΦ : Φ (fitW l w)) : Z4 l w Φ := by
  unfold fitW at hΦ
  refine ⟨fun q => by rw [if_pos (.inl q)] at hΦ; exact hΦ, fun q => ⟨fun r => by rw [if_pos (.inr r)] at hΦ; exact hΦ, fun r => ?_⟩⟩
  rw [if_neg (by omega)] at hΦ
  refine ⟨fun s => by rw [if_pos (by omega)] at hΦ; exact hΦ, fun s => ?_⟩
  rw [if_neg (by omega)] at hΦ
  obtain ⟨v, hw⟩ := Int.eq_ofNat_of_zero_le (show 0 ≤ w.Volume by omega)
  have hvl : v < l.length := by omega
  have := hl v hvl
  rw [hw] at hΦ ⊢
  refine ⟨fun t => by rw [if_pos (.inl t)] at hΦ; exact hΦ, fun t => ⟨iX (by omega) (by omega), fun u => by rw [if_pos (by omega)] at hΦ; exact hΦ, fun u => ⟨iX (by omega) (by omega), iI (by omega) (by omega), fun x => by rw [if_pos (by omega)] at hΦ; exact hΦ, fun x => by rw [if_neg (by omega)] at hΦ; exact hΦ⟩⟩⟩
theorem szs_small {im : List (List Sec)} (h : imgE im = 0) (k : Nat) (hk : k < im.length) : (ix im (k : Int)).length ≤ 4096 := by
  have := sizesE_ix h (k := k) (by rw [szs_len]; exact hk)
  rw [ix_szs hk] at this; omega
theorem image_Fits_ok {im : List (List Sec)} {w : api_Write} {Φ : Int → Prop} (hd : w.Data.length ≤ 1000000) (h : imgE im = 0) (hΦ : Φ (fitW (szs im) w)) : image_Fits_W im w Φ := by
  have hl := sizesE_len h
  rw [szs_len] at hl
  exact image_Check_ok (by omega) ⟨fun q => absurd h q, fun _ => image_fits_ok hd (fun k hk => Nat.le_trans (szs_small h k hk) (by omega)) hΦ⟩
theorem newBs_step {l : List Int} {k : Nat} (h : k < l.length) : ((l.take (k + 1)).map newB) = (l.take k).map newB ++ [newB (ix l (k : Int))] := map_take_snoc newB h
theorem ref43_Clean_ok {l : List Int} {Φ : List api_Bitmap → Prop} (hl : l.length ≤ 100000) (hs : ∀ k : Nat, k < l.length → 0 ≤ ix l (k : Int) ∧ ix l (k : Int) ≤ 4096) (hΦ : Φ (l.map newB)) : ref43_Clean_W l Φ := by
  refine LoopW.upT l.length (fun k => ((k : Int), (l.take k).map newB)) rfl (fun k rec hk hrec => ?_) fun rec => ⟨fun q => absurd (show (l.length : Int) < (l.length : Int) from q) (by omega), fun _ => ?_⟩
  · refine ⟨fun _ => ⟨iX (by omega) (by omega), ref02_New_ok (hs k hk).1 (hs k hk).2 ⟨iL (by simp only [List.length_append, List.length_map, List.length_cons, List.length_nil]; rw [lenT (Nat.le_of_lt hk)]; omega) (by omega), iI (by omega) (by omega), hrec _ (Prod.ext rfl (newBs_step hk).symm)⟩⟩, fun q => absurd (show (k : Int) < (l.length : Int) by omega) q⟩
  · rw [take_all]; exact hΦ
theorem tracker_clean_ok {l : List Int} {Φ : List api_Bitmap × Int → Prop} (hl : l.length ≤ 100000) (hs : ∀ k : Nat, k < l.length → 0 ≤ ix l (k : Int) ∧ ix l (k : Int) ≤ 4096) (hΦ : Φ (l.map newB, 0)) : Z66 l Φ := by
  refine LoopW.upT l.length (fun k => ((k : Int), (l.take k).map newB)) rfl (fun k rec hk hrec => ?_) fun rec => ⟨fun q => absurd (show (l.length : Int) < (l.length : Int) from q) (by omega), fun _ => ?_⟩
  · refine ⟨fun _ => ⟨iX (by omega) (by omega), bitmap_New_ok (hs k hk).1 (hs k hk).2 ⟨fun q => absurd rfl q, fun _ => ⟨iL (by simp only [List.length_append, List.length_map, List.length_cons, List.length_nil]; rw [lenT (Nat.le_of_lt hk)]; omega) (by omega), iI (by omega) (by omega), hrec _ (Prod.ext rfl (newBs_step hk).symm)⟩⟩⟩, fun q => absurd (show (k : Int) < (l.length : Int) by omega) q⟩
  · rw [take_all]; exact hΦ
def mark1 (d : List api_Bitmap) (w : api_Write) : List api_Bitmap := put d w.Volume (setBm (ix d w.Volume) ⟨w.Start, (w.Data.length : Int)⟩).1
def markL (d : List api_Bitmap) (l : List api_Write) : List api_Bitmap := l.foldl mark1 d
theorem markL_len (d : List api_Bitmap) (l : List api_Write) : (markL d l).length = d.length := by
  unfold markL
  induction l generalizing d with
  | nil => rfl
  | cons w l ih => rw [List.foldl_cons, ih]; exact put_len _ _ _
theorem markL_step (d : List api_Bitmap) {l : List api_Write} {k : Nat} (h : k < l.length) : markL d (l.take (k + 1)) = mark1 (markL d (l.take k)) (ix l (k : Int)) := by
  unfold markL
  rw [take_ix h, List.foldl_append]; rfl
theorem ref43_Mark_ok {d : List api_Bitmap} {l : List api_Write} {Φ : List api_Bitmap → Prop} (hd : d.length ≤ 100000) (hw : ∀ b ∈ d, b.Words.length ≤ 1000000) (hl : l.length ≤ 1000000) (hv : ∀ w ∈ l, inX w.Volume d.length) (hΦ : Φ (markL d l)) : ref43_Mark_W d l Φ := by
  refine LoopW.upT d.length (fun k => ((k : Int), d.take k)) rfl (fun k rec hk hrec => ?_) fun rec => ⟨fun q => absurd (show (d.length : Int) < (d.length : Int) from q) (by omega), fun _ => ?_⟩
  · refine ⟨fun _ => ⟨iX (by omega) (by omega), ref02_Copy_ok (hw _ (ix_mem (iX (by omega) (by omega)))) ⟨iL (by simp only [List.length_append, List.length_cons, List.length_nil]; rw [lenT (Nat.le_of_lt hk)]; omega) (by omega), iI (by omega) (by omega), hrec _ (Prod.ext rfl (take_ix hk).symm)⟩⟩, fun q => absurd (show (k : Int) < (d.length : Int) by omega) q⟩
  · rw [take_all]
    refine LoopW.upT l.length (fun k => ((k : Int), markL d (l.take k))) rfl (fun k rec hk hrec => ?_) fun rec => ⟨fun q => absurd (show (l.length : Int) < (l.length : Int) from q) (by omega), fun _ => ?_⟩
    · have hx := hv _ (ix_mem (xs := l) (i := (k : Int)) (iX (by omega) (by omega)))
      have hx : inX (ix l (k : Int)).Volume (markL d (l.take k)).length := by rw [markL_len]; exact hx
      exact ⟨fun _ => ⟨iX (by omega) (by omega), hx, ((setBm (ix (markL d (l.take k)) (ix l (k : Int)).Volume) ⟨(ix l (k : Int)).Start, ((ix l (k : Int)).Data.length : Int)⟩).1, (setBm (ix (markL d (l.take k)) (ix l (k : Int)).Volume) ⟨(ix l (k : Int)).Start, ((ix l (k : Int)).Data.length : Int)⟩).2, ()), ref02_Set_ok rfl, hx, iI (by omega) (by omega), hrec _ (Prod.ext rfl (markL_step d hk).symm)⟩, fun q => absurd (show (k : Int) < (l.length : Int) by omega) q⟩
    · rw [take_all]; exact hΦ
def bmsE (d : List api_Bitmap) (sizes : List Int) (k : Nat) : Int := if chkB (ix d (k : Int)) ≠ 0 then chkB (ix d (k : Int)) else if (ix d (k : Int)).Size ≠ ix sizes (k : Int) then 22 else 0
def bmsC (d : List api_Bitmap) (sizes : List Int) : Int := if (d.length : Int) ≠ (sizes.length : Int) then 6 else firstN (bmsE d sizes) d.length
def peerE (t : api_Tracker) (k : Nat) : Int :=
  if (ix t.Peers (k : Int)).Site < 0 ∨ 4 ≤ (ix t.Peers (k : Int)).Site then 2 else if 0 < (k : Int) ∧ (ix t.Peers (k : Int)).Site ≤ (ix t.Peers ((k : Int) - 1)).Site then 8 else if (ix t.Peers (k : Int)).Common < 0 ∨ 1073741824 < (ix t.Peers (k : Int)).Common then 2 else bmsC (ix t.Peers (k : Int)).Dirty t.Sizes
def trkE (t : api_Tracker) : Int := if sizesE t.Sizes ≠ 0 then sizesE t.Sizes else if 4 < (t.Peers.length : Int) then 6 else firstN (peerE t) t.Peers.length
theorem bit_zip (op : BitVec 64 → BitVec 64 → BitVec 64) (f : Bool → Bool → Bool) (hf : ∀ a b j, j < 64 → (op a b).getLsbD j = f (a.getLsbD j) (b.getLsbD j)) {ws vs : List (BitVec 64)} (hl : ws.length = vs.length) {i : Nat} (hi : i < 64 * ws.length) : bitN (List.zipWith op ws vs) i = f (bitN ws i) (bitN vs i) := by
  have h1 : i / 64 < ws.length := by omega
  have h2 : i / 64 < vs.length := by omega
  unfold bitN
  rw [List.getD_eq_getElem?_getD, zip_get h1 h2, Option.getD_some, hf _ _ _ (Nat.mod_lt _ (by decide))]
theorem bit_or {ws vs : List (BitVec 64)} (hl : ws.length = vs.length) {i : Nat} (hi : i < 64 * ws.length) : bitN (List.zipWith (fun a b => a ||| b) ws vs) i = (bitN ws i || bitN vs i) := bit_zip _ (· || ·) (fun _ _ _ _ => BitVec.getLsbD_or) hl hi
theorem chk_iff {n : Int} {ws : List (BitVec 64)} : chk n ws = 0 ↔ 0 ≤ n ∧ n ≤ 4096 ∧ (ws.length : Int) = (n + 63) / 64 ∧ ∀ i : Nat, i < 64 * ws.length → n ≤ (i : Int) → bitN ws i = false :=
  ⟨fun h => wfB_iff.1 (chk_zero h), fun ⟨h1, h2, h3, h4⟩ => chk_ok h1 h2 h3 h4⟩
theorem chk_zip {op : BitVec 64 → BitVec 64 → BitVec 64} (f : Bool → Bool → Bool) (h0 : f false false = false) (hf : ∀ a b j, j < 64 → (op a b).getLsbD j = f (a.getLsbD j) (b.getLsbD j)) {n : Int} {ws vs : List (BitVec 64)} (h1 : chk n ws = 0) (h2 : chk n vs = 0) : chk n (List.zipWith op ws vs) = 0 := by
  obtain ⟨a1, a2, a3, a4⟩ := chk_iff.1 h1
  obtain ⟨_, _, b3, b4⟩ := chk_iff.1 h2
  have hl : ws.length = vs.length := by omega
  have hz : (List.zipWith op ws vs).length = ws.length := by rw [List.length_zipWith]; omega
  refine chk_iff.2 ⟨a1, a2, by rw [hz]; exact a3, fun i hi hn => ?_⟩
  rw [hz] at hi
  rw [bit_zip op f hf hl hi, a4 i hi hn, b4 i (by omega) hn, h0]
theorem chk_set1 {n : Int} {ws : List (BitVec 64)} {s c : Int} (h : chk n ws = 0) (hf : fitsB s c n = true) : chk n (chW true ws s (s + c)) = 0 := by
  obtain ⟨a1, a2, a3, a4⟩ := chk_iff.1 h
  have hff := fitsB_iff.1 hf
  refine chk_iff.2 ⟨a1, a2, by rw [chW_length]; exact a3, fun i hi hn => ?_⟩
  rw [chW_length] at hi
  rw [chW_bit true ws _ _ i hi, if_neg (by omega)]
  exact a4 i hi hn
theorem chk_new {n : Int} (h1 : 0 ≤ n) (h2 : n ≤ 4096) : chk n (List.replicate ((n + 63) / 64).toNat 0#64) = 0 := by
  refine chk_iff.2 ⟨h1, h2, by rw [List.length_replicate]; omega, fun i hi _ => ?_⟩
  rw [List.length_replicate] at hi
  unfold bitN
  rw [List.getD_eq_getElem?_getD, List.getElem?_replicate]
  split <;> simp
theorem bit_new {m i : Nat} : bitN (List.replicate m 0#64) i = false := by
  unfold bitN
  rw [List.getD_eq_getElem?_getD, List.getElem?_replicate]
  split <;> simp
theorem insZ_low {x : Int} : ∀ {l : List Int}, (∀ y ∈ l, x ≤ y) → insZ x l = x :: l
  | [], _ => rfl
  | y :: r, h => by unfold insZ; rw [if_pos (h y List.mem_cons_self)]
theorem sortZ_asc : ∀ {l : List Int}, l.Pairwise (fun a b => a < b) → sortZ l = l
  | [], _ => rfl
  | x :: r, h => by
    have h1 := List.pairwise_cons.1 h
    show insZ x (sortZ r) = _
    rw [sortZ_asc h1.2]
    exact insZ_low fun y hy => Int.le_of_lt (h1.1 y hy)
theorem asc_ext : ∀ {l m : List Int}, l.Pairwise (fun a b => a < b) → m.Pairwise (fun a b => a < b) → (∀ x, x ∈ l ↔ x ∈ m) → l = m
  | [], [], _, _, _ => rfl
  | [], y :: m, _, _, h => absurd ((h y).2 List.mem_cons_self) List.not_mem_nil
  | x :: l, [], _, _, h => absurd ((h x).1 List.mem_cons_self) List.not_mem_nil
  | x :: l, y :: m, h1, h2, h => by
    have a := List.pairwise_cons.1 h1
    have b := List.pairwise_cons.1 h2
    have e : x = y := by
      rcases List.mem_cons.1 ((h x).1 List.mem_cons_self) with p | p
      · exact p
      · rcases List.mem_cons.1 ((h y).2 List.mem_cons_self) with q | q
        · exact q.symm
        · have := b.1 x p; have := a.1 y q; omega
    subst e
    congr 1
    refine asc_ext a.2 b.2 fun z => ⟨fun hz => ?_, fun hz => ?_⟩
    · rcases List.mem_cons.1 ((h z).1 (List.mem_cons_of_mem _ hz)) with e | e
      · subst e; have := a.1 z hz; omega
      · exact e
    · rcases List.mem_cons.1 ((h z).2 (List.mem_cons_of_mem _ hz)) with e | e
      · subst e; have := b.1 z hz; omega
      · exact e
theorem sortZ_lt {l : List Int} (h : l.Nodup) : (sortZ l).Pairwise (fun a b => a < b) := by
  have h1 : (sortZ l).Nodup := (sortZ_self l).nodup_iff.2 h
  exact ((sortZ_sorted l).and h1).imp fun q => by have := q.1; have := q.2; omega
theorem sortZ_mem {l : List Int} {x : Int} : x ∈ sortZ l ↔ x ∈ l := (sortZ_self l).mem_iff
theorem setBm_ok {b : api_Bitmap} {e : api_Extent} (h : chkB b = 0) (hf : fitsB e.Start e.Count b.Size = true) : (setBm b e).2 = 0 ∧ chkB (setBm b e).1 = 0 ∧ (setBm b e).1.Size = b.Size ∧ ∀ i : Nat, (i : Int) < b.Size → (bitN (setBm b e).1.Words i = true ↔ bitN b.Words i = true ∨ (e.Start ≤ (i : Int) ∧ (i : Int) < e.Start + e.Count)) := by
  have hw := chkB_len (b := b) (by simpa using h)
  have e1 : setBm b e = (⟨b.Size, chW true b.Words e.Start (e.Start + e.Count)⟩, 0) := by
    unfold setBm; rw [chR_ok (by simpa [chkB] using h) hf]; rfl
  rw [e1]
  refine ⟨rfl, chk_set1 h hf, rfl, fun i hi => ?_⟩
  show bitN (chW true b.Words e.Start (e.Start + e.Count)) i = true ↔ _
  rw [chW_bit _ _ _ _ _ (by omega)]
  by_cases hc : e.Start ≤ (i : Int) ∧ (i : Int) < e.Start + e.Count
  · rw [if_pos hc]; exact ⟨fun _ => .inr hc, fun _ => rfl⟩
  · rw [if_neg hc]; exact ⟨fun z => .inl z, fun z => z.resolve_right hc⟩
theorem newB_ok {n : Int} (h0 : 0 ≤ n) (h1 : n ≤ 4096) : chkB (newB n) = 0 ∧ ∀ i, bitN (newB n).Words i = false := ⟨chk_new h0 h1, fun _ => bit_new⟩
def covT (w : api_Write) (v i : Nat) : Prop := w.Volume = (v : Int) ∧ w.Start ≤ (i : Int) ∧ (i : Int) < w.Start + (w.Data.length : Int)
structure BmsOk (sizes : List Int) (d : List api_Bitmap) : Prop where
  len : d.length = sizes.length
  chk : ∀ v : Nat, v < sizes.length → chkB (ix d (v : Int)) = 0 ∧ (ix d (v : Int)).Size = ix sizes (v : Int)
structure Marked (sizes : List Int) (d : List api_Bitmap) (P : Nat → Nat → Prop) : Prop extends BmsOk sizes d where
  bit : ∀ v i : Nat, v < sizes.length → (i : Int) < ix sizes (v : Int) → (bitN (ix d (v : Int)).Words i = true ↔ P v i)
theorem chkB_small {b : api_Bitmap} (h : chkB b = 0) : b.Words.length ≤ 1000 := by
  have := chkB_len (b := b) (by simpa using h)
  omega
theorem BmsOk.words {sizes : List Int} {d : List api_Bitmap} (h : BmsOk sizes d) : ∀ b ∈ d, chkB b = 0 ∧ b.Words.length ≤ 1000 := fun b hb => by
  obtain ⟨k, hk, rfl⟩ := List.getElem_of_mem hb
  have := (h.chk k (by have := h.len; omega)).1
  rw [ix_get hk] at this
  exact ⟨this, chkB_small this⟩
theorem ix_newBs {sizes : List Int} {v : Nat} (hv : v < sizes.length) : ix (sizes.map newB) (v : Int) = newB (ix sizes (v : Int)) := by
  rw [ix_get (by rw [List.length_map]; exact hv), List.getElem_map, ix_get hv]
theorem marked_clean {sizes : List Int} (hs : sizesE sizes = 0) : Marked sizes (sizes.map newB) (fun _ _ => False) := by
  refine ⟨⟨List.length_map _, fun v hv => ?_⟩, fun v i hv _ => ?_⟩
  · have := sizesE_ix hs hv
    rw [ix_newBs hv]; exact ⟨(newB_ok (by omega) (by omega)).1, rfl⟩
  · have := sizesE_ix hs hv
    rw [ix_newBs hv, (newB_ok (by omega) (by omega)).2 i]; simp
theorem fitW_vol {sizes : List Int} {w : api_Write} (h : fitW sizes w = 0) : ∃ v : Nat, w.Volume = (v : Int) ∧ v < sizes.length ∧ 0 ≤ w.Start ∧ 1 ≤ (w.Data.length : Int) ∧ w.Start + (w.Data.length : Int) ≤ ix sizes (v : Int) := by
  unfold fitW at h
  split at h
  · omega
  split at h
  · omega
  split at h
  · omega
  rename_i a b c
  refine ⟨w.Volume.toNat, by omega, by omega, by omega, by omega, ?_⟩
  rw [show ((w.Volume.toNat : Nat) : Int) = w.Volume by omega]; omega
theorem fits_write {sizes : List Int} {d : List api_Bitmap} (h : BmsOk sizes d) {w : api_Write} (hw : fitW sizes w = 0) : fitsB w.Start (w.Data.length : Int) (ix d w.Volume).Size = true := by
  obtain ⟨v, hv, hl, h0, h1, h2⟩ := fitW_vol hw
  rw [hv, (h.chk v hl).2]
  exact fitsB_iff.2 ⟨by omega, by omega, by omega, by omega⟩
theorem set_write {sizes : List Int} {d : List api_Bitmap} (h : BmsOk sizes d) {w : api_Write} (hw : fitW sizes w = 0) : (setBm (ix d w.Volume) ⟨w.Start, (w.Data.length : Int)⟩).2 = 0 := by
  obtain ⟨v, hv, hl, h0, h1, h2⟩ := fitW_vol hw
  have hf := fits_write h hw
  rw [hv] at hf ⊢
  exact (setBm_ok (e := ⟨w.Start, (w.Data.length : Int)⟩) (h.chk v hl).1 hf).1
theorem ix_put2 {α : Type} [Dt α] (xs : List α) {k : Nat} (x : α) (hk : k < xs.length) (j : Nat) : ix (put xs (k : Int) x) (j : Int) = if j = k then x else ix xs (j : Int) := by
  show (xs.set k x).getD j default = _
  rw [List.getD_eq_getElem?_getD, List.getElem?_set]
  by_cases h : k = j
  · subst h; rw [if_pos rfl, if_pos rfl, if_pos hk]; rfl
  · rw [if_neg h, if_neg (Ne.symm h)]; rw [← List.getD_eq_getElem?_getD]; rfl
theorem marked_step {sizes : List Int} {d : List api_Bitmap} {P : Nat → Nat → Prop} (h : Marked sizes d P) {w : api_Write} (hw : fitW sizes w = 0) : Marked sizes (mark1 d w) (fun v i => P v i ∨ covT w v i) := by
  obtain ⟨v0, hv, hl, h0, h1, h2⟩ := fitW_vol hw
  have hf := fits_write h.toBmsOk hw
  have hlen := h.len
  rw [hv] at hf
  obtain ⟨s1, s2, s3, s4⟩ := setBm_ok (e := ⟨w.Start, (w.Data.length : Int)⟩) (h.chk v0 hl).1 hf
  have e : ∀ v : Nat, ix (mark1 d w) (v : Int) = if v = v0 then (setBm (ix d (v0 : Int)) ⟨w.Start, (w.Data.length : Int)⟩).1 else ix d (v : Int) := fun v => by
    unfold mark1; rw [hv, ix_put2 _ _ (by omega)]
  have c2 := (h.chk v0 hl).2
  refine ⟨⟨(put_len _ _ _).trans hlen, fun v hv' => ?_⟩, fun v i hv' hi => ?_⟩
  · rw [e v]
    by_cases hc : v = v0
    · subst hc; rw [if_pos rfl]; exact ⟨s2, s3.trans c2⟩
    · rw [if_neg hc]; exact h.chk v hv'
  · rw [e v]
    by_cases hc : v = v0
    · subst hc
      rw [if_pos rfl, s4 i (by rw [c2]; exact hi), h.bit v i hv' hi]
      exact or_congr Iff.rfl ⟨fun q => ⟨hv, q.1, q.2⟩, fun q => ⟨q.2.1, q.2.2⟩⟩
    · rw [if_neg hc, h.bit v i hv' hi]
      exact ⟨fun q => .inl q, fun q => q.resolve_right fun z => hc (by have := z.1; omega)⟩
theorem mark1_ok {sizes : List Int} {d : List api_Bitmap} (h : BmsOk sizes d) {w : api_Write} (hw : fitW sizes w = 0) : BmsOk sizes (mark1 d w) :=
  (marked_step (P := fun v i => bitN (ix d (v : Int)).Words i = true) ⟨h, fun _ _ _ _ => Iff.rfl⟩ hw).toBmsOk
theorem markL_ok {sizes : List Int} : ∀ {l : List api_Write} {d : List api_Bitmap}, BmsOk sizes d → (∀ w ∈ l, fitW sizes w = 0) → BmsOk sizes (markL d l)
  | [], _, h, _ => h
  | w :: l, d, h, hf => markL_ok (l := l) (d := mark1 d w) (mark1_ok h (hf w List.mem_cons_self)) fun x hx => hf x (List.mem_cons_of_mem _ hx)
theorem marked_list {sizes : List Int} : ∀ {l : List api_Write} {d : List api_Bitmap} {P : Nat → Nat → Prop}, Marked sizes d P → (∀ w ∈ l, fitW sizes w = 0) → Marked sizes (markL d l) (fun v i => P v i ∨ ∃ w ∈ l, covT w v i)
  | [], d, P, h, _ => ⟨h.toBmsOk, fun v i hv hi => (h.bit v i hv hi).trans ⟨.inl, fun q => q.resolve_right fun ⟨w, hw, _⟩ => absurd hw List.not_mem_nil⟩⟩
  | w :: l, d, P, h, hf => by
    have := marked_list (l := l) (marked_step h (hf w List.mem_cons_self)) fun x hx => hf x (List.mem_cons_of_mem _ hx)
    refine ⟨this.toBmsOk, fun v i hv hi => (this.bit v i hv hi).trans ?_⟩
    constructor
    · rintro ((q | q) | ⟨x, hx, q⟩)
      · exact .inl q
      · exact .inr ⟨w, List.mem_cons_self, q⟩
      · exact .inr ⟨x, List.mem_cons_of_mem _ hx, q⟩
    · rintro (q | ⟨x, hx, q⟩)
      · exact .inl (.inl q)
      · rcases List.mem_cons.1 hx with rfl | hx
        · exact .inl (.inr q)
        · exact .inr ⟨x, hx, q⟩
structure TrkOk (t : api_Tracker) : Prop where
  hs : sizesE t.Sizes = 0
  n4 : t.Peers.length ≤ 4
  bms : ∀ k : Nat, k < t.Peers.length → BmsOk t.Sizes (ix t.Peers (k : Int)).Dirty
  site : ∀ k : Nat, k < t.Peers.length → 0 ≤ (ix t.Peers (k : Int)).Site ∧ (ix t.Peers (k : Int)).Site < 4
  com : ∀ k : Nat, k < t.Peers.length → 0 ≤ (ix t.Peers (k : Int)).Common ∧ (ix t.Peers (k : Int)).Common ≤ 1073741824
  asc : ∀ i j : Nat, i < j → j < t.Peers.length → (ix t.Peers (i : Int)).Site < (ix t.Peers (j : Int)).Site
theorem bmsC_zero {d : List api_Bitmap} {sizes : List Int} (h : bmsC d sizes = 0) : BmsOk sizes d := by
  unfold bmsC at h
  split at h
  · omega
  · rename_i hl
    refine ⟨by omega, fun v hv => ?_⟩
    have := firstN_zero.1 h v (by omega)
    unfold bmsE at this
    split at this
    · rename_i q; exact absurd this q
    · rename_i q
      split at this
      · omega
      · rename_i q2; exact ⟨Classical.not_not.1 q, Classical.not_not.1 q2⟩
theorem bmsC_of {d : List api_Bitmap} {sizes : List Int} (h : BmsOk sizes d) : bmsC d sizes = 0 := by
  have hl := h.len
  unfold bmsC
  rw [if_neg (by omega)]
  refine firstN_zero.2 fun k hk => ?_
  have := h.chk k (by omega)
  unfold bmsE
  rw [if_neg (fun q => q this.1), if_neg (fun q => q this.2)]
theorem trk_ok {t : api_Tracker} (h : trkE t = 0) : TrkOk t := by
  unfold trkE at h
  split at h
  · rename_i q; exact absurd h q
  rename_i q
  split at h
  · omega
  have hz := firstN_zero.1 h
  have pk : ∀ k : Nat, k < t.Peers.length → (0 ≤ (ix t.Peers (k : Int)).Site ∧ (ix t.Peers (k : Int)).Site < 4) ∧ ¬ (0 < (k : Int) ∧ (ix t.Peers (k : Int)).Site ≤ (ix t.Peers ((k : Int) - 1)).Site) ∧ (0 ≤ (ix t.Peers (k : Int)).Common ∧ (ix t.Peers (k : Int)).Common ≤ 1073741824) ∧ bmsC (ix t.Peers (k : Int)).Dirty t.Sizes = 0 := fun k hk => by
    have := hz k hk
    unfold peerE at this
    split at this
    · omega
    split at this
    · omega
    split at this
    · omega
    rename_i n1 n2 n3
    exact ⟨by omega, n2, by omega, this⟩
  refine ⟨Classical.not_not.1 q, by omega, fun k hk => bmsC_zero (pk k hk).2.2.2, fun k hk => (pk k hk).1, fun k hk => (pk k hk).2.2.1, fun i j hij hj => ?_⟩
  induction j with
  | zero => omega
  | succ j ih =>
    have h1 := (pk (j + 1) hj).2.1
    rw [show ((j + 1 : Nat) : Int) - 1 = (j : Int) by omega] at h1
    rcases Nat.lt_or_ge i j with h2 | h2
    · have := ih h2 (by omega); omega
    · have : i = j := by omega
      subst this; omega
theorem trk_of {t : api_Tracker} (h : TrkOk t) : trkE t = 0 := by
  have h4 := h.n4
  unfold trkE
  rw [if_neg (fun q => q h.hs), if_neg (by omega)]
  refine firstN_zero.2 fun k hk => ?_
  have h1 := h.site k hk
  have h2 := h.com k hk
  unfold peerE
  rw [if_neg (by omega), if_neg, if_neg (by omega)]
  · exact bmsC_of (h.bms k hk)
  · rintro ⟨q1, q2⟩
    obtain ⟨j, rfl⟩ : ∃ j, k = j + 1 := ⟨k - 1, by omega⟩
    have := h.asc j (j + 1) (by omega) hk
    rw [show ((j + 1 : Nat) : Int) - 1 = (j : Int) by omega] at q2
    omega
def sec (im : List (List Sec)) (v i : Nat) : Sec := ix (ix im (v : Int)) (i : Int)
theorem slices_Clone_int_ok {l : List Int} {Φ : List Int → Prop} (hl : l.length ≤ 1000000) (hΦ : Φ l) : Z43 l Φ :=
  ⟨fun h => (by subst h; exact hΦ), iL hl (by omega), hΦ⟩
theorem tracker_between_ok {x lo hi : Int} {Φ : Bool → Prop} (h : Φ (decide (lo ≤ x ∧ x ≤ hi))) : Z63 x lo hi Φ := by
  refine ⟨fun q => ?_, fun q => ?_⟩
  · rw [show decide (lo ≤ x ∧ x ≤ hi) = decide (x ≤ hi) from by simp [q]] at h; exact h
  · rw [show decide (lo ≤ x ∧ x ≤ hi) = false from decide_eq_false fun r => q r.1] at h; exact h
theorem tracker_between_ways {x lo hi : Int} {Φ : Bool → Prop} (h1 : ¬ (lo ≤ x ∧ x ≤ hi) → Φ false) (h2 : lo ≤ x ∧ x ≤ hi → Φ true) : Z63 x lo hi Φ := by
  refine tracker_between_ok ?_
  by_cases q : lo ≤ x ∧ x ≤ hi
  · rw [decide_eq_true q]; exact h2 q
  · rw [decide_eq_false q]; exact h1 q
theorem tracker_site_ways {x : Int} {Φ : Bool → Prop} (h1 : x < 0 ∨ 4 ≤ x → Φ false) (h2 : ¬ (x < 0 ∨ 4 ≤ x) → Φ true) : Z64 x Φ :=
  tracker_between_ways (fun q => h1 (by omega)) fun q => h2 (by omega)
theorem ff {P Q : Prop} (h : P) : (¬ (false = true) → P) ∧ (¬ (¬ (false = true)) → Q) := ⟨fun _ => h, fun q => absurd (by simp) q⟩
theorem tt {P Q : Prop} (h : Q) : (¬ (true = true) → P) ∧ (¬ (¬ (true = true)) → Q) := ⟨fun q => absurd rfl q, fun _ => h⟩
theorem tracker_checkBitmaps_ok {d : List api_Bitmap} {sizes : List Int} {Φ : Int → Prop} (hl : sizes.length ≤ 100000) (hΦ : Φ (bmsC d sizes)) : Z72 d sizes Φ := by
  unfold bmsC at hΦ
  refine ⟨fun q => by rw [if_pos q] at hΦ; exact hΦ, fun q => ?_⟩
  rw [if_neg q] at hΦ
  refine LoopW.errI d.length (fun k => ((k : Int), List.replicate k true)) (bmsE d sizes) rfl hΦ (fun k rec hk _ h1 h2 => ⟨fun _ => ⟨iX (by omega) (by omega), iX (by omega) (by omega), ?_⟩, fun z => absurd (show (k : Int) < (d.length : Int) by omega) z⟩) fun rec _ h => ⟨fun z => absurd (show (d.length : Int) < (d.length : Int) from z) (by omega), fun _ => h⟩
  by_cases a1 : chkB (ix d (k : Int)) ≠ 0
  · have e : bmsE d sizes k = chkB (ix d (k : Int)) := if_pos a1
    rw [e] at h1
    exact ⟨(false, chkB (ix d (k : Int)), ()), bitmap_Check_ok ⟨fun _ => rfl, fun z => absurd a1 z⟩, fun _ => h1 a1, fun z => absurd a1 z⟩
  · by_cases a2 : (ix d (k : Int)).Size ≠ ix sizes (k : Int)
    · have e : bmsE d sizes k = 22 := by unfold bmsE; rw [if_neg a1, if_pos a2]
      rw [e] at h1
      exact ⟨(false, 22, ()), bitmap_Check_ok ⟨fun z => absurd z a1, fun _ => ⟨fun _ => rfl, fun z => absurd a2 z⟩⟩, fun _ => h1 (by decide), fun z => absurd (show (22 : Int) ≠ 0 by decide) z⟩
    · have e : bmsE d sizes k = 0 := by unfold bmsE; rw [if_neg a1, if_neg a2]
      exact ⟨(true, 0, ()), bitmap_Check_ok ⟨fun z => absurd z a1, fun _ => ⟨fun z => absurd z a2, fun _ => rfl⟩⟩, fun z => absurd rfl z, fun _ => ⟨iL (by rw [len_snoc, List.length_replicate]; omega) (by omega), iI (by omega) (by omega), h2 e _ (Prod.ext rfl List.replicate_succ'.symm)⟩⟩
theorem tracker_Check_ok0 {t : api_Tracker} {Φ : Int → Prop} (hΦ : Φ (trkE t)) : Z74 t Φ := by
  unfold trkE at hΦ
  refine image_New_ok (fun q => ⟨fun z => absurd rfl z, fun _ => ?_⟩) fun q => ⟨fun _ => by rw [if_pos q] at hΦ; exact hΦ, fun z => absurd q z⟩
  rw [if_neg (fun z => z q)] at hΦ
  refine ⟨fun q2 => by rw [if_pos q2] at hΦ; exact hΦ, fun q2 => ?_⟩
  rw [if_neg q2] at hΦ
  refine LoopW.errI t.Peers.length (fun k => ((if k = 0 then -1 else (ix t.Peers ((k : Int) - 1)).Site), (k : Int))) (peerE t) rfl hΦ (fun k rec hk _ h1 h2 => ?_) fun rec _ h => ⟨fun z => absurd (show (t.Peers.length : Int) < (t.Peers.length : Int) from z) (by omega), fun _ => h⟩
  have hlt : (k : Int) < (t.Peers.length : Int) := by omega
  refine ⟨fun _ => ⟨iX (by omega) hlt, tracker_site_ways (fun n1 => ff ?_) fun n1 => tt ⟨fun q4 => ?_, fun q4 => ?_⟩⟩, fun z => absurd hlt z⟩
  · have e : peerE t k = 2 := if_pos n1
    rw [e] at h1; exact h1 (by decide)
  · have e : peerE t k = 8 := by
      unfold peerE
      rw [if_neg n1]
      by_cases h0 : k = 0
      · rw [if_pos h0] at q4; omega
      · rw [if_neg h0] at q4; rw [if_pos ⟨by omega, q4⟩]
    rw [e] at h1; exact h1 (by decide)
  · have n2 : ¬ (0 < (k : Int) ∧ (ix t.Peers (k : Int)).Site ≤ (ix t.Peers ((k : Int) - 1)).Site) := fun h => by
      rw [if_neg (show ¬ k = 0 by omega)] at q4
      exact q4 h.2
    refine tracker_between_ways (fun q5 => ff ?_) fun q5 => tt (tracker_checkBitmaps_ok (by have := sizesE_len q; omega) ?_)
    · have e : peerE t k = 2 := by unfold peerE; rw [if_neg n1, if_neg n2, if_pos (by omega)]
      rw [e] at h1; exact h1 (by decide)
    · have e : peerE t k = bmsC (ix t.Peers (k : Int)).Dirty t.Sizes := by unfold peerE; rw [if_neg n1, if_neg n2, if_neg (by omega)]
      rw [e] at h1 h2
      refine ⟨fun q6 => h1 q6, fun q6 => ⟨iI (by omega) (by omega), h2 (Classical.not_not.1 q6) _ (Prod.ext ?_ rfl)⟩⟩
      show (ix t.Peers (k : Int)).Site = if k + 1 = 0 then (-1 : Int) else (ix t.Peers (((k + 1 : Nat) : Int) - 1)).Site
      rw [if_neg (Nat.succ_ne_zero k), show ((k + 1 : Nat) : Int) - 1 = (k : Int) by omega]
theorem tracker_Check_ok {t : api_Tracker} {Φ : Int → Prop} (_ : ∀ p ∈ t.Peers, p.Dirty.length ≤ 100000) (hΦ : Φ (trkE t)) : Z74 t Φ := tracker_Check_ok0 hΦ
theorem mput_newP {κ ν : Type} [DecidableEq κ] {k : κ} {v : ν} : ∀ {m : List (κ × ν)}, k ∉ m.map (·.1) → mput m k v = m ++ [(k, v)]
  | [], _ => rfl
  | p :: m, h => by
    have h1 : ¬ k = p.1 := fun e => h (by rw [e]; exact List.mem_cons_self)
    unfold mput
    rw [if_neg h1, mput_newP fun q => h (List.mem_cons_of_mem _ q)]; rfl
theorem mfind_none {κ ν : Type} [DecidableEq κ] {k : κ} : ∀ {m : List (κ × ν)}, k ∉ m.map (·.1) → mfind m k = none
  | [], _ => rfl
  | p :: m, h => by
    have h1 : ¬ k = p.1 := fun e => h (by rw [e]; exact List.mem_cons_self)
    unfold mfind
    rw [if_neg h1, mfind_none fun q => h (List.mem_cons_of_mem _ q)]
theorem mfind_some {κ ν : Type} [DecidableEq κ] {k : κ} : ∀ {m : List (κ × ν)}, k ∈ m.map (·.1) → (mfind m k).isSome = true
  | [], h => absurd h List.not_mem_nil
  | p :: m, h => by
    unfold mfind
    by_cases h1 : k = p.1
    · rw [if_pos h1]; rfl
    · rw [if_neg h1]
      rcases List.mem_cons.1 h with e | e
      · exact absurd e h1
      · exact mfind_some e
theorem mhas_iff {κ ν : Type} [DecidableEq κ] {k : κ} {m : List (κ × ν)} : mhas m k = true ↔ k ∈ m.map (·.1) := by
  unfold mhas
  by_cases h : k ∈ m.map (·.1)
  · obtain ⟨v, hv⟩ := Option.isSome_iff_exists.1 (mfind_some h)
    rw [hv]; exact ⟨fun _ => h, fun _ => rfl⟩
  · rw [mfind_none h]; exact ⟨fun q => absurd q (by simp), fun q => absurd q h⟩
theorem mfind_at {κ ν : Type} [DecidableEq κ] : ∀ {m : List (κ × ν)} {p : κ × ν}, (m.map (·.1)).Nodup → p ∈ m → mfind m p.1 = some p.2
  | [], _, _, h => absurd h List.not_mem_nil
  | q :: m, p, hn, h => by
    have h1 := List.nodup_cons.1 hn
    unfold mfind
    rcases List.mem_cons.1 h with rfl | h
    · rw [if_pos rfl]
    · rw [if_neg fun e => h1.1 (List.mem_map.2 ⟨p, h, e⟩)]
      exact mfind_at h1.2 h
theorem mget_at {κ ν : Type} [DecidableEq κ] {m : List (κ × ν)} {p : κ × ν} {z : ν} (hn : (m.map (·.1)).Nodup) (h : p ∈ m) : mget m p.1 z = p.2 := by
  unfold mget; rw [mfind_at hn h]
def keyP (p : api_Peer) : Int × api_Peer := (p.Site, p)
theorem keys_keyP (l : List api_Peer) : (l.map keyP).map (fun p => p.1) = l.map (·.Site) := by rw [List.map_map]; rfl
theorem get_keyP {l : List api_Peer} {p z : api_Peer} (hn : (l.map (·.Site)).Nodup) (hp : p ∈ l) : mget (l.map keyP) p.Site z = p := by
  have := mget_at (m := l.map keyP) (p := keyP p) (z := z) (by rw [keys_keyP]; exact hn) (List.mem_map_of_mem hp)
  exact this
def noTrk : api_Tracker := ⟨[], []⟩
def badS (s : Int) : Bool := decide (s < 0 ∨ 4 ≤ s)
def siteK (sites : List Int) (k : Nat) : List Int := ((List.range k).map fun j : Nat => (j : Int)).filter fun s => decide (s ∈ sites)
def newP (sizes : List Int) (common s : Int) : api_Peer := ⟨s, common, sizes.map newB⟩
def newT (sizes sites : List Int) (common : Int) : api_Tracker × Int :=
  if sizesE sizes ≠ 0 then (noTrk, sizesE sizes) else if 4 < (sites.length : Int) then (noTrk, 6) else if sites.any badS = true then (noTrk, 2) else if ¬ sites.Nodup then (noTrk, 8)
  else if common < 0 ∨ 1073741824 < common then (noTrk, 2) else (⟨sizes, (siteK sites 4).map (newP sizes common)⟩, 0)
theorem siteK_mem {sites : List Int} {k : Nat} {x : Int} : x ∈ siteK sites k ↔ (0 ≤ x ∧ x < (k : Int)) ∧ x ∈ sites := by
  unfold siteK
  rw [List.mem_filter, decide_eq_true_iff]
  refine and_congr ⟨fun h => ?_, fun h => ?_⟩ Iff.rfl
  · obtain ⟨j, hj, rfl⟩ := List.mem_map.1 h
    have := List.mem_range.1 hj
    omega
  · exact List.mem_map.2 ⟨x.toNat, List.mem_range.2 (by omega), by omega⟩
theorem siteK_asc (sites : List Int) (k : Nat) : (siteK sites k).Pairwise fun a b => a < b := by
  unfold siteK
  refine List.Pairwise.filter _ (List.pairwise_map.2 (List.pairwise_lt_range.imp fun h => by omega))
theorem siteK_succ (sites : List Int) (k : Nat) : siteK sites (k + 1) = siteK sites k ++ (if (k : Int) ∈ sites then [(k : Int)] else []) := by
  unfold siteK
  rw [List.range_succ, List.map_append, List.filter_append]
  congr 1
  by_cases h : (k : Int) ∈ sites <;> simp [h]
theorem siteK_len (sites : List Int) : ∀ k : Nat, (siteK sites k).length ≤ k
  | 0 => Nat.le_refl _
  | k + 1 => by
    rw [siteK_succ, List.length_append]
    have := siteK_len sites k
    split
    · rw [List.length_singleton]; omega
    · rw [List.length_nil]; omega
theorem sort_sites {sites : List Int} (hb : ∀ s ∈ sites, badS s = false) (hn : sites.Nodup) : sortZ sites = siteK sites 4 := by
  refine asc_ext (sortZ_lt hn) (siteK_asc _ _) fun x => ?_
  rw [sortZ_mem, siteK_mem]
  refine ⟨fun h => ⟨?_, h⟩, fun h => h.2⟩
  have := of_decide_eq_false (hb x h)
  omega
theorem tracker_New_ok {sizes sites : List Int} {common : Int} {Φ : api_Tracker × Int → Prop} (hΦ : Φ (newT sizes sites common)) : tracker_New_W sizes sites common Φ := by
  unfold newT at hΦ
  refine image_New_ok (fun q => ⟨fun z => absurd rfl z, fun _ => ?_⟩) fun q => ⟨fun _ => by rw [if_pos q] at hΦ; exact hΦ, fun z => absurd q z⟩
  rw [if_neg (fun z => z q)] at hΦ
  refine ⟨fun q2 => by rw [if_pos q2] at hΦ; exact hΦ, fun q2 => ?_⟩
  rw [if_neg q2] at hΦ
  refine LoopW.anyL sites badS (Φ := fun b => (b = true → Φ (noTrk, 2)) ∧ (b = false → LoopW (Z68 sizes sites common Φ) (0, ([] : List (Int × api_Peer))))) ⟨fun z => by rw [if_pos z] at hΦ; exact hΦ, fun z => ?_⟩ (fun k rec hk h1 h2 => ⟨fun _ => ⟨iX (by omega) (by omega), tracker_site_ways (fun n => ff ((h1 (decide_eq_true n)).1 rfl)) fun n => tt ⟨iI (by omega) (by omega), h2 (decide_eq_false n)⟩⟩, fun q => absurd (show (k : Int) < (sites.length : Int) by omega) q⟩) fun rec h => ⟨fun q => absurd q (by omega), fun _ => h.2 rfl⟩
  rw [if_neg (by rw [z]; simp)] at hΦ
  have hb : ∀ s ∈ sites, badS s = false := fun s hs => by
    cases hx : badS s with
    | false => rfl
    | true => rw [List.any_eq_true.2 ⟨s, hs, hx⟩] at z; cases z
  have hs := sizesE_len q
  refine LoopW.upI sites.length (fun k => ((k : Int), (sites.take k).map fun s => (s, newP sizes common s))) (fun k => (sites.take k).Nodup) rfl (by simp) (fun k rec hk hI hrec => ?_) fun rec hI => ?_
  · have hkey : ((sites.take k).map fun s => (s, newP sizes common s)).map (·.1) = sites.take k := by rw [List.map_map]; exact List.map_id' _
    refine ⟨fun _ => ⟨iX (by omega) (by omega), fun hh => ?_, fun hh => tracker_clean_ok (by omega) (fun j hj => by have := sizesE_ix q hj; omega) ⟨fun z => absurd rfl z, fun _ => ⟨iI (by omega) (by omega), ?_⟩⟩⟩, fun q => absurd (show (k : Int) < (sites.length : Int) by omega) q⟩
    · have hh := mhas_iff.1 hh
      rw [hkey] at hh
      rw [if_pos fun hn => ?_] at hΦ
      · exact hΦ
      · have h3 : (sites.take (k + 1)).Nodup := hn.sublist (List.take_sublist _ _)
        rw [take_ix hk] at h3
        have := (List.nodup_append.1 h3).2.2 _ hh _ (List.mem_singleton.2 rfl)
        exact this rfl
    · have hh : ix sites (k : Int) ∉ sites.take k := fun h => hh (mhas_iff.2 (by rw [hkey]; exact h))
      refine hrec ?_ _ (Prod.ext rfl ?_)
      · rw [take_ix hk]
        exact List.nodup_append.2 ⟨hI, List.nodup_cons.2 ⟨List.not_mem_nil, List.nodup_nil⟩, fun a ha b hb e => hh (by rw [List.mem_singleton.1 hb] at e; rw [← e]; exact ha)⟩
      · rw [map_take_snoc _ hk]
        exact mput_newP (by rw [hkey]; exact hh)
  · rw [take_all] at hI ⊢
    rw [if_neg (fun z => z hI)] at hΦ
    have hkey : (sites.map fun s => (s, newP sizes common s)).map (fun p => p.1) = sites := by rw [List.map_map]; exact List.map_id' _
    refine ⟨fun z => absurd (show (sites.length : Int) < (sites.length : Int) from z) (by omega), fun _ => tracker_between_ways (fun q5 => ff (by rw [if_pos (by omega)] at hΦ; exact hΦ)) fun q5 => tt (slices_Clone_int_ok (by omega) ⟨by rw [hkey]; exact hI, fun p hp => ?_, iL (by rw [List.length_map]; omega) (by omega), ?_⟩)⟩
    · obtain ⟨s, hs, rfl⟩ := List.mem_map.1 hp
      have := of_decide_eq_false (hb s hs)
      exact iI (by show -9223372036854775808 ≤ s; omega) (by show s ≤ 9223372036854775807; omega)
    · rw [if_neg (show ¬ (common < 0 ∨ 1073741824 < common) by omega)] at hΦ
      have hks : sortZ ((sites.map fun s => (s, newP sizes common s)).map fun p => p.1) = siteK sites 4 := by rw [hkey]; exact sort_sites hb hI
      have hl4 := siteK_len sites 4
      generalize hz : Z67 (sites.map fun s => (s, newP sizes common s)) sizes Φ = step
      have hstep : ∀ s rec, step s rec = Z67 (sites.map fun s => (s, newP sizes common s)) sizes Φ s rec := fun s rec => by rw [hz]
      refine LoopW.upT (siteK sites 4).length (fun k => ((k : Int), ((siteK sites 4).take k).map (newP sizes common))) rfl (fun k rec hk hrec => ?_) fun rec => ?_
      · rw [hstep]
        have hm : ix (siteK sites 4) (k : Int) ∈ sites := (siteK_mem.1 (ix_mem (iX (show (0 : Int) ≤ (k : Int) by omega) (by omega)))).2
        have hg : mget (sites.map fun s => (s, newP sizes common s)) (ix (siteK sites 4) (k : Int)) (api_Peer.mk 0 0 ([] : List api_Bitmap)) = newP sizes common (ix (siteK sites 4) (k : Int)) :=
          mget_at (m := sites.map fun s => (s, newP sizes common s)) (p := (ix (siteK sites 4) (k : Int), newP sizes common (ix (siteK sites 4) (k : Int)))) (by rw [List.map_map]; exact (List.map_id' sites).symm ▸ hI) (List.mem_map.2 ⟨_, hm, rfl⟩)
        unfold Z67
        simp only
        rw [hks, hg]
        exact ⟨fun _ => ⟨iX (by omega) (by omega), iL (by rw [len_snoc, List.length_map, lenT (Nat.le_of_lt hk)]; omega) (by omega), iI (by omega) (by omega), hrec _ (Prod.ext rfl (map_take_snoc _ hk).symm)⟩, fun q => absurd (show (k : Int) < ((siteK sites 4).length : Int) by omega) q⟩
      · rw [hstep]
        unfold Z67
        simp only
        rw [hks, take_all]
        exact ⟨fun q => absurd q (by omega), fun _ => hΦ⟩
theorem TrkOk.small {t : api_Tracker} (h : TrkOk t) : t.Sizes.length ≤ 8 ∧ t.Peers.length ≤ 4 ∧ ∀ p ∈ t.Peers, p.Dirty.length ≤ 8 ∧ ∀ b ∈ p.Dirty, b.Words.length ≤ 1000 := by
  have h8 := sizesE_len h.hs
  refine ⟨h8.2, h.n4, fun p hp => ?_⟩
  obtain ⟨k, hk, rfl⟩ := List.getElem_of_mem hp
  have hb := h.bms k hk
  rw [ix_get hk] at hb
  exact ⟨by have := hb.len; omega, fun b hb' => (hb.words b hb').2⟩
theorem TrkOk.sites {t : api_Tracker} (h : TrkOk t) : (t.Peers.map (·.Site)).Pairwise fun a b => a < b := by
  rw [List.pairwise_map]
  refine List.pairwise_iff_getElem.2 fun i j hi hj hij => ?_
  have := h.asc i j hij hj
  rwa [ix_get hi, ix_get hj] at this
theorem asc_nodup {l : List Int} (h : l.Pairwise fun a b => a < b) : l.Nodup := h.imp fun q => by omega
theorem tracker_own_ok {b : api_Bitmap} {Φ : api_Bitmap → Prop} (hl : b.Words.length ≤ 1000000) (hΦ : Φ b) : tracker_own_W b Φ := ⟨(b.Words, ()), clone_word_ok hl rfl, hΦ⟩
theorem tracker_ownAll_ok {d : List api_Bitmap} {Φ : List api_Bitmap → Prop} (hl : d.length ≤ 100000) (hw : ∀ b ∈ d, b.Words.length ≤ 1000000) (hΦ : Φ d) : Z77 d Φ := by
  refine LoopW.upT d.length (fun k => ((k : Int), d.take k)) rfl (fun k rec hk hrec => ⟨fun _ => ⟨iX (by omega) (by omega), tracker_own_ok (hw _ (ix_mem (iX (by omega) (by omega)))) ⟨iL (by rw [len_snoc, lenT (Nat.le_of_lt hk)]; omega) (by omega), iI (by omega) (by omega), hrec _ (Prod.ext rfl (take_ix hk).symm)⟩⟩, fun q => absurd (show (k : Int) < (d.length : Int) by omega) q⟩) fun rec => ⟨fun q => absurd (show (d.length : Int) < (d.length : Int) from q) (by omega), fun _ => ?_⟩
  rw [take_all]; exact hΦ
def fndK (l : List api_Peer) (n : Int) : Nat := l.findIdx fun p => decide (p.Site = n)
theorem fndK_lt {l : List api_Peer} {n : Int} (h : fndK l n < l.length) : (ix l (fndK l n : Int)).Site = n := by
  rw [ix_get h]
  exact of_decide_eq_true (List.findIdx_getElem (w := h))
theorem fndK_mem {l : List api_Peer} {n : Int} : fndK l n < l.length ↔ n ∈ l.map (·.Site) := by
  constructor
  · intro h
    exact List.mem_map.2 ⟨_, ix_mem (iX (show (0 : Int) ≤ (fndK l n : Int) by omega) (by omega)), fndK_lt h⟩
  · intro h
    obtain ⟨p, hp, e⟩ := List.mem_map.1 h
    exact List.findIdx_lt_length_of_exists ⟨p, hp, decide_eq_true e⟩
def dirtyT (t : api_Tracker) (n : Int) : List api_Bitmap × Int × Int :=
  if trkE t ≠ 0 then ([], 0, trkE t) else if fndK t.Peers n < t.Peers.length then ((ix t.Peers (fndK t.Peers n : Int)).Dirty, (ix t.Peers (fndK t.Peers n : Int)).Common, 0) else ([], 0, 7)
theorem keyP_take {l : List api_Peer} {k : Nat} (hk : k < l.length) (hn : (l.map (·.Site)).Nodup) : mput ((l.take k).map keyP) (ix l (k : Int)).Site (ix l (k : Int)) = (l.take (k + 1)).map keyP := by
  rw [mput_newP]
  · rw [map_take_snoc keyP hk]; rfl
  · rw [keys_keyP]
    intro h
    have h2 : ((l.take (k + 1)).map (·.Site)).Nodup := hn.sublist ((List.take_sublist _ _).map _)
    rw [map_take_snoc (·.Site) hk] at h2
    exact (List.nodup_append.1 h2).2.2 _ h _ (List.mem_singleton.2 rfl) rfl
theorem mget_keyP {l : List api_Peer} {n : Int} (hn : (l.map (·.Site)).Nodup) (h : fndK l n < l.length) (z : api_Peer) : mget (l.map keyP) n z = ix l (fndK l n : Int) := by
  have := get_keyP (z := z) hn (ix_mem (iX (show (0 : Int) ≤ (fndK l n : Int) by omega) (by omega)))
  rwa [fndK_lt h] at this
theorem mhas_keyP {l : List api_Peer} {n : Int} : mhas (l.map keyP) n = true ↔ fndK l n < l.length := by
  rw [mhas_iff, fndK_mem]
  show n ∈ (l.map keyP).map (fun p => p.1) ↔ _
  rw [keys_keyP]
theorem tracker_Dirty_ok {t : api_Tracker} {n : Int} {Φ : List api_Bitmap × Int × Int → Prop} (hd : ∀ p ∈ t.Peers, p.Dirty.length ≤ 100000) (hΦ : Φ (dirtyT t n)) : Z95 t n Φ := by
  unfold dirtyT at hΦ
  refine tracker_Check_ok hd ⟨fun q => by rw [if_pos q] at hΦ; exact hΦ, fun q => ?_⟩
  rw [if_neg q] at hΦ
  have h := trk_ok (Classical.not_not.1 q)
  obtain ⟨h8, h4, hs⟩ := h.small
  have hn := asc_nodup h.sites
  refine LoopW.upT t.Peers.length (fun k => ((k : Int), (t.Peers.take k).map keyP)) rfl (fun k rec hk hrec => ?_) fun rec => ⟨fun z => absurd (show (t.Peers.length : Int) < (t.Peers.length : Int) from z) (by omega), fun _ => ?_⟩
  · have hp := hs _ (ix_mem (xs := t.Peers) (i := (k : Int)) (iX (by omega) (by omega)))
    exact ⟨fun _ => ⟨iX (by omega) (by omega), tracker_ownAll_ok (by omega) (fun b hb => by have := hp.2 b hb; omega) ⟨iI (by omega) (by omega), hrec _ (Prod.ext rfl (keyP_take hk hn))⟩⟩, fun z => absurd (show (k : Int) < (t.Peers.length : Int) by omega) z⟩
  · rw [take_all]
    refine ⟨fun z => ?_, fun z => ?_⟩
    · rw [if_neg fun q2 => z (mhas_keyP.2 q2)] at hΦ; exact hΦ
    · have z := mhas_keyP.1 (Classical.not_not.1 z)
      rw [if_pos z] at hΦ
      rw [mget_keyP hn z]; exact hΦ
theorem list_keyP {l : List api_Peer} (h : (l.map (·.Site)).Pairwise fun a b => a < b) : sortZ ((l.map keyP).map fun p => p.1) = l.map (·.Site) := by rw [keys_keyP]; exact sortZ_asc h
theorem ix_map {α β : Type} [Dt α] [Dt β] (f : α → β) {l : List α} {k : Nat} (hk : k < l.length) : ix (l.map f) (k : Int) = f (ix l (k : Int)) := by
  rw [ix_get (by rw [List.length_map]; exact hk), List.getElem_map, ix_get hk]
theorem key_at {l : List api_Peer} {k : Nat} (hn : (l.map (·.Site)).Nodup) (hk : k < l.length) (z : api_Peer) : mget (l.map keyP) (ix (l.map (·.Site)) (k : Int)) z = ix l (k : Int) := by
  rw [ix_map (·.Site) hk]
  exact get_keyP hn (ix_mem (iX (by omega) (by omega)))
def markP (w : api_Write) (p : api_Peer) : api_Peer := ⟨p.Site, p.Common, markL p.Dirty [w]⟩
def writeT (t : api_Tracker) (w : api_Write) : api_Tracker × Int :=
  if trkE t ≠ 0 then (noTrk, trkE t) else if fitW t.Sizes w ≠ 0 then (noTrk, fitW t.Sizes w) else (⟨t.Sizes, t.Peers.map (markP w)⟩, 0)
abbrev EntD := (Int × api_Peer) × List api_Bitmap
def dE (p : api_Peer) : EntD := ((p.Site, ⟨p.Site, p.Common, []⟩), p.Dirty)
def closeD (p : EntD) : Int × api_Peer := (p.1.1, ⟨p.1.2.Site, p.1.2.Common, p.2⟩)
theorem close_dE (l : List api_Peer) : (l.map dE).map closeD = l.map keyP := by rw [List.map_map]; rfl
theorem keys_dE (l : List api_Peer) : (l.map dE).map (fun p => p.1) = l.map fun p => (p.Site, (⟨p.Site, p.Common, []⟩ : api_Peer)) := by rw [List.map_map]; rfl
def seenL (w : api_Write) (l : List api_Peer) (seen : List Nat) : List api_Peer := l.mapIdx fun i p => if i ∈ seen then markP w p else p
theorem seenL_len (w : api_Write) (l : List api_Peer) (seen : List Nat) : (seenL w l seen).length = l.length := List.length_mapIdx
theorem seenL_ix {w : api_Write} {l : List api_Peer} {seen : List Nat} {k : Nat} (hk : k < l.length) : ix (seenL w l seen) (k : Int) = if k ∈ seen then markP w (ix l (k : Int)) else ix l (k : Int) := by
  rw [ix_get (by rw [seenL_len]; exact hk), ix_get hk]
  unfold seenL
  rw [List.getElem_mapIdx]
theorem seenL_nil (w : api_Write) (l : List api_Peer) : seenL w l [] = l := by
  refine ext_ix (seenL_len _ _ _) fun k hk => ?_
  rw [seenL_len] at hk
  rw [seenL_ix hk, if_neg List.not_mem_nil]
theorem seenL_all {w : api_Write} {l : List api_Peer} {seen : List Nat} (h : ∀ i, i < l.length → i ∈ seen) : seenL w l seen = l.map (markP w) := by
  refine ext_ix (by rw [seenL_len, List.length_map]) fun k hk => ?_
  rw [seenL_len] at hk
  rw [seenL_ix hk, if_pos (h k hk), ix_map _ hk]
theorem seenL_set {w : api_Write} {l : List api_Peer} {seen : List Nat} {k : Nat} (hk : k < l.length) : (seenL w l seen).set k (markP w (ix l (k : Int))) = seenL w l (k :: seen) := by
  refine ext_ix (by rw [List.length_set, seenL_len, seenL_len]) fun j hj => ?_
  rw [List.length_set, seenL_len] at hj
  rw [← put_nat, ix_put2 _ _ (by rw [seenL_len]; exact hk), seenL_ix hj, seenL_ix hj]
  by_cases e : j = k
  · subst e; rw [if_pos rfl, if_pos List.mem_cons_self]
  · rw [if_neg e]
    by_cases h : j ∈ seen
    · rw [if_pos h, if_pos (List.mem_cons_of_mem _ h)]
    · rw [if_neg h, if_neg fun q => (List.mem_cons.1 q).elim e h]
theorem seenL_sites (w : api_Write) (l : List api_Peer) (seen : List Nat) : (seenL w l seen).map (·.Site) = l.map (·.Site) := by
  refine List.ext_getElem (by rw [List.length_map, List.length_map, seenL_len]) fun i h1 h2 => ?_
  rw [List.length_map, seenL_len] at h1
  rw [List.getElem_map, List.getElem_map]
  have := seenL_ix (w := w) (seen := seen) h1
  rw [ix_get (by rw [seenL_len]; exact h1), ix_get h1] at this
  rw [this]
  split <;> rfl
theorem entD_dE {l : List api_Peer} {k : Nat} (hk : k < l.length) : entD (l.map dE) k = dE (ix l (k : Int)) := by
  unfold entD
  rw [List.getD_eq_getElem?_getD, List.getElem?_eq_getElem (by rw [List.length_map]; exact hk), List.getElem_map, ix_get hk]; rfl
theorem seen_room : ∀ {n : Nat} {seen : List Nat}, seen.Nodup → (∀ i ∈ seen, i < n) → seen.length ≤ n := by
  intro n
  induction n with
  | zero => intro seen _ h; cases seen with
    | nil => exact Nat.le_refl _
    | cons a r => exact absurd (h a List.mem_cons_self) (Nat.not_lt_zero _)
  | succ n ih =>
    intro seen hn h
    have h1 : (seen.erase n).length ≤ n := ih (hn.erase n) fun i hi => by
      have := h i (List.mem_of_mem_erase hi)
      have : i ≠ n := fun e => (hn.mem_erase_iff.1 hi).1 e
      omega
    have := List.length_erase (a := n) (l := seen)
    split at this <;> omega
theorem tracker_Write_ok {t : api_Tracker} {w : api_Write} {Φ : api_Tracker × Int → Prop} (hd : ∀ p ∈ t.Peers, p.Dirty.length ≤ 100000) (hw : w.Data.length ≤ 1000000) (hΦ : Φ (writeT t w)) : Z83 t w Φ := by
  unfold writeT at hΦ
  refine tracker_Check_ok hd ⟨fun q => by rw [if_pos q] at hΦ; exact hΦ, fun q => ?_⟩
  rw [if_neg q] at hΦ
  have h := trk_ok (Classical.not_not.1 q)
  obtain ⟨h8, h4, hs⟩ := h.small
  have hn := asc_nodup h.sites
  refine image_New_ok (fun q1 => ⟨fun z => absurd rfl z, fun _ => ?_⟩) fun q1 => absurd h.hs q1
  have hz : szs (zeroI t.Sizes) = t.Sizes := szs_zeroI h.hs
  refine image_Fits_ok hw (by show sizesE (szs (zeroI t.Sizes)) = 0; rw [hz]; exact h.hs) ?_
  show (fitW (szs (zeroI t.Sizes)) w ≠ 0 → Φ (noTrk, fitW (szs (zeroI t.Sizes)) w)) ∧ _
  rw [hz]
  refine ⟨fun q2 => by rw [if_pos q2] at hΦ; exact hΦ, fun q2 => ?_⟩
  rw [if_neg q2] at hΦ
  have hf := Classical.not_not.1 q2
  obtain ⟨v, hv, hvl, _⟩ := fitW_vol hf
  refine LoopW.upT t.Peers.length (fun k => ((k : Int), (t.Peers.take k).map dE)) rfl (fun k rec hk hrec => ?_) fun rec => ⟨fun z => absurd (show (t.Peers.length : Int) < (t.Peers.length : Int) from z) (by omega), fun _ => ?_⟩
  · have hp := hs _ (ix_mem (xs := t.Peers) (i := (k : Int)) (iX (by omega) (by omega)))
    refine ⟨fun _ => ⟨iX (by omega) (by omega), tracker_ownAll_ok (by omega) (fun b hb => by have := hp.2 b hb; omega) ⟨?_, iI (by omega) (by omega), hrec _ (Prod.ext rfl (map_take_snoc dE hk).symm)⟩⟩, fun z => absurd (show (k : Int) < (t.Peers.length : Int) by omega) z⟩
    rw [Bool.eq_false_iff]
    intro hh
    have hh := mhas_iff.1 hh
    rw [keys_dE, List.map_map] at hh
    have h2 : ((t.Peers.take (k + 1)).map (·.Site)).Nodup := hn.sublist ((List.take_sublist _ _).map _)
    rw [map_take_snoc (·.Site) hk] at h2
    exact (List.nodup_append.1 h2).2.2 _ hh _ (List.mem_singleton.2 rfl) rfl
  · rw [take_all]
    refine LoopW.of_inv (fun s => ∃ seen : List Nat, s = ((t.Peers.length, seen), (seenL w t.Peers seen).map dE) ∧ seen.Nodup ∧ ∀ i ∈ seen, i < t.Peers.length) (fun s => t.Peers.length - s.1.2.length) ?_ ⟨[], by rw [seenL_nil, List.length_map], List.nodup_nil, fun i hi => absurd hi List.not_mem_nil⟩
    rintro _ rec ⟨seen, rfl, hsn, hsl⟩ hrec
    have hlen : ((seenL w t.Peers seen).map dE).length = t.Peers.length := by rw [List.length_map, seenL_len]
    have hsite := seenL_sites w t.Peers seen
    refine ⟨hlen, fun hall => ?_, fun i hi hni => ⟨hlen, hi, rfl, ?_⟩⟩
    · rw [hlen] at hall
      have hm := seenL_all (w := w) hall
      rw [hm] at hsite ⊢
      have e1 : (((t.Peers.map (markP w)).map dE).map fun p => (p.1.1, (api_Peer.mk p.1.2.Site p.1.2.Common p.2))) = (t.Peers.map (markP w)).map keyP := close_dE _
      have hks : ((t.Peers.map (markP w)).map (·.Site)).Pairwise fun a b => a < b := by rw [hsite]; exact h.sites
      refine slices_Clone_int_ok (by omega) ⟨fun _ _ => rfl, ?_, ?_, ?_, ?_⟩
      · rw [e1, keys_keyP, hsite]; exact hn
      · rw [e1]
        intro p hp
        obtain ⟨x, hx, rfl⟩ := List.mem_map.1 hp
        obtain ⟨y, hy, rfl⟩ := List.mem_map.1 hx
        obtain ⟨k, hk, rfl⟩ := List.getElem_of_mem hy
        have := h.site k hk
        rw [ix_get hk] at this
        exact iI (by show -9223372036854775808 ≤ (t.Peers[k]).Site; omega) (by show (t.Peers[k]).Site ≤ 9223372036854775807; omega)
      · rw [e1]; exact iL (by rw [List.length_map, List.length_map]; omega) (by omega)
      · have hl2 : ((t.Peers.map (markP w)).map (·.Site)).length = t.Peers.length := by rw [List.length_map, List.length_map]
        refine LoopW.upT t.Peers.length (fun k => ((k : Int), (t.Peers.take k).map (markP w))) rfl (fun k rec2 hk hrec2 => ?_) fun rec2 => ?_
        · unfold Z79
          simp only
          rw [e1, list_keyP hks, key_at (hsite ▸ hn) (by rw [List.length_map]; exact hk), ix_map _ hk]
          exact ⟨fun _ => ⟨iX (by omega) (by omega), iL (by rw [len_snoc, List.length_map, lenT (Nat.le_of_lt hk)]; omega) (by omega), iI (by omega) (by omega), hrec2 _ (Prod.ext rfl (map_take_snoc _ hk).symm)⟩, fun z => absurd (show (k : Int) < (((t.Peers.map (markP w)).map (·.Site)).length : Int) by omega) z⟩
        · unfold Z79
          simp only
          rw [e1, list_keyP hks, take_all]
          exact ⟨fun z => absurd z (by omega), fun _ => hΦ⟩
    · rw [hlen] at hi
      have hx := seenL_ix (w := w) (seen := seen) hi
      rw [if_neg hni] at hx
      have hb := h.bms i hi
      have hin : inX v (ix t.Peers (i : Int)).Dirty.length := iX (by omega) (by have := hb.len; omega)
      have hml := put_len (ix t.Peers (i : Int)).Dirty w.Volume (setBm (ix (ix t.Peers (i : Int)).Dirty w.Volume) ⟨w.Start, (w.Data.length : Int)⟩).1
      have hse := set_write hb hf
      rw [entD_dE (by rw [seenL_len]; exact hi), hx]
      refine LoopW.upI 1 (fun k => ((k : Int), if k = 0 then (ix t.Peers (i : Int)).Dirty else markL (ix t.Peers (i : Int)).Dirty [w])) (fun _ => True) rfl trivial (fun k rec2 hk _ hrec2 => ?_) fun rec2 _ => ⟨fun z => absurd (show ((1 : Nat) : Int) < 1 from z) (by omega), fun _ => ⟨fun z => absurd rfl z, fun _ => ?_⟩⟩
      · obtain rfl : k = 0 := by omega
        refine ⟨fun _ => ⟨iX (by omega) (by show ((0 : Nat) : Int) < ((1 : Nat) : Int); omega), by show inX w.Volume _; rw [hv]; exact hin, ((setBm (ix (ix t.Peers (i : Int)).Dirty w.Volume) ⟨w.Start, (w.Data.length : Int)⟩).1, (setBm (ix (ix t.Peers (i : Int)).Dirty w.Volume) ⟨w.Start, (w.Data.length : Int)⟩).2, ()), bitmap_Set_ok rfl, fun z => absurd hse z, fun _ => ⟨by show inX w.Volume _; rw [hv]; exact hin, iI (by omega) (by omega), hrec2 trivial _ rfl⟩⟩, fun z => absurd (show ((0 : Nat) : Int) < ((1 : Nat) : Int) by omega) z⟩
      · have eD : entD ((seenL w t.Peers seen).map dE) i = dE (ix t.Peers (i : Int)) := by rw [entD_dE (by rw [seenL_len]; exact hi), hx]
        refine ⟨by rw [hlen]; exact hi, rfl, fun j hj => ?_, hrec _ ⟨i :: seen, ?_, List.nodup_cons.2 ⟨hni, hsn⟩, fun a ha => (List.mem_cons.1 ha).elim (fun e => by rw [e]; exact hi) (hsl a)⟩ ?_⟩
        · rw [eD, entD_dE (by rw [seenL_len]; omega)]
          show (ix (seenL w t.Peers seen) (j : Int)).Site ≠ (ix t.Peers (i : Int)).Site
          rw [seenL_ix (by omega)]
          have := h.asc j i hj hi
          split
          · show (ix t.Peers (j : Int)).Site ≠ _; omega
          · omega
        · rw [eD]
          refine Prod.ext rfl ?_
          show ((seenL w t.Peers seen).map dE).set i (dE (markP w (ix t.Peers (i : Int)))) = _
          rw [← seenL_set hi, List.map_set]
        · have this : (i :: seen).length ≤ t.Peers.length := seen_room (List.nodup_cons.2 ⟨hni, hsn⟩) fun a ha => (List.mem_cons.1 ha).elim (fun e => by rw [e]; exact hi) (hsl a)
          rw [List.length_cons] at this
          show t.Peers.length - (seen.length + 1) < t.Peers.length - seen.length
          exact Nat.sub_lt_sub_left (by omega) (by omega)
theorem ref07_SizesOf_ok {im : List (List Sec)} {Φ : List Int → Prop} (hl : im.length ≤ 100000) (hΦ : Φ (szs im)) : Z2 im Φ := by
  refine LoopW.upT im.length (fun k => ((k : Int), (im.take k).map fun v => (v.length : Int))) rfl (fun k rec hk hr => ?_) fun rec => ⟨fun _ => by omega, fun _ => by rw [take_all]; exact hΦ⟩
  refine ⟨fun _ => ⟨iX (by omega) (by omega), iL (by rw [len_snoc, List.length_map, lenT (by omega)]; omega) (by omega), iI (by omega) (by omega), hr _ (by rw [map_take_snoc _ hk]; rfl)⟩, fun _ => by omega⟩
theorem ref07_Check_ok {im : List (List Sec)} {Φ : Int → Prop} (hl : im.length ≤ 100000) (hΦ : Φ (imgE im)) : ref07_Check_W im Φ := ref07_SizesOf_ok hl (ref07_Sizes_ok hΦ)
theorem ref07_New_ok {l : List Int} {Φ : List (List Sec) × Int → Prop} (q : sizesE l = 0) (hΦ : Φ (zeroI l, 0)) : ref07_New_W l Φ := by
  refine ref07_Sizes_ok ⟨fun r => absurd q r, fun _ => ?_⟩
  have hl := sizesE_len q
  refine LoopW.upT l.length (fun k => ((k : Int), (l.take k).map fun n => List.replicate n.toNat sec0)) rfl (fun k rec hk hr => ?_) fun rec => ⟨fun r => absurd r (by omega), fun _ => by rw [take_all]; exact hΦ⟩
  have := sizesE_ix q hk
  exact ⟨fun _ => ⟨iX (by omega) (by omega), by omega, iL (by omega) (by omega), iL (by rw [len_snoc, List.length_map, lenT (by omega)]; omega) (by omega), iI (by omega) (by omega), hr _ (by rw [map_take_snoc _ hk]; rfl)⟩, fun r => absurd (show (k : Int) < (l.length : Int) by omega) r⟩
theorem ref07_Fits_ok {im : List (List Sec)} {w : api_Write} {Φ : Int → Prop} (hs : imgE im = 0) (hd : w.Data.length ≤ 1000000) (hΦ : Φ (fitW (szs im) w)) : ref07_Fits_W im w Φ := by
  have hl := sizesE_len hs
  rw [szs_len] at hl
  exact ref07_Check_ok (by omega) ⟨fun q => absurd hs q, fun _ => ⟨_, ref07_SizesOf_ok (by omega) rfl, _, ref07_FitsSizes_ok hd (fun k hk => by
    have := sizesE_ix (l := szs im) hs hk
    show ix (szs im) (k : Int) ≤ 1000000; omega) rfl, hΦ⟩⟩
theorem ref02_SameAll_refl {d : List api_Bitmap} {Φ : Bool → Prop} (hl : d.length ≤ 1000000) (hw : ∀ b ∈ d, b.Words.length ≤ 1000000) (hΦ : Φ true) : Z97 d d Φ := by
  refine ⟨fun q => absurd rfl q, fun _ => LoopW.upT d.length (fun k => (k : Int)) rfl (fun k rec hk hr => ⟨fun _ => ⟨iX (by omega) (by omega), iX (by omega) (by omega), (true, ()), ⟨fun q => absurd rfl q, fun _ => ⟨fun q => absurd rfl q, fun _ => ?_⟩⟩, fun q => absurd rfl q, fun _ => ⟨iI (by omega) (by omega), hr _ rfl⟩⟩, fun q => absurd (show (k : Int) < (d.length : Int) by omega) q⟩) fun rec => ⟨fun q => absurd (show (d.length : Int) < (d.length : Int) from q) (by omega), fun _ => hΦ⟩⟩
  have hb := hw _ (ix_mem (xs := d) (i := (k : Int)) (iX (by omega) (by omega)))
  generalize ix d (k : Int) = b at hb
  exact LoopW.upT b.Words.length (fun k => (k : Int)) rfl (fun m rec2 hm hr2 => ⟨fun _ => ⟨iX (by omega) (by omega), iX (by omega) (by omega), fun q => absurd rfl q, fun _ => ⟨iI (by omega) (by omega), hr2 _ rfl⟩⟩, fun q => absurd (show (m : Int) < (b.Words.length : Int) by omega) q⟩) fun rec2 => ⟨fun q => absurd (show (b.Words.length : Int) < (b.Words.length : Int) from q) (by omega), fun _ => rfl⟩
theorem law47_small_ok {l : List api_Write} {Φ : Bool → Prop} (hF : Φ false) (hT : l.length ≤ 12 → (∀ w ∈ l, w.Data.length ≤ 20) → Φ true) (hl : l.length ≤ maxLen) : law47_small_W l Φ := by
  simp only [maxLen] at hl
  refine LoopW.up l.length (fun k => ∀ j : Nat, j < k → (ix l (j : Int)).Data.length ≤ 20) ?_ (k0 := 0) rfl (Nat.zero_le _) (fun j hj => absurd hj (Nat.not_lt_zero j))
  intro k rec hk hI hrec
  refine ⟨fun hlt => ⟨iX (by omega) hlt, fun _ => hF, fun q => ⟨iI (by omega) (by omega), hrec (by omega) fun j hj => ?_⟩⟩, fun hge => ?_⟩
  · rcases Nat.lt_or_ge j k with h | h
    · exact hI j h
    · have : j = k := by omega
      subst this; omega
  · by_cases h12 : (l.length : Int) ≤ 12
    · rw [decide_eq_true h12]
      refine hT (by omega) fun w hw => ?_
      obtain ⟨i, hi, rfl⟩ := List.getElem_of_mem hw
      have := hI i (by omega)
      rwa [ix_get hi] at this
    · rw [decide_eq_false h12]; exact hF
def fitL (im : List (List Sec)) (l : List api_Write) : List api_Write := (l.take 8).filter fun w => decide (fitW (szs im) w = 0)
theorem fitL_ok (im : List (List Sec)) (l : List api_Write) : (fitL im l).length ≤ 8 ∧ ∀ w ∈ fitL im l, fitW (szs im) w = 0 := by
  refine ⟨?_, fun w hw => of_decide_eq_true (List.mem_filter.1 hw).2⟩
  have h1 := List.length_filter_le (fun w => decide (fitW (szs im) w = 0)) (l.take 8)
  have h2 : (l.take 8).length ≤ 8 := by rw [List.length_take]; omega
  exact Nat.le_trans h1 h2
theorem law47_fitting_ok {im : List (List Sec)} {l : List api_Write} {Φ : List api_Write → Prop} (hs : imgE im = 0) (hd : ∀ w ∈ l, w.Data.length ≤ 20) (hΦ : Φ (fitL im l)) : Z62 im l Φ := by
  refine LoopW.upT (min l.length 8) (fun k => ((k : Int), (l.take k).filter fun w => decide (fitW (szs im) w = 0))) rfl (fun k rec hk hr => ?_) fun rec => ?_
  · have hle : ((l.take k).filter fun w => decide (fitW (szs im) w = 0)).length ≤ k := by
      have h1 := List.length_filter_le (fun w => decide (fitW (szs im) w = 0)) (l.take k)
      rw [List.length_take] at h1; omega
    have hw := hd _ (ix_mem (xs := l) (i := (k : Int)) (iX (by omega) (by omega)))
    refine ⟨fun _ => ⟨fun _ => ⟨iX (by omega) (by omega), ref07_Fits_ok hs (by omega) ⟨fun q => ⟨iX (by omega) (by omega), iL (by rw [len_snoc]; omega) (by omega), iI (by omega) (by omega), hr _ ?_⟩, fun q => ⟨iI (by omega) (by omega), hr _ ?_⟩⟩⟩, fun q => absurd (decide_eq_true (by omega)) q⟩, fun q => absurd (show (k : Int) < (l.length : Int) by omega) q⟩
    · rw [filter_take_snoc _ (by omega), if_pos (decide_eq_true q)]; rfl
    · rw [filter_take_snoc _ (by omega), if_neg (by simpa using q), List.append_nil]; rfl
  · have e : l.take (min l.length 8) = l.take 8 := by
      rcases Nat.lt_or_ge l.length 8 with h | h
      · rw [List.take_of_length_le (by omega), List.take_of_length_le (by omega)]
      · rw [show min l.length 8 = 8 by omega]
    refine ⟨fun q => ⟨fun z => absurd (of_decide_eq_true z) (by omega), fun _ => ?_⟩, fun q => ⟨fun z => absurd z (by simp), fun _ => ?_⟩⟩
    · show Φ ((l.take (min l.length 8)).filter _); rw [e]; exact hΦ
    · show Φ ((l.take (min l.length 8)).filter _); rw [e]; exact hΦ
def szM (x : BitVec 8) : List Int := [1 + ((x.toNat : Int) % 12), 4]
theorem szM_ok (x : BitVec 8) : sizesE (szM x) = 0 := by
  unfold sizesE
  rw [if_neg (by show ¬ ((2 : Int) < 1 ∨ 8 < 2); omega)]
  refine firstN_zero.2 fun k hk => if_neg ?_
  have hk2 : k < 2 := hk
  rcases (show k = 0 ∨ k = 1 by omega) with rfl | rfl
  · show ¬ (1 + ((x.toNat : Int) % 12) < 1 ∨ 4096 < 1 + ((x.toNat : Int) % 12)); omega
  · show ¬ ((4 : Int) < 1 ∨ (4096 : Int) < 4); omega
def imM (x : BitVec 8) : List (List Sec) := zeroI (szM x)
theorem imM_szs (x : BitVec 8) : szs (imM x) = szM x := szs_zeroI (szM_ok x)
theorem imM_ok (x : BitVec 8) : imgE (imM x) = 0 := by unfold imgE; rw [imM_szs]; exact szM_ok x
theorem law47_image_ok {x : BitVec 8} {Φ : List (List Sec) → Prop} (hΦ : Φ (imM x)) : law47_image_W x Φ :=
  ⟨by omega, iI (by omega) (by omega), ref07_New_ok (szM_ok x) hΦ⟩
def oneX : List api_Extent := [⟨0, 1⟩]
theorem bitmap_FromExtents_one {n : Int} {Φ : api_Bitmap × Int → Prop} (h0 : 1 ≤ n) (h1 : n ≤ 4096) (hΦ : Φ ((setBm (newB n) ⟨0, 1⟩).1, 0)) : Z85 n oneX Φ := by
  have hs := (setBm_ok (b := newB n) (e := ⟨0, 1⟩) (newB_ok (by omega) h1).1 (fitsB_iff.2 ⟨by show (0 : Int) ≤ 0; omega, by show (0 : Int) ≤ 1; omega, by show (0 : Int) ≤ n; omega, by show (1 : Int) ≤ n - 0; omega⟩)).1
  refine bitmap_New_ok (by omega) h1 ⟨fun q => absurd rfl q, fun _ => ?_⟩
  refine LoopW.upT 1 (fun k => if k = 0 then ((0 : Int), (newB n).Size, (newB n).Words) else (1, (setBm (newB n) ⟨0, 1⟩).1.Size, (setBm (newB n) ⟨0, 1⟩).1.Words)) rfl (fun k rec hk hr => ?_) fun rec => ⟨fun q => absurd (show (1 : Int) < 1 from q) (by omega), fun _ => hΦ⟩
  obtain rfl : k = 0 := by omega
  exact ⟨fun _ => ⟨iX (by omega) (by show (0 : Int) < 1; omega), bitmap_Set_ok ⟨fun q => absurd hs q, fun _ => ⟨iI (by omega) (by omega), hr _ rfl⟩⟩⟩, fun q => absurd (show (0 : Int) < 1 by omega) q⟩
theorem orB_ok {a b : api_Bitmap} (ha : chkB a = 0) (hb : chkB b = 0) (hs : a.Size = b.Size) : (orB a b).2 = 0 ∧ chkB (orB a b).1 = 0 ∧ (orB a b).1.Size = a.Size ∧ ∀ i : Nat, (i : Int) < a.Size → (bitN (orB a b).1.Words i = true ↔ bitN a.Words i = true ∨ bitN b.Words i = true) := by
  have wa := chkB_len (b := a) (by simpa using ha)
  have wb := chkB_len (b := b) (by simpa using hb)
  unfold chkB at ha hb
  unfold orB
  rw [bothR_ok (bothE_4 (by simpa using ha) (by simpa using hb) (by omega))]
  rw [← hs] at hb
  refine ⟨rfl, chk_zip (· || ·) rfl (fun _ _ _ _ => BitVec.getLsbD_or) ha hb, rfl, fun i hi => ?_⟩
  show bitN (List.zipWith (fun x y => x ||| y) a.Words b.Words) i = true ↔ _
  rw [bit_or (by omega) (by omega), Bool.or_eq_true]
theorem cloneZ_ok {l : List Int} {Φ : List Int → Prop} (hl : l.length ≤ 1000000) (hΦ : Φ l) : Z43 l Φ :=
  ⟨fun h => by rw [h] at hΦ; exact hΦ, iL (by rw [List.nil_append]; exact hl) (by omega), hΦ⟩
def turnB (sizes : List Int) (D : List api_Bitmap) (v : Nat) : api_Bitmap := (orB (setBm (newB (ix sizes (v : Int))) ⟨0, 1⟩).1 (ix D (v : Int))).1
def turnD (sizes : List Int) (D : List api_Bitmap) : List api_Bitmap := (List.range sizes.length).map (turnB sizes D)
theorem turnB_ok {sizes : List Int} {D : List api_Bitmap} {P : Nat → Nat → Prop} (hs : sizesE sizes = 0) (h : Marked sizes D P) {v : Nat} (hv : v < sizes.length) :
    (orB (setBm (newB (ix sizes (v : Int))) ⟨0, 1⟩).1 (ix D (v : Int))).2 = 0 ∧ chkB (turnB sizes D v) = 0 ∧ (turnB sizes D v).Size = ix sizes (v : Int) ∧ ∀ i : Nat, (i : Int) < ix sizes (v : Int) → (bitN (turnB sizes D v).Words i = true ↔ P v i ∨ i = 0) := by
  have hz := sizesE_ix hs hv
  have nb := newB_ok (n := ix sizes (v : Int)) (by omega) (by omega)
  obtain ⟨_, s2, s3, s4⟩ := setBm_ok (b := newB (ix sizes (v : Int))) (e := ⟨0, 1⟩) nb.1 (fitsB_iff.2 ⟨by show (0 : Int) ≤ 0; omega, by show (0 : Int) ≤ 1; omega, by show (0 : Int) ≤ ix sizes (v : Int); omega, by show (1 : Int) ≤ ix sizes (v : Int) - 0; omega⟩)
  have s3 : (setBm (newB (ix sizes (v : Int))) ⟨0, 1⟩).1.Size = ix sizes (v : Int) := s3
  have hc := h.chk v hv
  obtain ⟨o1, o2, o3, o4⟩ := orB_ok s2 hc.1 (s3.trans hc.2.symm)
  refine ⟨o1, o2, o3.trans s3, fun i hi => ?_⟩
  show bitN (orB _ _).1.Words i = true ↔ _
  rw [o4 i (by rw [s3]; exact hi), h.bit v i hv hi, s4 i (show (i : Int) < ix sizes (v : Int) from hi), nb.2 i]
  constructor
  · rintro ((q | q) | q)
    · cases q
    · exact .inr (by have q1 := q.1; have q2 : (i : Int) < 0 + 1 := q.2; omega)
    · exact .inl q
  · rintro (q | rfl)
    · exact .inr q
    · exact .inl (.inr ⟨by show (0 : Int) ≤ 0; omega, by show (0 : Int) < 0 + 1; omega⟩)
theorem ix_turnD {sizes : List Int} {D : List api_Bitmap} {v : Nat} (hv : v < sizes.length) : ix (turnD sizes D) (v : Int) = turnB sizes D v := by
  unfold turnD
  rw [ix_get (by simpa using hv), List.getElem_map, List.getElem_range]
theorem turnD_marked {sizes : List Int} {D : List api_Bitmap} {P : Nat → Nat → Prop} (hs : sizesE sizes = 0) (h : Marked sizes D P) : Marked sizes (turnD sizes D) fun v i => P v i ∨ i = 0 := by
  refine ⟨⟨by unfold turnD; simp, fun v hv => ?_⟩, fun v i hv hi => ?_⟩
  · rw [ix_turnD hv]; exact ⟨(turnB_ok hs h hv).2.1, (turnB_ok hs h hv).2.2.1⟩
  · rw [ix_turnD hv]; exact (turnB_ok hs h hv).2.2.2 i hi
theorem reverse_Turn_ok {sizes : List Int} {p0 p1 : api_Peer} {xs : List (List api_Extent)} {P : Nat → Nat → Prop} {Φ : api_Tracker × Int → Prop} (h : TrkOk ⟨sizes, [p0, p1]⟩) (h1 : p0.Site = 1) (h3 : p1.Site = 3) (hm : Marked sizes p1.Dirty P) (hx : xs.length = sizes.length) (hxe : ∀ v : Nat, v < sizes.length → ix xs (v : Int) = oneX)
    (hΦ : Φ (⟨sizes, [p0, ⟨3, 4, turnD sizes p1.Dirty⟩]⟩, 0)) : Z93 ⟨sizes, [p0, p1]⟩ 3 4 xs Φ := by
  have hs : sizesE sizes = 0 := h.hs
  have h8 := sizesE_len hs
  have hd0 := h.bms 0 (show 0 < 2 by omega)
  have hd0 : BmsOk sizes p0.Dirty := hd0
  have hd1 := hm.len
  refine tracker_Check_ok0 ?_
  show LoopW (Z92 ⟨sizes, [p0, p1]⟩ 3 4 xs (trkE ⟨sizes, [p0, p1]⟩) Φ) 0
  rw [trk_of h]
  refine LoopW.upT 1 (fun k => (k : Int)) rfl (fun k rec hk hr => ?_) fun rec => ?_
  · obtain rfl : k = 0 := by omega
    exact ⟨fun _ => ⟨iX (by omega) (by show (0 : Int) < 2; omega), fun q => absurd (h1.symm.trans q) (by omega), fun _ => ⟨iI (by omega) (by omega), hr _ rfl⟩⟩, fun q => absurd (show (0 : Int) < 2 by omega) q⟩
  refine ⟨fun _ => ⟨iX (by omega) (by show (1 : Int) < 2; omega), fun _ => ?_, fun q => absurd h3 q⟩, fun q => absurd (show (1 : Int) < 2 by omega) q⟩
  unfold Z91
  refine cloneZ_ok (l := sizes) (by omega) ?_
  refine ⟨fun q => absurd rfl q, fun _ => ⟨fun q => absurd (show (1 : Int) < 0 from q) (by omega), fun _ => ⟨fun q => absurd q (by omega), fun _ => ⟨fun q => absurd q (by decide), fun _ => ⟨fun q => absurd (show (xs.length : Int) = (sizes.length : Int) by omega) q, fun _ => ?_⟩⟩⟩⟩⟩
  refine LoopW.upT sizes.length (fun v => ((v : Int), (List.range v).map (turnB sizes p1.Dirty))) rfl (fun v rec hv hr => ?_) fun rec => ⟨fun q => absurd (show (sizes.length : Int) < (sizes.length : Int) from q) (by omega), fun _ => ?_⟩
  · have hz := sizesE_ix hs hv
    have hb := turnB_ok hs hm hv
    refine ⟨fun _ => ⟨iX (by omega) (by show (v : Int) < (sizes.length : Int); omega), iX (by omega) (by omega), ?_⟩, fun q => absurd (show (v : Int) < (sizes.length : Int) by omega) q⟩
    rw [hxe v hv]
    refine bitmap_FromExtents_one (by show 1 ≤ ix sizes (v : Int); omega) (by show ix sizes (v : Int) ≤ 4096; omega) ⟨fun _ => ⟨iX (by omega) (by show (1 : Int) < 2; omega), iX (by omega) (by show (v : Int) < (p1.Dirty.length : Int); omega), (_, _, ()), bitmap_Or_ok rfl, fun q => absurd hb.1 q, fun _ => ⟨iL (by rw [len_snoc, List.length_map, List.length_range]; omega) (by omega), iI (by omega) (by omega), hr _ ?_⟩⟩, fun q => absurd rfl q⟩
    rw [List.range_succ, List.map_append]; rfl
  · refine LoopW.upT 2 (fun k => ((k : Int), ([p0, ⟨3, 4, turnD sizes p1.Dirty⟩] : List api_Peer).take k)) rfl (fun k rec hk hr => ?_) fun rec => ⟨fun q => absurd (show (2 : Int) < 2 from q) (by omega), fun _ => hΦ⟩
    rcases (show k = 0 ∨ k = 1 by omega) with rfl | rfl
    · refine ⟨fun _ => ⟨iX (by omega) (by show (0 : Int) < 2; omega), fun q => absurd (show (0 : Int) = 1 from q) (by omega), fun _ => ?_⟩, fun q => absurd (show (0 : Int) < 2 by omega) q⟩
      have hl := hd0.len
      refine LoopW.upT p0.Dirty.length (fun j => ((j : Int), p0.Dirty.take j)) rfl (fun j rec2 hj hr2 => ?_) fun rec2 => ⟨fun q => absurd (show (p0.Dirty.length : Int) < (p0.Dirty.length : Int) from q) (by omega), fun _ => ⟨iL (by show 1 ≤ 1000000; omega) (by omega), iI (by omega) (by omega), hr _ (by rw [take_all]; rfl)⟩⟩
      have hw := (hd0.words _ (ix_mem (xs := p0.Dirty) (i := (j : Int)) (iX (by omega) (by omega)))).2
      exact ⟨fun _ => ⟨iX (by omega) (by show (j : Int) < (p0.Dirty.length : Int); omega), (_, ()), clone_word_ok (by show (ix p0.Dirty (j : Int)).Words.length ≤ _; omega) rfl, iL (by rw [len_snoc, lenT (by omega)]; omega) (by omega), iI (by omega) (by omega), hr2 _ (by rw [take_ix hj]; rfl)⟩, fun q => absurd (show (j : Int) < (p0.Dirty.length : Int) by omega) q⟩
    · exact ⟨fun _ => ⟨iX (by omega) (by show (1 : Int) < 2; omega), fun _ => ⟨iL (by show 2 ≤ 1000000; omega) (by omega), iI (by omega) (by omega), hr _ rfl⟩, fun q => absurd rfl q⟩, fun q => absurd (show (1 : Int) < 2 by omega) q⟩
def orK {S R : Type} (a : S → Prop) (b : R → Prop) : S ⊕ R → Prop
 | .inl s => a s
 | .inr r => b r
def loopS {S R : Type} (step : S → Option (S ⊕ R)) : Nat → S → Option R
 | 0, _ => none
 | n + 1, s => match step s with
  | none => none
  | some (.inl s') => loopS step n s'
  | some (.inr r) => some r
theorem LoopW.of_S {S R : Type} {step : S → (S → Prop) → Prop} {stepS : S → Option (S ⊕ R)} {K : R → Prop} (hs : ∀ s q rec, stepS s = some q → orK rec K q → step s rec) : ∀ (n : Nat) (s : S) {o : R}, loopS stepS n s = some o → K o → LoopW step s := by
  intro n s o h hK
  refine ⟨n, ?_⟩
  induction n generalizing s with
  | zero => cases h
  | succ n ih =>
    unfold loopS at h
    split at h
    · cases h
    · rename_i s' e
      exact hs s _ _ e (ih s' h)
    · rename_i r e
      cases h
      exact hs s _ _ e hK
theorem ofBind {α β : Type} {x : Option α} {f : α → Option β} {o : β} (h : Option.bind x f = some o) : ∃ v, x = some v ∧ f v = some o := Option.bind_eq_some_iff.1 h
theorem ofIf {α : Type} {p : Prop} [Decidable p] {x : Option α} {o : α} (h : (if p then x else none) = some o) : p ∧ x = some o := by
  by_cases hp : p
  · rw [if_pos hp] at h; exact ⟨hp, h⟩
  · rw [if_neg hp] at h; cases h
theorem ofT {α : Type} {p : Prop} [Decidable p] {x y : Option α} {o : α} (hp : p) (h : (if p then x else y) = some o) : x = some o := by rw [if_pos hp] at h; exact h
theorem ofF {α : Type} {p : Prop} [Decidable p] {x y : Option α} {o : α} (hp : ¬ p) (h : (if p then x else y) = some o) : y = some o := by rw [if_neg hp] at h; exact h
def bothS {α : Type} [DecidableEq α] (b : Bool) (x y : Option α) : Option α := if b = true then (if x = y then x else none) else y
theorem ofBoth {α : Type} [DecidableEq α] {b : Bool} {x y : Option α} {o : α} (h : bothS b x y = some o) : (b = true → x = some o) ∧ y = some o := by
  unfold bothS at h
  by_cases hb : b = true
  · rw [if_pos hb] at h
    by_cases he : x = y
    · rw [if_pos he] at h; exact ⟨fun _ => h, he ▸ h⟩
    · rw [if_neg he] at h; cases h
  · rw [if_neg hb] at h; exact ⟨fun q => absurd q hb, h⟩
theorem lfS {α : Type} {K : α → Prop} {a o : α} (h : some a = some o) (hK : K o) : K a := by
  cases h; exact hK
theorem adS {α : Type} {p : Prop} [Decidable p] {x : Option α} {o : α} {B : Prop} (h : (if p then x else none) = some o) (b : x = some o → B) : p ∧ B := ⟨(ofIf h).1, b (ofIf h).2⟩
theorem ifS {α : Type} {p : Prop} [Decidable p] {x y : Option α} {o : α} {A B : Prop} (h : (if p then x else y) = some o) (a : x = some o → A) (b : y = some o → B) : (p → A) ∧ (¬ p → B) := ⟨fun c => a (ofT c h), fun c => b (ofF c h)⟩
theorem mpS {α β : Type} {g : α → β} {x : Option α} {o : β} {G : Prop} (h : Option.map g x = some o) (k : ∀ v, x = some v → g v = o → G) : G := by
  obtain ⟨v, h1, h2⟩ := Option.map_eq_some_iff.1 h
  exact k v h1 h2
theorem blS {α β : Type} {x : Option α} {f : α → Option β} {o : β} {G : Prop} (h : Option.bind x f = some o) (k : ∀ v, x = some v → f v = some o → G) : G := by
  obtain ⟨v, h1, h2⟩ := ofBind h
  exact k v h1 h2
instance decI (x : Int) : Decidable (inI x) := inferInstanceAs (Decidable (_ ∧ _))
instance decX (i : Int) (n : Nat) : Decidable (inX i n) := inferInstanceAs (Decidable (_ ∧ _))
instance decS (a b : Int) (n : Nat) : Decidable (inS a b n) := inferInstanceAs (Decidable (_ ∧ _))
instance decL (n b : Nat) : Decidable (lenOk n b) := inferInstanceAs (Decidable (_ ∧ _))
theorem nl2S {α : Type} [DecidableEq α] {p : Prop} [Decidable p] {x y : Option α} {o : α} {A B : Prop} (h : bothS (decide p) x y = some o) (a : x = some o → A) (b : y = some o → B) : (p → A) ∧ B := ⟨fun c => a ((ofBoth h).1 (decide_eq_true c)), b (ofBoth h).2⟩
def genS {S Y R : Type} (step : S → Option (List Y × (S ⊕ R))) : Nat → S → Option (List Y × R)
 | 0, _ => none
 | n + 1, s => match step s with
  | none => none
  | some (ys, .inr o) => some (ys, o)
  | some (ys, .inl s') => (genS step n s').map fun q => (ys ++ q.1, q.2)
theorem LoopW.of_G {S Y R : Type} {step : (List Y × S) → ((List Y × S) → Prop) → Prop} {stepS : S → Option (List Y × (S ⊕ R))} {K : List Y → R → Prop} (hs : ∀ s ys q r rec, stepS s = some (ys, q) → orK (fun s => rec (r, s)) (K r) q → step (ys ++ r, s) rec) : ∀ (n : Nat) (s : S) {ys : List Y} {o : R} (r : List Y), genS stepS n s = some (ys, o) → K r o → LoopW step (ys ++ r, s) := by
  intro n s ys o r h hK
  refine ⟨n, ?_⟩
  induction n generalizing s ys with
  | zero => cases h
  | succ n ih =>
    unfold genS at h
    split at h
    · cases h
    · rename_i ys o e
      cases h
      exact hs s _ _ _ (LoopN step n) e hK
    · rename_i ys s' e
      obtain ⟨v, h1, h2⟩ := Option.map_eq_some_iff.1 h
      cases h2
      rw [List.append_assoc]
      exact hs s _ _ _ (LoopN step n) e (show LoopN step n (v.1 ++ r, s') from ih s' h1)
def law47_one_S (x0 : Int) (x1 : BitVec 8) : Option (api_Write) :=
 some ((api_Write.mk 0 x0 ([(Sec.mk x1 (0#8) (0#8) (0#8) (0#8) (0#8) (0#8) (0#8))] : List Sec)))
theorem law47_one_sound (x0 : Int) (x1 : BitVec 8) {Φ : api_Write → Prop} {o} (h : law47_one_S x0 x1 = some o) (hK : Φ o) : law47_one_W x0 x1 Φ := by
  unfold law47_one_S at h
  unfold law47_one_W
  exact have t := lfS h hK; t
def Z107 (x0 : List (List Sec)) : (Int × List Int) → Option ((Int × List Int) ⊕ (List Int))
 | (v1, v2) =>
  if v1 < (x0.length : Int) then
   if inX v1 x0.length then
   if lenOk (v2 ++ ([((ix x0 v1).length : Int)] : List Int)).length 8 then
   if inI (v1 + 1) then
   some (.inl ((v1 + 1), (v2 ++ ([((ix x0 v1).length : Int)] : List Int))))
   else none
   else none
   else none
  else
   some (.inr v2)
theorem ref07_SizesOf_L1_sound (x0 : List (List Sec)) (s : Int × List Int) {Φ : List Int → Prop} {rec1 : (Int × List Int) → Prop} {o} (h : Z107 x0 s = some o) (hK : (orK rec1 Φ) o) : Z1 x0 Φ s rec1 := by
  obtain ⟨v1, v2⟩ := s
  unfold Z107 at h
  unfold Z1
  exact ifS h (fun h => adS h fun h => adS h fun h => adS h fun h => have t := lfS h hK; t) fun h => have t := lfS h hK; t
def Z108 (x0 : List (List Sec)) : Option (List Int) :=
 loopS (Z107 x0) 100000 (0, ([] : List Int))
theorem ref07_SizesOf_sound (x0 : List (List Sec)) {Φ : List Int → Prop} {o} (h : Z108 x0 = some o) (hK : Φ o) : Z2 x0 Φ := by
  unfold Z108 at h
  unfold Z2
  exact LoopW.of_S (fun s q rec hs hq => ref07_SizesOf_L1_sound _ s hs hq) _ _ h hK
def Z109 (x0 : List Int) : (Int) → Option ((Int) ⊕ (Int))
 | v1 =>
  if v1 < (x0.length : Int) then
   if inX v1 x0.length then
   if (ix x0 v1) < 1 then
    some (.inr 2)
   else
    if inX v1 x0.length then
    if 4096 < (ix x0 v1) then
     some (.inr 2)
    else
     if inI (v1 + 1) then
     some (.inl (v1 + 1))
     else none
    else none
   else none
  else
   some (.inr 0)
theorem ref07_Sizes_L1_sound (x0 : List Int) (s : Int) {Φ : Int → Prop} {rec1 : (Int) → Prop} {o} (h : Z109 x0 s = some o) (hK : (orK rec1 Φ) o) : Z3 x0 Φ s rec1 := by
  unfold Z109 at h
  unfold Z3
  exact ifS h (fun h => adS h fun h => ifS h (fun h => have t := lfS h hK; t) fun h => adS h fun h => ifS h (fun h => have t := lfS h hK; t) fun h => adS h fun h => have t := lfS h hK; t) fun h => have t := lfS h hK; t
def ref07_Sizes_S (x0 : List Int) : Option (Int) :=
 if (x0.length : Int) < 1 then
  some (6)
 else
  if 8 < (x0.length : Int) then
   some (6)
  else
   loopS (Z109 x0) 100000 0
theorem ref07_Sizes_sound (x0 : List Int) {Φ : Int → Prop} {o} (h : ref07_Sizes_S x0 = some o) (hK : Φ o) : ref07_Sizes_W x0 Φ := by
  unfold ref07_Sizes_S at h
  unfold ref07_Sizes_W
  exact ifS h (fun h => have t := lfS h hK; t) fun h => ifS h (fun h => have t := lfS h hK; t) fun h => LoopW.of_S (fun s q rec hs hq => ref07_Sizes_L1_sound _ s hs hq) _ _ h hK
def ref07_Check_S (x0 : List (List Sec)) : Option (Int) :=
 Option.bind (Z108 x0) fun v1 =>
 Option.bind (ref07_Sizes_S v1) fun v2 =>
 some (v2)
theorem ref07_Check_sound (x0 : List (List Sec)) {Φ : Int → Prop} {o} (h : ref07_Check_S x0 = some o) (hK : Φ o) : ref07_Check_W x0 Φ := by
  unfold ref07_Check_S at h
  unfold ref07_Check_W
  exact blS h fun _ hv h => ref07_SizesOf_sound _ hv (blS h fun _ hv h => ref07_Sizes_sound _ hv (have t := lfS h hK; t))
def Z110 (x0 : List Int) (x1 : api_Write) : Option (Int) :=
 if x1.Volume < 0 then
  some (7)
 else
  if (x0.length : Int) ≤ x1.Volume then
   some (7)
  else
   if (x1.Data.length : Int) = 0 then
    some (1)
   else
    if x1.Start < 0 then
     some (2)
    else
     if inX x1.Volume x0.length then
     if (ix x0 x1.Volume) ≤ x1.Start then
      some (2)
     else
      if inX x1.Volume x0.length then
      if inI ((ix x0 x1.Volume) - x1.Start) then
      if ((ix x0 x1.Volume) - x1.Start) < (x1.Data.length : Int) then
       some (2)
      else
       some (0)
      else none
      else none
     else none
theorem ref07_FitsSizes_sound (x0 : List Int) (x1 : api_Write) {Φ : Int → Prop} {o} (h : Z110 x0 x1 = some o) (hK : Φ o) : Z4 x0 x1 Φ := by
  unfold Z110 at h
  unfold Z4
  exact ifS h (fun h => have t := lfS h hK; t) fun h => ifS h (fun h => have t := lfS h hK; t) fun h => ifS h (fun h => have t := lfS h hK; t) fun h => ifS h (fun h => have t := lfS h hK; t) fun h => adS h fun h => ifS h (fun h => have t := lfS h hK; t) fun h => adS h fun h => adS h fun h => ifS h (fun h => have t := lfS h hK; t) fun h => have t := lfS h hK; t
def ref07_Fits_S (x0 : List (List Sec)) (x1 : api_Write) : Option (Int) :=
 Option.bind (ref07_Check_S x0) fun v1 =>
 if v1 ≠ 0 then
  some (v1)
 else
  Option.bind (Z108 x0) fun z =>
  let v2 : List Int × Unit := (z, ())
  Option.bind (Z110 v2.1 x1) fun z =>
  let v3 : Int × Unit := (z, ())
  some (v3.1)
theorem ref07_Fits_sound (x0 : List (List Sec)) (x1 : api_Write) {Φ : Int → Prop} {o} (h : ref07_Fits_S x0 x1 = some o) (hK : Φ o) : ref07_Fits_W x0 x1 Φ := by
  unfold ref07_Fits_S at h
  unfold ref07_Fits_W
  exact blS h fun _ hv h => ref07_Check_sound _ hv (ifS h (fun h => have t := lfS h hK; t) fun h => blS h fun _ hv h => ⟨_, ref07_SizesOf_sound _ hv rfl, blS h fun _ hv h => ⟨_, ref07_FitsSizes_sound _ _ hv rfl, have t := lfS h hK; t⟩⟩)
def Z111 (x0 : List (List Sec)) : (List (List Sec) × Int) → Option ((List (List Sec) × Int) ⊕ (List (List Sec)))
 | (v4, v12) =>
  if v12 < (x0.length : Int) then
   if inX v12 x0.length then
   if lenOk (([] : List Sec) ++ (ix x0 v12)).length 8 then
   if lenOk (v4 ++ [(([] : List Sec) ++ (ix x0 v12))]).length 24 then
   if inI (v12 + 1) then
   some (.inl ((v4 ++ [(([] : List Sec) ++ (ix x0 v12))]), v12 + 1))
   else none
   else none
   else none
   else none
  else
   some (.inr v4)
theorem ref07_CopyE_L1_sound (x0 : List (List Sec)) (s : List (List Sec) × Int) {Φ : List (List Sec) → Prop} {rec1 : (List (List Sec) × Int) → Prop} {o} (h : Z111 x0 s = some o) (hK : (orK rec1 Φ) o) : Z5 x0 Φ s rec1 := by
  obtain ⟨v4, v12⟩ := s
  unfold Z111 at h
  unfold Z5
  exact ifS h (fun h => adS h fun h => adS h fun h => adS h fun h => adS h fun h => have t := lfS h hK; t) fun h => have t := lfS h hK; t
def ref07_CopyE_S (x0 : List (List Sec)) : Option (List (List Sec)) :=
 loopS (Z111 x0) 100000 (([] : List (List Sec)), 0)
theorem ref07_CopyE_sound (x0 : List (List Sec)) {Φ : List (List Sec) → Prop} {o} (h : ref07_CopyE_S x0 = some o) (hK : Φ o) : ref07_CopyE_W x0 Φ := by
  unfold ref07_CopyE_S at h
  unfold ref07_CopyE_W
  exact LoopW.of_S (fun s q rec hs hq => ref07_CopyE_L1_sound _ s hs hq) _ _ h hK
def Z112 (x1 : List api_Write) (v24 : Int) : (List (List Sec) × Int) → Option ((List (List Sec) × Int) ⊕ ((List (List Sec) × Int) ⊕ (List (List Sec) × Int × Int)))
 | (v37, v45) =>
  if v45 < (((ix x1 v24).Data).length : Int) then
   if inX ((ix x1 v24).Volume) v37.length then
   if inI (((ix x1 v24).Start) + v45) then
   if inX v45 ((ix x1 v24).Data).length then
   if inX (((ix x1 v24).Start) + v45) (ix v37 ((ix x1 v24).Volume)).length then
   if inI (v45 + 1) then
   some (.inl ((put v37 ((ix x1 v24).Volume) (put (ix v37 ((ix x1 v24).Volume)) (((ix x1 v24).Start) + v45) (ix ((ix x1 v24).Data) v45))), v45 + 1))
   else none
   else none
   else none
   else none
   else none
  else
   if inI (v24 + 1) then
   some (.inr (.inl (v37, v24 + 1)))
   else none
theorem ref07_Apply_L2_sound (x1 : List api_Write) (v24 : Int) (s : List (List Sec) × Int) {Φ : List (List Sec) × Int × Int → Prop} {rec1 : (List (List Sec) × Int) → Prop} {rec2 : (List (List Sec) × Int) → Prop} {o} (h : Z112 x1 v24 s = some o) (hK : (orK rec2 (orK rec1 Φ)) o) : Z6 x1 v24 rec1 Φ s rec2 := by
  obtain ⟨v37, v45⟩ := s
  unfold Z112 at h
  unfold Z6
  exact ifS h (fun h => adS h fun h => adS h fun h => adS h fun h => adS h fun h => adS h fun h => have t := lfS h hK; t) fun h => adS h fun h => have t := lfS h hK; t
def Z113 (x0 : List (List Sec)) (x1 : List api_Write) : (List (List Sec) × Int) → Option ((List (List Sec) × Int) ⊕ (List (List Sec) × Int × Int))
 | (v16, v24) =>
  if v24 < (x1.length : Int) then
   if inX v24 x1.length then
   Option.bind (ref07_Fits_S x0 (ix x1 v24)) fun v31 =>
   if v31 ≠ 0 then
    some (.inr (([] : List (List Sec)), v24, v31))
   else
    loopS (Z112 x1 v24) 100000 (v16, 0)
   else none
  else
   some (.inr (v16, 0, 0))
theorem ref07_Apply_L1_sound (x0 : List (List Sec)) (x1 : List api_Write) (s : List (List Sec) × Int) {Φ : List (List Sec) × Int × Int → Prop} {rec1 : (List (List Sec) × Int) → Prop} {o} (h : Z113 x0 x1 s = some o) (hK : (orK rec1 Φ) o) : Z7 x0 x1 Φ s rec1 := by
  obtain ⟨v16, v24⟩ := s
  unfold Z113 at h
  unfold Z7
  exact ifS h (fun h => adS h fun h => blS h fun _ hv h => ref07_Fits_sound _ _ hv (ifS h (fun h => have t := lfS h hK; t) fun h => LoopW.of_S (fun s q rec hs hq => ref07_Apply_L2_sound _ _ s hs hq) _ _ h hK)) fun h => have t := lfS h hK; t
def ref07_Apply_S (x0 : List (List Sec)) (x1 : List api_Write) : Option (List (List Sec) × Int × Int) :=
 Option.bind (ref07_Check_S x0) fun v3 =>
 if v3 ≠ 0 then
  some ((([] : List (List Sec)), 0, v3))
 else
  Option.bind (ref07_CopyE_S x0) fun v7 =>
  loopS (Z113 x0 x1) 100000 (v7, 0)
theorem ref07_Apply_sound (x0 : List (List Sec)) (x1 : List api_Write) {Φ : List (List Sec) × Int × Int → Prop} {o} (h : ref07_Apply_S x0 x1 = some o) (hK : Φ o) : ref07_Apply_W x0 x1 Φ := by
  unfold ref07_Apply_S at h
  unfold ref07_Apply_W
  exact blS h fun _ hv h => ref07_Check_sound _ hv (ifS h (fun h => have t := lfS h hK; t) fun h => blS h fun _ hv h => ref07_CopyE_sound _ hv (LoopW.of_S (fun s q rec hs hq => ref07_Apply_L1_sound _ _ s hs hq) _ _ h hK))
def Z114 (x0 : Int) : (Bool) → Option (api_Bitmap × Int)
 | v1 =>
  if v1 = true then
   some (((api_Bitmap.mk 0 ([] : List (BitVec 64))), 2))
  else
   if inI (x0 + 63) then
   if 0 ≤ (x0 + 63) ∧ inI (x0 + 63) ∧ (0 : Int) < 64 then
   if 0 ≤ ((x0 + 63) / 64) then
   if lenOk ((x0 + 63) / 64).toNat 8 then
   some (((api_Bitmap.mk x0 (List.replicate ((x0 + 63) / 64).toNat (0#64 : BitVec 64))), 0))
   else none
   else none
   else none
   else none
theorem ref02_New_J1_sound (x0 : Int) (s : Bool) {Φ : api_Bitmap × Int → Prop} {o} (h : Z114 x0 s = some o) (hK : Φ o) : ref02_New_J1 x0 Φ s := by
  unfold Z114 at h
  unfold ref02_New_J1
  exact ifS h (fun h => have t := lfS h hK; t) fun h => adS h fun h => adS h fun h => adS h fun h => adS h fun h => have t := lfS h hK; t
def ref02_New_S (x0 : Int) : Option (api_Bitmap × Int) :=
 if x0 < 0 then
  Z114 x0 true
 else
  Z114 x0 (decide (4096 < x0))
theorem ref02_New_sound (x0 : Int) {Φ : api_Bitmap × Int → Prop} {o} (h : ref02_New_S x0 = some o) (hK : Φ o) : ref02_New_W x0 Φ := by
  unfold ref02_New_S at h
  unfold ref02_New_W
  exact ifS h (fun h => ref02_New_J1_sound _ _ h hK) fun h => ref02_New_J1_sound _ _ h hK
def Z115 (x0 : List Int) : (Int × List api_Bitmap) → Option ((Int × List api_Bitmap) ⊕ (List api_Bitmap))
 | (v1, v2) =>
  if v1 < (x0.length : Int) then
   if inX v1 x0.length then
   Option.bind (ref02_New_S (ix x0 v1)) fun v3 =>
   if lenOk (v2 ++ ([v3.1] : List api_Bitmap)).length 32 then
   if inI (v1 + 1) then
   some (.inl ((v1 + 1), (v2 ++ ([v3.1] : List api_Bitmap))))
   else none
   else none
   else none
  else
   some (.inr v2)
theorem ref43_Clean_L1_sound (x0 : List Int) (s : Int × List api_Bitmap) {Φ : List api_Bitmap → Prop} {rec1 : (Int × List api_Bitmap) → Prop} {o} (h : Z115 x0 s = some o) (hK : (orK rec1 Φ) o) : Z8 x0 Φ s rec1 := by
  obtain ⟨v1, v2⟩ := s
  unfold Z115 at h
  unfold Z8
  exact ifS h (fun h => adS h fun h => blS h fun _ hv h => ref02_New_sound _ hv (adS h fun h => adS h fun h => have t := lfS h hK; t)) fun h => have t := lfS h hK; t
def ref43_Clean_S (x0 : List Int) : Option (List api_Bitmap) :=
 loopS (Z115 x0) 100000 (0, ([] : List api_Bitmap))
theorem ref43_Clean_sound (x0 : List Int) {Φ : List api_Bitmap → Prop} {o} (h : ref43_Clean_S x0 = some o) (hK : Φ o) : ref43_Clean_W x0 Φ := by
  unfold ref43_Clean_S at h
  unfold ref43_Clean_W
  exact LoopW.of_S (fun s q rec hs hq => ref43_Clean_L1_sound _ s hs hq) _ _ h hK
def ref02_Copy_S (x0 : api_Bitmap) : Option (api_Bitmap) :=
 if lenOk (([] : List (BitVec 64)) ++ x0.Words).length 8 then
 some ((api_Bitmap.mk x0.Size (([] : List (BitVec 64)) ++ x0.Words)))
 else none
theorem ref02_Copy_sound (x0 : api_Bitmap) {Φ : api_Bitmap → Prop} {o} (h : ref02_Copy_S x0 = some o) (hK : Φ o) : ref02_Copy_W x0 Φ := by
  unfold ref02_Copy_S at h
  unfold ref02_Copy_W
  exact adS h fun h => have t := lfS h hK; t
def ref02_bit_S (x0 : api_Bitmap) (x1 : Int) : Option (Bool) :=
 if 0 ≤ x1 ∧ inI x1 ∧ (0 : Int) < 64 then
 if inX (x1 / 64) x0.Words.length then
 if 0 ≤ x1 ∧ 64 ≠ (0 : Int) then
 some (decide ((((ix x0.Words (x1 / 64)) >>> ((BitVec.ofInt 64 (x1 % 64)).toNat : Int).toNat) &&& (1#64)) = (1#64)))
 else none
 else none
 else none
theorem ref02_bit_sound (x0 : api_Bitmap) (x1 : Int) {Φ : Bool → Prop} {o} (h : ref02_bit_S x0 x1 = some o) (hK : Φ o) : ref02_bit_W x0 x1 Φ := by
  unfold ref02_bit_S at h
  unfold ref02_bit_W
  exact adS h fun h => adS h fun h => adS h fun h => have t := lfS h hK; t
def Z116 (x0 : api_Bitmap) : (Int) → Option ((Int) ⊕ (Int))
 | v1 =>
  if inI (64 * (x0.Words.length : Int)) then
  if v1 < (64 * (x0.Words.length : Int)) then
   Option.bind (ref02_bit_S x0 v1) fun v2 =>
   if v2 = true then
    some (.inr 3)
   else
    if inI (v1 + 1) then
    some (.inl (v1 + 1))
    else none
  else
   some (.inr 0)
  else none
theorem ref02_Check_L1_sound (x0 : api_Bitmap) (s : Int) {Φ : Int → Prop} {rec1 : (Int) → Prop} {o} (h : Z116 x0 s = some o) (hK : (orK rec1 Φ) o) : Z9 x0 Φ s rec1 := by
  unfold Z116 at h
  unfold Z9
  exact adS h fun h => ifS h (fun h => blS h fun _ hv h => ref02_bit_sound _ _ hv (ifS h (fun h => have t := lfS h hK; t) fun h => adS h fun h => have t := lfS h hK; t)) fun h => have t := lfS h hK; t
def ref02_Check_S (x0 : api_Bitmap) : Option (Int) :=
 if x0.Size < 0 then
  some (3)
 else
  if 4096 < x0.Size then
   some (3)
  else
   if inI (x0.Size + 63) then
   if 0 ≤ (x0.Size + 63) ∧ inI (x0.Size + 63) ∧ (0 : Int) < 64 then
   if (x0.Words.length : Int) ≠ ((x0.Size + 63) / 64) then
    some (3)
   else
    loopS (Z116 x0) 100000 x0.Size
   else none
   else none
theorem ref02_Check_sound (x0 : api_Bitmap) {Φ : Int → Prop} {o} (h : ref02_Check_S x0 = some o) (hK : Φ o) : ref02_Check_W x0 Φ := by
  unfold ref02_Check_S at h
  unfold ref02_Check_W
  exact ifS h (fun h => have t := lfS h hK; t) fun h => ifS h (fun h => have t := lfS h hK; t) fun h => adS h fun h => adS h fun h => ifS h (fun h => have t := lfS h hK; t) fun h => LoopW.of_S (fun s q rec hs hq => ref02_Check_L1_sound _ s hs hq) _ _ h hK
def ref02_Fits_S (x0 : api_Extent) (x1 : Int) : Option (Bool) :=
 if 0 ≤ x0.Start then
  if 0 ≤ x0.Count then
   if x0.Start ≤ x1 then
    if inI (x1 - x0.Start) then
    some (decide (x0.Count ≤ (x1 - x0.Start)))
    else none
   else
    some (false)
  else
   some (false)
 else
  some (false)
theorem ref02_Fits_sound (x0 : api_Extent) (x1 : Int) {Φ : Bool → Prop} {o} (h : ref02_Fits_S x0 x1 = some o) (hK : Φ o) : ref02_Fits_W x0 x1 Φ := by
  unfold ref02_Fits_S at h
  unfold ref02_Fits_W
  exact ifS h (fun h => ifS h (fun h => ifS h (fun h => adS h fun h => have t := lfS h hK; t) fun h => have t := lfS h hK; t) fun h => have t := lfS h hK; t) fun h => have t := lfS h hK; t
def Z117 (x1 : api_Extent) (x2 : Bool) (v3 : api_Bitmap) : (Int × List (BitVec 64)) → Option ((Int × List (BitVec 64)) ⊕ (api_Bitmap × Int))
 | (v4, v5) =>
  if inI (x1.Start + x1.Count) then
  if v4 < (x1.Start + x1.Count) then
   if x2 = true then
    if 0 ≤ v4 ∧ inI v4 ∧ (0 : Int) < 64 then
    if 0 ≤ v4 ∧ inI v4 ∧ (0 : Int) < 64 then
    if inX (v4 / 64) v5.length then
    if 0 ≤ v4 ∧ 64 ≠ (0 : Int) then
    if inX (v4 / 64) v5.length then
    if inI (v4 + 1) then
    some (.inl ((v4 + 1), (put v5 (v4 / 64) ((ix v5 (v4 / 64)) ||| ((1#64) <<< ((BitVec.ofInt 64 (v4 % 64)).toNat : Int).toNat)))))
    else none
    else none
    else none
    else none
    else none
    else none
   else
    if 0 ≤ v4 ∧ inI v4 ∧ (0 : Int) < 64 then
    if 0 ≤ v4 ∧ inI v4 ∧ (0 : Int) < 64 then
    if inX (v4 / 64) v5.length then
    if 0 ≤ v4 ∧ 64 ≠ (0 : Int) then
    if inX (v4 / 64) v5.length then
    if inI (v4 + 1) then
    some (.inl ((v4 + 1), (put v5 (v4 / 64) ((ix v5 (v4 / 64)) &&& ~~~((1#64) <<< ((BitVec.ofInt 64 (v4 % 64)).toNat : Int).toNat)))))
    else none
    else none
    else none
    else none
    else none
    else none
  else
   some (.inr ((api_Bitmap.mk v3.Size v5), 0))
  else none
theorem ref02_change_L1_sound (x1 : api_Extent) (x2 : Bool) (v3 : api_Bitmap) (s : Int × List (BitVec 64)) {Φ : api_Bitmap × Int → Prop} {rec1 : (Int × List (BitVec 64)) → Prop} {o} (h : Z117 x1 x2 v3 s = some o) (hK : (orK rec1 Φ) o) : Z10 x1 x2 v3 Φ s rec1 := by
  obtain ⟨v4, v5⟩ := s
  unfold Z117 at h
  unfold Z10
  exact adS h fun h => ifS h (fun h => ifS h (fun h => adS h fun h => adS h fun h => adS h fun h => adS h fun h => adS h fun h => adS h fun h => have t := lfS h hK; t) fun h => adS h fun h => adS h fun h => adS h fun h => adS h fun h => adS h fun h => adS h fun h => have t := lfS h hK; t) fun h => have t := lfS h hK; t
def Z118 (x0 : api_Bitmap) (x1 : api_Extent) (x2 : Bool) : Option (api_Bitmap × Int) :=
 Option.bind (ref02_Check_S x0) fun v1 =>
 if v1 ≠ 0 then
  some (((api_Bitmap.mk 0 ([] : List (BitVec 64))), 3))
 else
  Option.bind (ref02_Fits_S x1 x0.Size) fun v2 =>
  if ¬ (v2 = true) then
   some (((api_Bitmap.mk 0 ([] : List (BitVec 64))), 2))
  else
   Option.bind (ref02_Copy_S x0) fun v3 =>
   loopS (Z117 x1 x2 v3) 100000 (x1.Start, v3.Words)
theorem ref02_change_sound (x0 : api_Bitmap) (x1 : api_Extent) (x2 : Bool) {Φ : api_Bitmap × Int → Prop} {o} (h : Z118 x0 x1 x2 = some o) (hK : Φ o) : Z11 x0 x1 x2 Φ := by
  unfold Z118 at h
  unfold Z11
  exact blS h fun _ hv h => ref02_Check_sound _ hv (ifS h (fun h => have t := lfS h hK; t) fun h => blS h fun _ hv h => ref02_Fits_sound _ _ hv (ifS h (fun h => have t := lfS h hK; t) fun h => blS h fun _ hv h => ref02_Copy_sound _ hv (LoopW.of_S (fun s q rec hs hq => ref02_change_L1_sound _ _ _ s hs hq) _ _ h hK)))
def ref02_Set_S (x0 : api_Bitmap) (x1 : api_Extent) : Option (api_Bitmap × Int) :=
 Option.bind (Z118 x0 x1 true) fun v1 =>
 some ((v1.1, v1.2))
theorem ref02_Set_sound (x0 : api_Bitmap) (x1 : api_Extent) {Φ : api_Bitmap × Int → Prop} {o} (h : ref02_Set_S x0 x1 = some o) (hK : Φ o) : ref02_Set_W x0 x1 Φ := by
  unfold ref02_Set_S at h
  unfold ref02_Set_W
  exact blS h fun _ hv h => ref02_change_sound _ _ _ hv (have t := lfS h hK; t)
def Z119 (x1 : List api_Write) : (Int × List api_Bitmap) → Option ((Int × List api_Bitmap) ⊕ ((Int × List api_Bitmap) ⊕ (List api_Bitmap)))
 | (v4, v5) =>
  if v4 < (x1.length : Int) then
   if inX v4 x1.length then
   if inX ((ix x1 v4).Volume) v5.length then
   Option.bind (ref02_Set_S (ix v5 ((ix x1 v4).Volume)) (api_Extent.mk ((ix x1 v4).Start) (((ix x1 v4).Data).length : Int))) fun z =>
   let v6 : api_Bitmap × Int × Unit := (z.1, z.2, ())
   if inX ((ix x1 v4).Volume) v5.length then
   if inI (v4 + 1) then
   some (.inl ((v4 + 1), (put v5 ((ix x1 v4).Volume) v6.1)))
   else none
   else none
   else none
   else none
  else
   some (.inr (.inr v5))
theorem ref43_Mark_L2_sound (x1 : List api_Write) (s : Int × List api_Bitmap) {Φ : List api_Bitmap → Prop} {rec1 : (Int × List api_Bitmap) → Prop} {rec2 : (Int × List api_Bitmap) → Prop} {o} (h : Z119 x1 s = some o) (hK : (orK rec2 (orK rec1 Φ)) o) : ref43_Mark_L2 x1 Φ s rec2 := by
  obtain ⟨v4, v5⟩ := s
  unfold Z119 at h
  unfold ref43_Mark_L2
  exact ifS h (fun h => adS h fun h => adS h fun h => blS h fun _ hv h => ⟨_, ref02_Set_sound _ _ hv rfl, adS h fun h => adS h fun h => have t := lfS h hK; t⟩) fun h => have t := lfS h hK; t
def Z120 (x0 : List api_Bitmap) (x1 : List api_Write) : (Int × List api_Bitmap) → Option ((Int × List api_Bitmap) ⊕ (List api_Bitmap))
 | (v1, v2) =>
  if v1 < (x0.length : Int) then
   if inX v1 x0.length then
   Option.bind (ref02_Copy_S (ix x0 v1)) fun v3 =>
   if lenOk (v2 ++ ([v3] : List api_Bitmap)).length 32 then
   if inI (v1 + 1) then
   some (.inl ((v1 + 1), (v2 ++ ([v3] : List api_Bitmap))))
   else none
   else none
   else none
  else
   loopS (Z119 x1) 100000 (0, v2)
theorem ref43_Mark_L1_sound (x0 : List api_Bitmap) (x1 : List api_Write) (s : Int × List api_Bitmap) {Φ : List api_Bitmap → Prop} {rec1 : (Int × List api_Bitmap) → Prop} {o} (h : Z120 x0 x1 s = some o) (hK : (orK rec1 Φ) o) : ref43_Mark_L1 x0 x1 Φ s rec1 := by
  obtain ⟨v1, v2⟩ := s
  unfold Z120 at h
  unfold ref43_Mark_L1
  exact ifS h (fun h => adS h fun h => blS h fun _ hv h => ref02_Copy_sound _ hv (adS h fun h => adS h fun h => have t := lfS h hK; t)) fun h => LoopW.of_S (fun s q rec hs hq => ref43_Mark_L2_sound _ s hs hq) _ _ h hK
def ref43_Mark_S (x0 : List api_Bitmap) (x1 : List api_Write) : Option (List api_Bitmap) :=
 loopS (Z120 x0 x1) 100000 (0, ([] : List api_Bitmap))
theorem ref43_Mark_sound (x0 : List api_Bitmap) (x1 : List api_Write) {Φ : List api_Bitmap → Prop} {o} (h : ref43_Mark_S x0 x1 = some o) (hK : Φ o) : ref43_Mark_W x0 x1 Φ := by
  unfold ref43_Mark_S at h
  unfold ref43_Mark_W
  exact LoopW.of_S (fun s q rec hs hq => ref43_Mark_L1_sound _ _ s hs hq) _ _ h hK
def law47_point_S (x0 : Int) (x1 : List (List Sec)) (x2 : List api_Span) (x3 : List api_Write) : Option (api_Point) :=
 Option.bind (ref07_Apply_S x1 x3) fun v1 =>
 Option.bind (Z108 x1) fun v2 =>
 Option.bind (ref43_Clean_S v2) fun v3 =>
 Option.bind (ref43_Mark_S v3 x3) fun v4 =>
 some ((api_Point.mk x0 x2 v4 v1.1))
theorem law47_point_sound (x0 : Int) (x1 : List (List Sec)) (x2 : List api_Span) (x3 : List api_Write) {Φ : api_Point → Prop} {o} (h : law47_point_S x0 x1 x2 x3 = some o) (hK : Φ o) : law47_point_W x0 x1 x2 x3 Φ := by
  unfold law47_point_S at h
  unfold law47_point_W
  exact blS h fun _ hv h => ref07_Apply_sound _ _ hv (blS h fun _ hv h => ref07_SizesOf_sound _ hv (blS h fun _ hv h => ref43_Clean_sound _ hv (blS h fun _ hv h => ref43_Mark_sound _ _ hv (have t := lfS h hK; t))))
def delta_in_S (x0 : Int) (x1 : Int) : Option (Bool) :=
 if x1 ≤ x0 then
  some (decide (x0 ≤ 1073741824))
 else
  some (false)
theorem delta_in_sound (x0 : Int) (x1 : Int) {Φ : Bool → Prop} {o} (h : delta_in_S x0 x1 = some o) (hK : Φ o) : delta_in_W x0 x1 Φ := by
  unfold delta_in_S at h
  unfold delta_in_W
  exact ifS h (fun h => have t := lfS h hK; t) fun h => have t := lfS h hK; t
def Z121 (x0 : List api_Span) : (Int × Int × Int × Int) → Option ((Int × Int × Int × Int) ⊕ (Bool))
 | (v1, v2, _, v4) =>
  if v1 < (x0.length : Int) then
   if inX v1 x0.length then
   if inI (v4 + 1) then
   if ((ix x0 v1).From) ≠ (v4 + 1) then
    some (.inr false)
   else
    if ((ix x0 v1).To) < ((ix x0 v1).From) then
     some (.inr false)
    else
     if 1073741824 < ((ix x0 v1).To) then
      some (.inr false)
     else
      Option.bind (delta_in_S ((ix x0 v1).Epoch) 1) fun v5 =>
      if ¬ (v5 = true) then
       some (.inr false)
      else
       if ((ix x0 v1).Epoch) ≤ v2 then
        some (.inr false)
       else
        if inI (v1 + 1) then
        some (.inl ((v1 + 1), (ix x0 v1).Epoch, (ix x0 v1).From, (ix x0 v1).To))
        else none
   else none
   else none
  else
   some (.inr true)
theorem delta_correct_L1_sound (x0 : List api_Span) (s : Int × Int × Int × Int) {Φ : Bool → Prop} {rec1 : (Int × Int × Int × Int) → Prop} {o} (h : Z121 x0 s = some o) (hK : (orK rec1 Φ) o) : Z12 x0 Φ s rec1 := by
  obtain ⟨v1, v2, v3, v4⟩ := s
  unfold Z121 at h
  unfold Z12
  exact ifS h (fun h => adS h fun h => adS h fun h => ifS h (fun h => have t := lfS h hK; t) fun h => ifS h (fun h => have t := lfS h hK; t) fun h => ifS h (fun h => have t := lfS h hK; t) fun h => blS h fun _ hv h => delta_in_sound _ _ hv (ifS h (fun h => have t := lfS h hK; t) fun h => ifS h (fun h => have t := lfS h hK; t) fun h => adS h fun h => have t := lfS h hK; t)) fun h => have t := lfS h hK; t
def Z122 (x0 : List api_Span) : Option (Bool) :=
 loopS (Z121 x0) 100000 (0, 0, 0, 0)
theorem delta_correct_sound (x0 : List api_Span) {Φ : Bool → Prop} {o} (h : Z122 x0 = some o) (hK : Φ o) : Z13 x0 Φ := by
  unfold Z122 at h
  unfold Z13
  exact LoopW.of_S (fun s q rec hs hq => delta_correct_L1_sound _ s hs hq) _ _ h hK
def Z123 (x0 : List Sec) : Option (Int) :=
 some ((x0.length : Int))
theorem image_sizes_1_sound (x0 : List Sec) {Φ : Int → Prop} {o} (h : Z123 x0 = some o) (hK : Φ o) : Z14 x0 Φ := by
  unfold Z123 at h
  unfold Z14
  exact have t := lfS h hK; t
def Z124 (x0 : List (List Sec)) : (Int × List Int) → Option ((Int × List Int) ⊕ (List Int))
 | (v1, v2) =>
  if v1 < (x0.length : Int) then
   if inX v1 x0.length then
   Option.bind (Z123 (ix x0 v1)) fun v3 =>
   if lenOk (v2 ++ ([v3] : List Int)).length 8 then
   if inI (v1 + 1) then
   some (.inl ((v1 + 1), (v2 ++ ([v3] : List Int))))
   else none
   else none
   else none
  else
   some (.inr v2)
theorem image_sizes_L1_sound (x0 : List (List Sec)) (s : Int × List Int) {Φ : List Int → Prop} {rec1 : (Int × List Int) → Prop} {o} (h : Z124 x0 s = some o) (hK : (orK rec1 Φ) o) : Z15 x0 Φ s rec1 := by
  obtain ⟨v1, v2⟩ := s
  unfold Z124 at h
  unfold Z15
  exact ifS h (fun h => adS h fun h => blS h fun _ hv h => image_sizes_1_sound _ hv (adS h fun h => adS h fun h => have t := lfS h hK; t)) fun h => have t := lfS h hK; t
def image_sizes_S (x0 : List (List Sec)) : Option (List Int) :=
 if 0 ≤ (x0.length : Int) then
 if lenOk (x0.length : Int).toNat 8 then
 loopS (Z124 x0) 100000 (0, ([] : List Int))
 else none
 else none
theorem image_sizes_sound (x0 : List (List Sec)) {Φ : List Int → Prop} {o} (h : image_sizes_S x0 = some o) (hK : Φ o) : image_sizes_W x0 Φ := by
  unfold image_sizes_S at h
  unfold image_sizes_W
  exact adS h fun h => adS h fun h => LoopW.of_S (fun s q rec hs hq => image_sizes_L1_sound _ s hs hq) _ _ h hK
def Z125 (x0 : Int) : Option (Bool) :=
 if x0 < 1 then
  some (true)
 else
  some (decide (4096 < x0))
theorem image_checkSizes_1_sound (x0 : Int) {Φ : Bool → Prop} {o} (h : Z125 x0 = some o) (hK : Φ o) : Z16 x0 Φ := by
  unfold Z125 at h
  unfold Z16
  exact ifS h (fun h => have t := lfS h hK; t) fun h => have t := lfS h hK; t
def Z126 (x0 : List Int) : (Int) → Option ((Int) ⊕ (Int))
 | v1 =>
  if v1 < (x0.length : Int) then
   if inX v1 x0.length then
   Option.bind (Z125 (ix x0 v1)) fun v2 =>
   if v2 = true then
    if 0 ≤ v1 then
     some (.inr 2)
    else
     some (.inr 0)
   else
    if inI (v1 + 1) then
    some (.inl (v1 + 1))
    else none
   else none
  else
   if 0 ≤ ((-1) : Int) then
    some (.inr 2)
   else
    some (.inr 0)
theorem image_checkSizes_L1_sound (x0 : List Int) (s : Int) {Φ : Int → Prop} {rec1 : (Int) → Prop} {o} (h : Z126 x0 s = some o) (hK : (orK rec1 Φ) o) : Z17 x0 Φ s rec1 := by
  unfold Z126 at h
  unfold Z17
  exact ifS h (fun h => adS h fun h => blS h fun _ hv h => image_checkSizes_1_sound _ hv (ifS h (fun h => ifS h (fun h => have t := lfS h hK; t) fun h => have t := lfS h hK; t) fun h => adS h fun h => have t := lfS h hK; t)) fun h => ifS h (fun h => have t := lfS h hK; t) fun h => have t := lfS h hK; t
def Z127 (x0 : List Int) : Option (Int) :=
 if (x0.length : Int) < 1 then
  some (6)
 else
  if 8 < (x0.length : Int) then
   some (6)
  else
   loopS (Z126 x0) 100000 0
theorem image_checkSizes_sound (x0 : List Int) {Φ : Int → Prop} {o} (h : Z127 x0 = some o) (hK : Φ o) : Z18 x0 Φ := by
  unfold Z127 at h
  unfold Z18
  exact ifS h (fun h => have t := lfS h hK; t) fun h => ifS h (fun h => have t := lfS h hK; t) fun h => LoopW.of_S (fun s q rec hs hq => image_checkSizes_L1_sound _ s hs hq) _ _ h hK
def image_Check_S (x0 : List (List Sec)) : Option (Int) :=
 Option.bind (image_sizes_S x0) fun v1 =>
 Option.bind (Z127 v1) fun v2 =>
 some (v2)
theorem image_Check_sound (x0 : List (List Sec)) {Φ : Int → Prop} {o} (h : image_Check_S x0 = some o) (hK : Φ o) : image_Check_W x0 Φ := by
  unfold image_Check_S at h
  unfold image_Check_W
  exact blS h fun _ hv h => image_sizes_sound _ hv (blS h fun _ hv h => image_checkSizes_sound _ hv (have t := lfS h hK; t))
def Z128 (x0 : Int) : Option (Int) :=
 if inI (x0 + 64) then
 if inI ((x0 + 64) - 1) then
 if 0 ≤ ((x0 + 64) - 1) ∧ inI ((x0 + 64) - 1) ∧ (0 : Int) < 64 then
 some ((((x0 + 64) - 1) / 64))
 else none
 else none
 else none
theorem bitmap_words_sound (x0 : Int) {Φ : Int → Prop} {o} (h : Z128 x0 = some o) (hK : Φ o) : Z19 x0 Φ := by
  unfold Z128 at h
  unfold Z19
  exact adS h fun h => adS h fun h => adS h fun h => have t := lfS h hK; t
def Z129 (x0 : api_Bitmap) : Option (Int) :=
 if x0.Size < 0 then
  some (3)
 else
  if 4096 < x0.Size then
   some (3)
  else
   Option.bind (Z128 x0.Size) fun z =>
   let v1 : Int × Unit := (z, ())
   if (x0.Words.length : Int) ≠ v1.1 then
    some (3)
   else
    if 0 ≤ x0.Size ∧ 64 ≠ (0 : Int) then
    if 0 < (x0.Size % 64) then
     if inI ((x0.Words.length : Int) - 1) then
     if inX ((x0.Words.length : Int) - 1) x0.Words.length then
     if 0 ≤ (x0.Size % 64) then
     if ((ix x0.Words ((x0.Words.length : Int) - 1)) >>> ((x0.Size % 64) : Int).toNat) ≠ (0#64) then
      some (3)
     else
      some (0)
     else none
     else none
     else none
    else
     some (0)
    else none
theorem bitmap_Check_sound (x0 : api_Bitmap) {Φ : Int → Prop} {o} (h : Z129 x0 = some o) (hK : Φ o) : Z20 x0 Φ := by
  unfold Z129 at h
  unfold Z20
  exact ifS h (fun h => have t := lfS h hK; t) fun h => ifS h (fun h => have t := lfS h hK; t) fun h => blS h fun _ hv h => ⟨_, bitmap_words_sound _ hv rfl, ifS h (fun h => have t := lfS h hK; t) fun h => adS h fun h => ifS h (fun h => adS h fun h => adS h fun h => adS h fun h => ifS h (fun h => have t := lfS h hK; t) fun h => have t := lfS h hK; t) fun h => have t := lfS h hK; t⟩
def Z130 (x0 : api_Point) : (Int) → Option ((Int) ⊕ (Int))
 | v4 =>
  if v4 < (x0.Dirty.length : Int) then
   if inX v4 x0.Dirty.length then
   Option.bind (Z129 (ix x0.Dirty v4)) fun v5 =>
   if v5 ≠ 0 then
    some (.inr v5)
   else
    if inX v4 x0.Image.length then
    if ((ix x0.Dirty v4).Size) ≠ ((ix x0.Image v4).length : Int) then
     some (.inr 22)
    else
     if inI (v4 + 1) then
     some (.inl (v4 + 1))
     else none
    else none
   else none
  else
   some (.inr 0)
theorem delta_Check_L1_sound (x0 : api_Point) (s : Int) {Φ : Int → Prop} {rec1 : (Int) → Prop} {o} (h : Z130 x0 s = some o) (hK : (orK rec1 Φ) o) : Z21 x0 Φ s rec1 := by
  unfold Z130 at h
  unfold Z21
  exact ifS h (fun h => adS h fun h => blS h fun _ hv h => bitmap_Check_sound _ hv (ifS h (fun h => have t := lfS h hK; t) fun h => adS h fun h => ifS h (fun h => have t := lfS h hK; t) fun h => adS h fun h => have t := lfS h hK; t)) fun h => have t := lfS h hK; t
def delta_Check_S (x0 : api_Point) : Option (Int) :=
 Option.bind (delta_in_S x0.Site 0) fun v1 =>
 if ¬ (v1 = true) then
  some (2)
 else
  Option.bind (Z122 x0.Lineage) fun v2 =>
  if ¬ (v2 = true) then
   some (3)
  else
   Option.bind (image_Check_S x0.Image) fun v3 =>
   if v3 ≠ 0 then
    some (v3)
   else
    if (x0.Dirty.length : Int) ≠ (x0.Image.length : Int) then
     some (6)
    else
     loopS (Z130 x0) 100000 0
theorem delta_Check_sound (x0 : api_Point) {Φ : Int → Prop} {o} (h : delta_Check_S x0 = some o) (hK : Φ o) : delta_Check_W x0 Φ := by
  unfold delta_Check_S at h
  unfold delta_Check_W
  exact blS h fun _ hv h => delta_in_sound _ _ hv (ifS h (fun h => have t := lfS h hK; t) fun h => blS h fun _ hv h => delta_correct_sound _ hv (ifS h (fun h => have t := lfS h hK; t) fun h => blS h fun _ hv h => image_Check_sound _ hv (ifS h (fun h => have t := lfS h hK; t) fun h => ifS h (fun h => have t := lfS h hK; t) fun h => LoopW.of_S (fun s q rec hs hq => delta_Check_L1_sound _ s hs hq) _ _ h hK)))
def Z131 (x0 : List api_Span) : Option (Int) :=
 if (x0.length : Int) = 0 then
  some (0)
 else
  if inI ((x0.length : Int) - 1) then
  if inX ((x0.length : Int) - 1) x0.length then
  some ((ix x0 ((x0.length : Int) - 1)).To)
  else none
  else none
theorem reverse_last_sound (x0 : List api_Span) {Φ : Int → Prop} {o} (h : Z131 x0 = some o) (hK : Φ o) : Z22 x0 Φ := by
  unfold Z131 at h
  unfold Z22
  exact ifS h (fun h => have t := lfS h hK; t) fun h => adS h fun h => adS h fun h => have t := lfS h hK; t
def bitmap_mask_S (x0 : Int) (x1 : Int) (x2 : Int) : Option (BitVec 64) :=
 if inI (x0 * 64) then
 if inI (x1 - (x0 * 64)) then
 if inI (x0 * 64) then
 if inI (x2 - (x0 * 64)) then
 if (if 64 < (x2 - (x0 * 64)) then 64 else (x2 - (x0 * 64))) ≤ (if (x1 - (x0 * 64)) < 0 then 0 else (x1 - (x0 * 64))) then
  some (0#64)
 else
  if inI ((if 64 < (x2 - (x0 * 64)) then 64 else (x2 - (x0 * 64))) - (if (x1 - (x0 * 64)) < 0 then 0 else (x1 - (x0 * 64)))) then
  if inI (64 - ((if 64 < (x2 - (x0 * 64)) then 64 else (x2 - (x0 * 64))) - (if (x1 - (x0 * 64)) < 0 then 0 else (x1 - (x0 * 64))))) then
  if 0 ≤ (64 - ((if 64 < (x2 - (x0 * 64)) then 64 else (x2 - (x0 * 64))) - (if (x1 - (x0 * 64)) < 0 then 0 else (x1 - (x0 * 64))))) then
  if 0 ≤ (if (x1 - (x0 * 64)) < 0 then 0 else (x1 - (x0 * 64))) then
  some ((((18446744073709551615#64) >>> ((64 - ((if 64 < (x2 - (x0 * 64)) then 64 else (x2 - (x0 * 64))) - (if (x1 - (x0 * 64)) < 0 then 0 else (x1 - (x0 * 64))))) : Int).toNat) <<< ((if (x1 - (x0 * 64)) < 0 then 0 else (x1 - (x0 * 64))) : Int).toNat))
  else none
  else none
  else none
  else none
 else none
 else none
 else none
 else none
theorem bitmap_mask_sound (x0 : Int) (x1 : Int) (x2 : Int) {Φ : BitVec 64 → Prop} {o} (h : bitmap_mask_S x0 x1 x2 = some o) (hK : Φ o) : bitmap_mask_W x0 x1 x2 Φ := by
  unfold bitmap_mask_S at h
  unfold bitmap_mask_W
  exact adS h fun h => adS h fun h => adS h fun h => adS h fun h => ifS h (fun h => have t := lfS h hK; t) fun h => adS h fun h => adS h fun h => adS h fun h => adS h fun h => have t := lfS h hK; t
def Z132 (x0 : BitVec 64) : Option Int := if x0 ≠ 0#64 then some (Lib.ctz 64 x0.toNat : Int) else none
theorem math_bits_TrailingZeros64_sound (x0 : BitVec 64) {Φ : Int → Prop} {o} (h : Z132 x0 = some o) (hK : Φ o) : Z23 x0 Φ := by
  unfold Z132 at h
  unfold Z23
  exact adS h fun h => lfS h hK
def Z133 (v2 : Int) : (BitVec 64) → Option (List (Int × Unit) × ((BitVec 64) ⊕ ((Int) ⊕ (Unit))))
 | v4 =>
  if v4 ≠ (0#64) then
   if inI (v2 * 64) then
   Option.bind (Z132 v4) fun z =>
   let v5 : Int × Unit := (z, ())
   if inI ((v2 * 64) + v5.1) then
   Option.map (fun q => ((((v2 * 64) + v5.1), ()) :: q.1, q.2)) (
    some ([], .inl (v4 &&& (v4 - (1#64)))))
   else none
   else none
  else
   if inI (v2 + 1) then
   some ([], .inr (.inl (v2 + 1)))
   else none
theorem bitmap_elements_1_L2_sound (v2 : Int) (s : BitVec 64) {ys : List (Int × Unit)} {q} {r : List (Int × Unit)} {rec1 : (List (Int × Unit) × Int) → Prop} {rec2 : (List (Int × Unit) × BitVec 64) → Prop} (h : Z133 v2 s = some (ys, q)) (hr : (orK (fun s => rec2 (r, s)) (orK (fun s => rec1 (r, s)) (fun _ => r = []))) q) : Z24 v2 rec1 (ys ++ r, s) rec2 := by
  unfold Z133 at h
  unfold Z24
  exact ifS h (fun h => adS h fun h => blS h fun _ hv h => ⟨_, math_bits_TrailingZeros64_sound _ hv rfl, adS h fun h => mpS h fun q_ h_ he => (by obtain ⟨_, _⟩ := q_; cases he; exact ⟨rfl, (have h := h_; (by cases h; exact hr)), trivial⟩)⟩) fun h => adS h fun h => (by cases h; exact hr)
def Z134 (x0 : api_Bitmap) (x1 : Int) : (Int) → Option (List (Int × Unit) × ((Int) ⊕ (Unit)))
 | v2 =>
  if v2 < (x0.Words.length : Int) then
   if inX v2 x0.Words.length then
   Option.bind (bitmap_mask_S v2 x1 x0.Size) fun z =>
   let v3 : BitVec 64 × Unit := (z, ())
   genS (Z133 v2) 100000 ((ix x0.Words v2) &&& v3.1)
   else none
  else
   some ([], .inr ())
theorem bitmap_elements_1_L1_sound (x0 : api_Bitmap) (x1 : Int) (s : Int) {ys : List (Int × Unit)} {q} {r : List (Int × Unit)} {rec1 : (List (Int × Unit) × Int) → Prop} (h : Z134 x0 x1 s = some (ys, q)) (hr : (orK (fun s => rec1 (r, s)) (fun _ => r = [])) q) : Z25 x0 x1 (ys ++ r, s) rec1 := by
  unfold Z134 at h
  unfold Z25
  exact ifS h (fun h => adS h fun h => blS h fun _ hv h => ⟨_, bitmap_mask_sound _ _ _ hv rfl, LoopW.of_G (K := fun r => (orK (fun s => rec1 (r, s)) (fun _ => r = []))) (fun s ys q r rec hs hr => bitmap_elements_1_L2_sound _ s hs hr) _ _ _ h hr⟩) fun h => (by cases h; exact hr)
def bitmap_elements_1_S0 (x0 : api_Bitmap) (x1 : Int) : Option (List (Int × Unit) × Unit) :=
 Option.bind (Z129 x0) fun z =>
 let v1 : Int × Unit := (z, ())
 if v1.1 ≠ 0 then
  some ([], ())
 else
  genS (Z134 x0 x1) 100000 0
def Z135 (x0 : api_Bitmap) (x1 : Int) : Option (List (Int × Unit)) := Option.map Prod.fst (bitmap_elements_1_S0 x0 x1)
theorem bitmap_elements_1_sound (x0 : api_Bitmap) (x1 : Int) {l : List (Int × Unit)} (h : Z135 x0 x1 = some l) : bitmap_elements_1_I x0 x1 l := by
  obtain ⟨⟨ys, q⟩, h0, h1⟩ := Option.map_eq_some_iff.1 h
  clear h
  have h := h0
  subst h1
  unfold bitmap_elements_1_S0 at h
  unfold bitmap_elements_1_I
  have hr : (fun _ => ([] : List (Int × Unit)) = []) q := rfl
  rw [← List.append_nil ys]
  exact blS h fun _ hv h => ⟨_, bitmap_Check_sound _ hv rfl, ifS h (fun h => (by cases h; exact hr)) fun h => LoopW.of_G (K := fun r => (fun _ => r = [])) (fun s ys q r rec hs hr => bitmap_elements_1_L1_sound _ _ s hs hr) _ _ _ h hr⟩
def Z136 : (List (Int × Unit) × List api_Extent) → Option ((List (Int × Unit) × List api_Extent) ⊕ (List api_Extent))
 | (lst, v1) =>
  match lst with
  | [] =>
   some (.inr v1)
  | v2 :: r3 =>
   if 0 < (v1.length : Int) then
    if inI ((v1.length : Int) - 1) then
    if inX ((v1.length : Int) - 1) v1.length then
    if inI ((v1.length : Int) - 1) then
    if inX ((v1.length : Int) - 1) v1.length then
    if inI (((ix v1 ((v1.length : Int) - 1)).Start) + ((ix v1 ((v1.length : Int) - 1)).Count)) then
    if (((ix v1 ((v1.length : Int) - 1)).Start) + ((ix v1 ((v1.length : Int) - 1)).Count)) = v2.1 then
     if inI ((v1.length : Int) - 1) then
     if inX ((v1.length : Int) - 1) v1.length then
     if inI (((ix v1 ((v1.length : Int) - 1)).Count) + 1) then
     if inX ((v1.length : Int) - 1) v1.length then
     some (.inl (r3, (put v1 ((v1.length : Int) - 1) (api_Extent.mk ((ix v1 ((v1.length : Int) - 1)).Start) (((ix v1 ((v1.length : Int) - 1)).Count) + 1)))))
     else none
     else none
     else none
     else none
    else
     if lenOk (v1 ++ ([(api_Extent.mk v2.1 1)] : List api_Extent)).length 16 then
     some (.inl (r3, (v1 ++ ([(api_Extent.mk v2.1 1)] : List api_Extent))))
     else none
    else none
    else none
    else none
    else none
    else none
   else
    if lenOk (v1 ++ ([(api_Extent.mk v2.1 1)] : List api_Extent)).length 16 then
    some (.inl (r3, (v1 ++ ([(api_Extent.mk v2.1 1)] : List api_Extent))))
    else none
theorem bitmap_Extents_L1_sound (s : List (Int × Unit) × List api_Extent) {Φ : List api_Extent → Prop} {rec1 : (List (Int × Unit) × List api_Extent) → Prop} {o} (h : Z136 s = some o) (hK : (orK rec1 Φ) o) : Z26 Φ s rec1 := by
  obtain ⟨lst, v1⟩ := s
  unfold Z136 at h
  unfold Z26
  cases lst with
  | nil => exact have t := lfS h hK; t
  | cons _ _ => exact ifS h (fun h => adS h fun h => adS h fun h => adS h fun h => adS h fun h => adS h fun h => ifS h (fun h => adS h fun h => adS h fun h => adS h fun h => adS h fun h => have t := lfS h hK; t) fun h => adS h fun h => have t := lfS h hK; t) fun h => adS h fun h => have t := lfS h hK; t
def Z137 (x0 : api_Bitmap) : Option (List api_Extent) :=
 Option.bind (Z135 x0 0) fun l4 =>
 loopS (Z136) 100000 (l4, ([] : List api_Extent))
theorem bitmap_Extents_sound (x0 : api_Bitmap) {Φ : List api_Extent → Prop} {o} (h : Z137 x0 = some o) (hK : Φ o) : Z27 x0 Φ := by
  unfold Z137 at h
  unfold Z27
  exact blS h fun _ hv h => ⟨_, bitmap_elements_1_sound _ _ hv, LoopW.of_S (fun s q rec hs hq => bitmap_Extents_L1_sound s hs hq) _ _ h hK⟩
def Z138 (_ : Int) (x1 : api_Bitmap) : Option (List api_Extent) :=
 Option.bind (Z137 x1) fun v1 =>
 some (v1)
theorem reverse_Undo_1_sound (x0 : Int) (x1 : api_Bitmap) {Φ : List api_Extent → Prop} {o} (h : Z138 x0 x1 = some o) (hK : Φ o) : Z28 x0 x1 Φ := by
  unfold Z138 at h
  unfold Z28
  exact blS h fun _ hv h => bitmap_Extents_sound _ hv (have t := lfS h hK; t)
def Z139 (x0 : api_Point) : (Int × List (List api_Extent)) → Option ((Int × List (List api_Extent)) ⊕ (List (List api_Extent) × Int))
 | (v3, v4) =>
  if v3 < (x0.Dirty.length : Int) then
   if inX v3 x0.Dirty.length then
   Option.bind (Z138 v3 (ix x0.Dirty v3)) fun v5 =>
   if lenOk (v4 ++ ([v5] : List (List api_Extent))).length 24 then
   if inI (v3 + 1) then
   some (.inl ((v3 + 1), (v4 ++ ([v5] : List (List api_Extent)))))
   else none
   else none
   else none
  else
   some (.inr (v4, 0))
theorem reverse_Undo_L2_sound (x0 : api_Point) (s : Int × List (List api_Extent)) {Φ : List (List api_Extent) × Int → Prop} {rec2 : (Int × List (List api_Extent)) → Prop} {o} (h : Z139 x0 s = some o) (hK : (orK rec2 Φ) o) : Z29 x0 Φ s rec2 := by
  obtain ⟨v3, v4⟩ := s
  unfold Z139 at h
  unfold Z29
  exact ifS h (fun h => adS h fun h => blS h fun _ hv h => reverse_Undo_1_sound _ _ hv (adS h fun h => adS h fun h => have t := lfS h hK; t)) fun h => have t := lfS h hK; t
def Z140 (x0 : api_Point) : (Bool) → Option (List (List api_Extent) × Int)
 | v2 =>
  if v2 = true then
   some ((([] : List (List api_Extent)), 2))
  else
   loopS (Z139 x0) 100000 (0, ([] : List (List api_Extent)))
theorem reverse_Undo_J1_sound (x0 : api_Point) (s : Bool) {Φ : List (List api_Extent) × Int → Prop} {o} (h : Z140 x0 s = some o) (hK : Φ o) : Z30 x0 Φ s := by
  unfold Z140 at h
  unfold Z30
  exact ifS h (fun h => have t := lfS h hK; t) fun h => LoopW.of_S (fun s q rec hs hq => reverse_Undo_L2_sound _ s hs hq) _ _ h hK
def Z141 (x0 : api_Point) (x1 : Int) : Option (List (List api_Extent) × Int) :=
 Option.bind (delta_Check_S x0) fun v1 =>
 if v1 ≠ 0 then
  some ((([] : List (List api_Extent)), v1))
 else
  if x1 < 0 then
   Z140 x0 true
  else
   Option.bind (Z131 x0.Lineage) fun v6 =>
   Z140 x0 (decide (v6 < x1))
theorem reverse_Undo_sound (x0 : api_Point) (x1 : Int) {Φ : List (List api_Extent) × Int → Prop} {o} (h : Z141 x0 x1 = some o) (hK : Φ o) : Z31 x0 x1 Φ := by
  unfold Z141 at h
  unfold Z31
  exact blS h fun _ hv h => delta_Check_sound _ hv (ifS h (fun h => have t := lfS h hK; t) fun h => ifS h (fun h => reverse_Undo_J1_sound _ _ h hK) fun h => blS h fun _ hv h => reverse_last_sound _ hv (reverse_Undo_J1_sound _ _ h hK))
def Z142 (x0 : List Sec) (x1 : List Sec) : Option (Bool) :=
 some (decide ((x0.length : Int) = (x1.length : Int)))
theorem delta_alike_1_sound (x0 : List Sec) (x1 : List Sec) {Φ : Bool → Prop} {o} (h : Z142 x0 x1 = some o) (hK : Φ o) : Z32 x0 x1 Φ := by
  unfold Z142 at h
  unfold Z32
  exact have t := lfS h hK; t
def Z143 (x0 : List (List Sec)) (x1 : List (List Sec)) : (Int) → Option ((Int) ⊕ (Bool))
 | v1 =>
  if v1 < (x0.length : Int) then
   if inX v1 x0.length then
   if inX v1 x1.length then
   Option.bind (Z142 (ix x0 v1) (ix x1 v1)) fun v2 =>
   if ¬ (v2 = true) then
    some (.inr false)
   else
    if inI (v1 + 1) then
    some (.inl (v1 + 1))
    else none
   else none
   else none
  else
   some (.inr true)
theorem delta_alike_L1_sound (x0 : List (List Sec)) (x1 : List (List Sec)) (s : Int) {Φ : Bool → Prop} {rec1 : (Int) → Prop} {o} (h : Z143 x0 x1 s = some o) (hK : (orK rec1 Φ) o) : Z33 x0 x1 Φ s rec1 := by
  unfold Z143 at h
  unfold Z33
  exact ifS h (fun h => adS h fun h => adS h fun h => blS h fun _ hv h => delta_alike_1_sound _ _ hv (ifS h (fun h => have t := lfS h hK; t) fun h => adS h fun h => have t := lfS h hK; t)) fun h => have t := lfS h hK; t
def delta_alike_S (x0 : List (List Sec)) (x1 : List (List Sec)) : Option (Bool) :=
 if (x0.length : Int) ≠ (x1.length : Int) then
  some (false)
 else
  loopS (Z143 x0 x1) 100000 0
theorem delta_alike_sound (x0 : List (List Sec)) (x1 : List (List Sec)) {Φ : Bool → Prop} {o} (h : delta_alike_S x0 x1 = some o) (hK : Φ o) : delta_alike_W x0 x1 Φ := by
  unfold delta_alike_S at h
  unfold delta_alike_W
  exact ifS h (fun h => have t := lfS h hK; t) fun h => LoopW.of_S (fun s q rec hs hq => delta_alike_L1_sound _ _ s hs hq) _ _ h hK
def bitmap_Or_1_S (x0 : BitVec 64) (x1 : BitVec 64) : Option (BitVec 64) :=
 some ((x0 ||| x1))
theorem bitmap_Or_1_sound (x0 : BitVec 64) (x1 : BitVec 64) {Φ : BitVec 64 → Prop} {o} (h : bitmap_Or_1_S x0 x1 = some o) (hK : Φ o) : bitmap_Or_1_W x0 x1 Φ := by
  unfold bitmap_Or_1_S at h
  unfold bitmap_Or_1_W
  exact have t := lfS h hK; t
def Z144 (x0 : api_Bitmap) (x1 : api_Bitmap) : (Int × List (BitVec 64)) → Option ((Int × List (BitVec 64)) ⊕ (api_Bitmap × Int))
 | (v3, v4) =>
  if v3 < ((List.replicate (x0.Words.length : Int).toNat (0#64 : BitVec 64)).length : Int) then
   if inX v3 x0.Words.length then
   if inX v3 x1.Words.length then
   Option.bind (bitmap_Or_1_S (ix x0.Words v3) (ix x1.Words v3)) fun z =>
   let v5 : BitVec 64 × Unit := (z, ())
   if inX v3 v4.length then
   if inI (v3 + 1) then
   some (.inl ((v3 + 1), (put v4 v3 v5.1)))
   else none
   else none
   else none
   else none
  else
   some (.inr ((api_Bitmap.mk x0.Size v4), 0))
theorem bitmap_Or_L1_sound (x0 : api_Bitmap) (x1 : api_Bitmap) (s : Int × List (BitVec 64)) {Φ : api_Bitmap × Int → Prop} {rec1 : (Int × List (BitVec 64)) → Prop} {o} (h : Z144 x0 x1 s = some o) (hK : (orK rec1 Φ) o) : bitmap_Or_L1 x0 x1 Φ s rec1 := by
  obtain ⟨v3, v4⟩ := s
  unfold Z144 at h
  unfold bitmap_Or_L1
  exact ifS h (fun h => adS h fun h => adS h fun h => blS h fun _ hv h => ⟨_, bitmap_Or_1_sound _ _ hv rfl, adS h fun h => adS h fun h => have t := lfS h hK; t⟩) fun h => have t := lfS h hK; t
def bitmap_Or_S (x0 : api_Bitmap) (x1 : api_Bitmap) : Option (api_Bitmap × Int) :=
 Option.bind (Z129 x0) fun v1 =>
 if v1 ≠ 0 then
  some (((api_Bitmap.mk 0 ([] : List (BitVec 64))), v1))
 else
  Option.bind (Z129 x1) fun v2 =>
  if v2 ≠ 0 then
   some (((api_Bitmap.mk 0 ([] : List (BitVec 64))), v2))
  else
   if x0.Size ≠ x1.Size then
    some (((api_Bitmap.mk 0 ([] : List (BitVec 64))), 22))
   else
    if 0 ≤ (x0.Words.length : Int) then
    if lenOk (x0.Words.length : Int).toNat 8 then
    loopS (Z144 x0 x1) 100000 (0, (List.replicate (x0.Words.length : Int).toNat (0#64 : BitVec 64)))
    else none
    else none
theorem bitmap_Or_sound (x0 : api_Bitmap) (x1 : api_Bitmap) {Φ : api_Bitmap × Int → Prop} {o} (h : bitmap_Or_S x0 x1 = some o) (hK : Φ o) : bitmap_Or_W x0 x1 Φ := by
  unfold bitmap_Or_S at h
  unfold bitmap_Or_W
  exact blS h fun _ hv h => bitmap_Check_sound _ hv (ifS h (fun h => have t := lfS h hK; t) fun h => blS h fun _ hv h => bitmap_Check_sound _ hv (ifS h (fun h => have t := lfS h hK; t) fun h => ifS h (fun h => have t := lfS h hK; t) fun h => adS h fun h => adS h fun h => LoopW.of_S (fun s q rec hs hq => bitmap_Or_L1_sound _ _ s hs hq) _ _ h hK))
def Z145 (x0 : api_Point) (x1 : api_Point) : (Int × List (List api_Extent)) → Option ((Int × List (List api_Extent)) ⊕ (List (List api_Extent)))
 | (v1, v2) =>
  if v1 < ((List.replicate (x0.Dirty.length : Int).toNat (([] : List api_Extent) : List api_Extent)).length : Int) then
   if inX v1 x0.Dirty.length then
   if inX v1 x1.Dirty.length then
   Option.bind (bitmap_Or_S (ix x0.Dirty v1) (ix x1.Dirty v1)) fun z =>
   let v3 : api_Bitmap × Int × Unit := (z.1, z.2, ())
   Option.bind (Z137 v3.1) fun v4 =>
   if inX v1 v2.length then
   if inI (v1 + 1) then
   some (.inl ((v1 + 1), (put v2 v1 v4)))
   else none
   else none
   else none
   else none
  else
   some (.inr v2)
theorem delta_marked_L1_sound (x0 : api_Point) (x1 : api_Point) (s : Int × List (List api_Extent)) {Φ : List (List api_Extent) → Prop} {rec1 : (Int × List (List api_Extent)) → Prop} {o} (h : Z145 x0 x1 s = some o) (hK : (orK rec1 Φ) o) : Z34 x0 x1 Φ s rec1 := by
  obtain ⟨v1, v2⟩ := s
  unfold Z145 at h
  unfold Z34
  exact ifS h (fun h => adS h fun h => adS h fun h => blS h fun _ hv h => ⟨_, bitmap_Or_sound _ _ hv rfl, blS h fun _ hv h => bitmap_Extents_sound _ hv (adS h fun h => adS h fun h => have t := lfS h hK; t)⟩) fun h => have t := lfS h hK; t
def Z146 (x0 : api_Point) (x1 : api_Point) : Option (List (List api_Extent)) :=
 if 0 ≤ (x0.Dirty.length : Int) then
 if lenOk (x0.Dirty.length : Int).toNat 24 then
 loopS (Z145 x0 x1) 100000 (0, (List.replicate (x0.Dirty.length : Int).toNat (([] : List api_Extent) : List api_Extent)))
 else none
 else none
theorem delta_marked_sound (x0 : api_Point) (x1 : api_Point) {Φ : List (List api_Extent) → Prop} {o} (h : Z146 x0 x1 = some o) (hK : Φ o) : Z35 x0 x1 Φ := by
  unfold Z146 at h
  unfold Z35
  exact adS h fun h => adS h fun h => LoopW.of_S (fun s q rec hs hq => delta_marked_L1_sound _ _ s hs hq) _ _ h hK
def Z147 (x0 : api_Point) (x1 : api_Point) : (Int) → Option ((Int) ⊕ (List (List api_Extent) × Int))
 | v1 =>
  if v1 < (([x0, x1] : List api_Point).length : Int) then
   if inX v1 ([x0, x1] : List api_Point).length then
   Option.bind (delta_Check_S (ix ([x0, x1] : List api_Point) v1)) fun v2 =>
   if v2 ≠ 0 then
    some (.inr (([] : List (List api_Extent)), v2))
   else
    if inI (v1 + 1) then
    some (.inl (v1 + 1))
    else none
   else none
  else
   Option.bind (delta_alike_S x0.Image x1.Image) fun v3 =>
   if ¬ (v3 = true) then
    some (.inr (([] : List (List api_Extent)), 22))
   else
    Option.bind (Z146 x0 x1) fun v4 =>
    some (.inr (v4, 0))
theorem delta_Between_L1_sound (x0 : api_Point) (x1 : api_Point) (s : Int) {Φ : List (List api_Extent) × Int → Prop} {rec1 : (Int) → Prop} {o} (h : Z147 x0 x1 s = some o) (hK : (orK rec1 Φ) o) : Z36 x0 x1 Φ s rec1 := by
  unfold Z147 at h
  unfold Z36
  exact ifS h (fun h => adS h fun h => blS h fun _ hv h => delta_Check_sound _ hv (ifS h (fun h => have t := lfS h hK; t) fun h => adS h fun h => have t := lfS h hK; t)) fun h => blS h fun _ hv h => delta_alike_sound _ _ hv (ifS h (fun h => have t := lfS h hK; t) fun h => blS h fun _ hv h => delta_marked_sound _ _ hv (have t := lfS h hK; t))
def Z148 (x0 : api_Point) (x1 : api_Point) : Option (List (List api_Extent) × Int) :=
 loopS (Z147 x0 x1) 100000 0
theorem delta_Between_sound (x0 : api_Point) (x1 : api_Point) {Φ : List (List api_Extent) × Int → Prop} {o} (h : Z148 x0 x1 = some o) (hK : Φ o) : Z37 x0 x1 Φ := by
  unfold Z148 at h
  unfold Z37
  exact LoopW.of_S (fun s q rec hs hq => delta_Between_L1_sound _ _ s hs hq) _ _ h hK
def Z149 (x0 : api_Point) (x1 : api_Point) : Option (List (List api_Extent) × Int) :=
 Option.bind (Z148 x0 x1) fun v1 =>
 some ((v1.1, v1.2))
theorem reverse_Extents_sound (x0 : api_Point) (x1 : api_Point) {Φ : List (List api_Extent) × Int → Prop} {o} (h : Z149 x0 x1 = some o) (hK : Φ o) : Z38 x0 x1 Φ := by
  unfold Z149 at h
  unfold Z38
  exact blS h fun _ hv h => delta_Between_sound _ _ hv (have t := lfS h hK; t)
def Z150 (x0 : List api_Span) (x1 : List api_Span) (v2 : Int) (v3 : Int) (v4 : Int) : (Bool) → Option ((Int × Int × Int) ⊕ (Int × Int))
 | v5 =>
  if v5 = true then
   if inX v4 x0.length then
   if inX v4 x1.length then
   if inX v4 x0.length then
   if inX v4 x0.length then
   if inX v4 x1.length then
   if ((ix x0 v4).To) ≠ ((ix x1 v4).To) then
    some (.inr ((if ((ix x1 v4).To) < ((ix x0 v4).To) then ((ix x1 v4).To) else ((ix x0 v4).To)), (ix x0 v4).Epoch))
   else
    if inI (v4 + 1) then
    some (.inl ((if ((ix x1 v4).To) < ((ix x0 v4).To) then ((ix x1 v4).To) else ((ix x0 v4).To)), (ix x0 v4).Epoch, (v4 + 1)))
    else none
   else none
   else none
   else none
   else none
   else none
  else
   some (.inr (v2, v3))
theorem delta_Ancestor_J3_sound (x0 : List api_Span) (x1 : List api_Span) (v2 : Int) (v3 : Int) (v4 : Int) (s : Bool) {Φ : Int × Int → Prop} {rec2 : (Int × Int × Int) → Prop} {o} (h : Z150 x0 x1 v2 v3 v4 s = some o) (hK : (orK rec2 Φ) o) : Z39 x0 x1 v2 v3 v4 rec2 Φ s := by
  unfold Z150 at h
  unfold Z39
  exact ifS h (fun h => adS h fun h => adS h fun h => adS h fun h => adS h fun h => adS h fun h => ifS h (fun h => have t := lfS h hK; t) fun h => adS h fun h => have t := lfS h hK; t) fun h => have t := lfS h hK; t
def Z151 (x0 : List api_Span) (x1 : List api_Span) : (Int × Int × Int) → Option ((Int × Int × Int) ⊕ (Int × Int))
 | (v2, v3, v4) =>
  if v4 < (if (x1.length : Int) < (x0.length : Int) then (x1.length : Int) else (x0.length : Int)) then
   if inX v4 x0.length then
   if inX v4 x1.length then
   Z150 x0 x1 v2 v3 v4 (decide (((ix x0 v4).Epoch) = ((ix x1 v4).Epoch)))
   else none
   else none
  else
   Z150 x0 x1 v2 v3 v4 false
theorem delta_Ancestor_L2_sound (x0 : List api_Span) (x1 : List api_Span) (s : Int × Int × Int) {Φ : Int × Int → Prop} {rec2 : (Int × Int × Int) → Prop} {o} (h : Z151 x0 x1 s = some o) (hK : (orK rec2 Φ) o) : Z40 x0 x1 Φ s rec2 := by
  obtain ⟨v2, v3, v4⟩ := s
  unfold Z151 at h
  unfold Z40
  exact ifS h (fun h => adS h fun h => adS h fun h => delta_Ancestor_J3_sound _ _ _ _ _ _ h hK) fun h => delta_Ancestor_J3_sound _ _ _ _ _ _ h hK
def Z152 (x0 : List api_Span) (x1 : List api_Span) : (Bool) → Option (Int × Int)
 | v1 =>
  if v1 = true then
   some ((0, 0))
  else
   loopS (Z151 x0 x1) 100000 (0, 0, 0)
theorem delta_Ancestor_J1_sound (x0 : List api_Span) (x1 : List api_Span) (s : Bool) {Φ : Int × Int → Prop} {o} (h : Z152 x0 x1 s = some o) (hK : Φ o) : Z41 x0 x1 Φ s := by
  unfold Z152 at h
  unfold Z41
  exact ifS h (fun h => have t := lfS h hK; t) fun h => LoopW.of_S (fun s q rec hs hq => delta_Ancestor_L2_sound _ _ s hs hq) _ _ h hK
def Z153 (x0 : List api_Span) (x1 : List api_Span) : Option (Int × Int) :=
 Option.bind (Z122 x0) fun v6 =>
 if ¬ (v6 = true) then
  Z152 x0 x1 true
 else
  Option.bind (Z122 x1) fun v7 =>
  Z152 x0 x1 (decide (¬ (v7 = true)))
theorem delta_Ancestor_sound (x0 : List api_Span) (x1 : List api_Span) {Φ : Int × Int → Prop} {o} (h : Z153 x0 x1 = some o) (hK : Φ o) : Z42 x0 x1 Φ := by
  unfold Z153 at h
  unfold Z42
  exact blS h fun _ hv h => delta_correct_sound _ hv (ifS h (fun h => delta_Ancestor_J1_sound _ _ _ h hK) fun h => blS h fun _ hv h => delta_correct_sound _ hv (delta_Ancestor_J1_sound _ _ _ h hK))
def Z154 (x0 : List Int) : Option (List Int) :=
 bothS (decide (x0 = [])) (
  some (([] : List Int))) (
  if lenOk (([] : List Int) ++ x0).length 8 then
  some ((([] : List Int) ++ x0))
  else none)
theorem slices_Clone_int_int_sound (x0 : List Int) {Φ : List Int → Prop} {o} (h : Z154 x0 = some o) (hK : Φ o) : Z43 x0 Φ := by
  unfold Z154 at h
  unfold Z43
  exact nl2S h (fun h => have t := lfS h hK; t) fun h => adS h fun h => have t := lfS h hK; t
def Z155 (x0 : List Sec) : Option (List Sec) :=
 bothS (decide (x0 = [])) (
  some (([] : List Sec))) (
  if lenOk (([] : List Sec) ++ x0).length 8 then
  some ((([] : List Sec) ++ x0))
  else none)
theorem slices_Clone_api_Sector_api_Sector_sound (x0 : List Sec) {Φ : List Sec → Prop} {o} (h : Z155 x0 = some o) (hK : Φ o) : Z44 x0 Φ := by
  unfold Z155 at h
  unfold Z44
  exact nl2S h (fun h => have t := lfS h hK; t) fun h => adS h fun h => have t := lfS h hK; t
def image_New_1_S (x0 : Int) : Option (List Sec) :=
 if 0 ≤ x0 then
 if lenOk x0.toNat 8 then
 some ((List.replicate x0.toNat (sec0 : Sec)))
 else none
 else none
theorem image_New_1_sound (x0 : Int) {Φ : List Sec → Prop} {o} (h : image_New_1_S x0 = some o) (hK : Φ o) : image_New_1_W x0 Φ := by
  unfold image_New_1_S at h
  unfold image_New_1_W
  exact adS h fun h => adS h fun h => have t := lfS h hK; t
def Z156 (x0 : List Int) : (Int × List (List Sec)) → Option ((Int × List (List Sec)) ⊕ (List (List Sec) × Int))
 | (v2, v3) =>
  if v2 < (x0.length : Int) then
   if inX v2 x0.length then
   Option.bind (image_New_1_S (ix x0 v2)) fun v4 =>
   if lenOk (v3 ++ ([v4] : List (List Sec))).length 24 then
   if inI (v2 + 1) then
   some (.inl ((v2 + 1), (v3 ++ ([v4] : List (List Sec)))))
   else none
   else none
   else none
  else
   some (.inr (v3, 0))
theorem image_New_L1_sound (x0 : List Int) (s : Int × List (List Sec)) {Φ : List (List Sec) × Int → Prop} {rec1 : (Int × List (List Sec)) → Prop} {o} (h : Z156 x0 s = some o) (hK : (orK rec1 Φ) o) : image_New_L1 x0 Φ s rec1 := by
  obtain ⟨v2, v3⟩ := s
  unfold Z156 at h
  unfold image_New_L1
  exact ifS h (fun h => adS h fun h => blS h fun _ hv h => image_New_1_sound _ hv (adS h fun h => adS h fun h => have t := lfS h hK; t)) fun h => have t := lfS h hK; t
def image_New_S (x0 : List Int) : Option (List (List Sec) × Int) :=
 Option.bind (Z127 x0) fun v1 =>
 if v1 ≠ 0 then
  some ((([] : List (List Sec)), v1))
 else
  if 0 ≤ (x0.length : Int) then
  if lenOk (x0.length : Int).toNat 24 then
  loopS (Z156 x0) 100000 (0, ([] : List (List Sec)))
  else none
  else none
theorem image_New_sound (x0 : List Int) {Φ : List (List Sec) × Int → Prop} {o} (h : image_New_S x0 = some o) (hK : Φ o) : image_New_W x0 Φ := by
  unfold image_New_S at h
  unfold image_New_W
  exact blS h fun _ hv h => image_checkSizes_sound _ hv (ifS h (fun h => have t := lfS h hK; t) fun h => adS h fun h => adS h fun h => LoopW.of_S (fun s q rec hs hq => image_New_L1_sound _ s hs hq) _ _ h hK)
def cycle_in_S (x0 : Int) (x1 : Int) (x2 : Int) : Option (Bool) :=
 if x1 ≤ x0 then
  some (decide (x0 ≤ x2))
 else
  some (false)
theorem cycle_in_sound (x0 : Int) (x1 : Int) (x2 : Int) {Φ : Bool → Prop} {o} (h : cycle_in_S x0 x1 x2 = some o) (hK : Φ o) : cycle_in_W x0 x1 x2 Φ := by
  unfold cycle_in_S at h
  unfold cycle_in_W
  exact ifS h (fun h => have t := lfS h hK; t) fun h => have t := lfS h hK; t
def Z157 (x0 : Int) : Option (Bool) :=
 Option.bind (cycle_in_S x0 0 1073741824) fun v1 =>
 some (decide (¬ (v1 = true)))
theorem cycle_positions_1_sound (x0 : Int) {Φ : Bool → Prop} {o} (h : Z157 x0 = some o) (hK : Φ o) : Z45 x0 Φ := by
  unfold Z157 at h
  unfold Z45
  exact blS h fun _ hv h => cycle_in_sound _ _ _ hv (have t := lfS h hK; t)
def Z158 (x0 : List Int) : (Int) → Option ((Int) ⊕ (Int))
 | v2 =>
  if v2 < (x0.length : Int) then
   if inX v2 x0.length then
   Option.bind (Z157 (ix x0 v2)) fun v3 =>
   if v3 = true then
    if 0 ≤ v2 then
     some (.inr 2)
    else
     some (.inr 0)
   else
    if inI (v2 + 1) then
    some (.inl (v2 + 1))
    else none
   else none
  else
   if 0 ≤ ((-1) : Int) then
    some (.inr 2)
   else
    some (.inr 0)
theorem cycle_positions_L1_sound (x0 : List Int) (s : Int) {Φ : Int → Prop} {rec1 : (Int) → Prop} {o} (h : Z158 x0 s = some o) (hK : (orK rec1 Φ) o) : Z46 x0 Φ s rec1 := by
  unfold Z158 at h
  unfold Z46
  exact ifS h (fun h => adS h fun h => blS h fun _ hv h => cycle_positions_1_sound _ hv (ifS h (fun h => ifS h (fun h => have t := lfS h hK; t) fun h => have t := lfS h hK; t) fun h => adS h fun h => have t := lfS h hK; t)) fun h => ifS h (fun h => have t := lfS h hK; t) fun h => have t := lfS h hK; t
def Z159 (x0 : List Int) (x1 : Int) : Option (Int) :=
 Option.bind (cycle_in_S (x0.length : Int) x1 8) fun v1 =>
 if ¬ (v1 = true) then
  some (6)
 else
  loopS (Z158 x0) 100000 0
theorem cycle_positions_sound (x0 : List Int) (x1 : Int) {Φ : Int → Prop} {o} (h : Z159 x0 x1 = some o) (hK : Φ o) : Z47 x0 x1 Φ := by
  unfold Z159 at h
  unfold Z47
  exact blS h fun _ hv h => cycle_in_sound _ _ _ hv (ifS h (fun h => have t := lfS h hK; t) fun h => LoopW.of_S (fun s q rec hs hq => cycle_positions_L1_sound _ s hs hq) _ _ h hK)
def Z160 (x0 : List (List Sec)) (x1 : api_Write) : (Bool) → Option (Int)
 | v1 =>
  if v1 = true then
   some (7)
  else
   if (x1.Data.length : Int) = 0 then
    some (1)
   else
    if x1.Start < 0 then
     some (2)
    else
     if inX x1.Volume x0.length then
     if inI (((ix x0 x1.Volume).length : Int) - (x1.Data.length : Int)) then
     if (((ix x0 x1.Volume).length : Int) - (x1.Data.length : Int)) < x1.Start then
      some (2)
     else
      some (0)
     else none
     else none
theorem image_fits_J1_sound (x0 : List (List Sec)) (x1 : api_Write) (s : Bool) {Φ : Int → Prop} {o} (h : Z160 x0 x1 s = some o) (hK : Φ o) : image_fits_J1 x0 x1 Φ s := by
  unfold Z160 at h
  unfold image_fits_J1
  exact ifS h (fun h => have t := lfS h hK; t) fun h => ifS h (fun h => have t := lfS h hK; t) fun h => ifS h (fun h => have t := lfS h hK; t) fun h => adS h fun h => adS h fun h => ifS h (fun h => have t := lfS h hK; t) fun h => have t := lfS h hK; t
def image_fits_S (x0 : List (List Sec)) (x1 : api_Write) : Option (Int) :=
 if x1.Volume < 0 then
  Z160 x0 x1 true
 else
  Z160 x0 x1 (decide ((x0.length : Int) ≤ x1.Volume))
theorem image_fits_sound (x0 : List (List Sec)) (x1 : api_Write) {Φ : Int → Prop} {o} (h : image_fits_S x0 x1 = some o) (hK : Φ o) : image_fits_W x0 x1 Φ := by
  unfold image_fits_S at h
  unfold image_fits_W
  exact ifS h (fun h => image_fits_J1_sound _ _ _ h hK) fun h => image_fits_J1_sound _ _ _ h hK
def image_Fits_S (x0 : List (List Sec)) (x1 : api_Write) : Option (Int) :=
 Option.bind (image_Check_S x0) fun v1 =>
 if v1 ≠ 0 then
  some (v1)
 else
  Option.bind (image_fits_S x0 x1) fun v2 =>
  some (v2)
theorem image_Fits_sound (x0 : List (List Sec)) (x1 : api_Write) {Φ : Int → Prop} {o} (h : image_Fits_S x0 x1 = some o) (hK : Φ o) : image_Fits_W x0 x1 Φ := by
  unfold image_Fits_S at h
  unfold image_Fits_W
  exact blS h fun _ hv h => image_Check_sound _ hv (ifS h (fun h => have t := lfS h hK; t) fun h => blS h fun _ hv h => image_fits_sound _ _ hv (have t := lfS h hK; t))
def Z161 (x0 : List api_Write) (v1 : List (List Sec) × Int) : (Int) → Option ((Int) ⊕ (Int))
 | v2 =>
  if v2 < (x0.length : Int) then
   if inX v2 x0.length then
   Option.bind (image_Fits_S v1.1 (ix x0 v2)) fun v3 =>
   if v3 ≠ 0 then
    some (.inr v3)
   else
    if v2 = 0 then
     if inI (v2 + 1) then
     some (.inl (v2 + 1))
     else none
    else
     if inI (v2 - 1) then
     if inX (v2 - 1) x0.length then
     if ((ix x0 v2).Volume) < ((ix x0 (v2 - 1)).Volume) then
      some (.inr 3)
     else
      if ((ix x0 v2).Volume) = ((ix x0 (v2 - 1)).Volume) then
       if inI (((ix x0 (v2 - 1)).Start) + (((ix x0 (v2 - 1)).Data).length : Int)) then
       if ((ix x0 v2).Start) ≤ (((ix x0 (v2 - 1)).Start) + (((ix x0 (v2 - 1)).Data).length : Int)) then
        some (.inr 3)
       else
        if inI (v2 + 1) then
        some (.inl (v2 + 1))
        else none
       else none
      else
       if inI (v2 + 1) then
       some (.inl (v2 + 1))
       else none
     else none
     else none
   else none
  else
   some (.inr 0)
theorem coalesce_Check_L1_sound (x0 : List api_Write) (v1 : List (List Sec) × Int) (s : Int) {Φ : Int → Prop} {rec1 : (Int) → Prop} {o} (h : Z161 x0 v1 s = some o) (hK : (orK rec1 Φ) o) : Z48 x0 v1 Φ s rec1 := by
  unfold Z161 at h
  unfold Z48
  exact ifS h (fun h => adS h fun h => blS h fun _ hv h => image_Fits_sound _ _ hv (ifS h (fun h => have t := lfS h hK; t) fun h => ifS h (fun h => adS h fun h => have t := lfS h hK; t) fun h => adS h fun h => adS h fun h => ifS h (fun h => have t := lfS h hK; t) fun h => ifS h (fun h => adS h fun h => ifS h (fun h => have t := lfS h hK; t) fun h => adS h fun h => have t := lfS h hK; t) fun h => adS h fun h => have t := lfS h hK; t)) fun h => have t := lfS h hK; t
def Z162 (x0 : List api_Write) (x1 : List Int) : Option (Int) :=
 Option.bind (image_New_S x1) fun v1 =>
 if v1.2 ≠ 0 then
  some (v1.2)
 else
  loopS (Z161 x0 v1) 100000 0
theorem coalesce_Check_sound (x0 : List api_Write) (x1 : List Int) {Φ : Int → Prop} {o} (h : Z162 x0 x1 = some o) (hK : Φ o) : Z49 x0 x1 Φ := by
  unfold Z162 at h
  unfold Z49
  exact blS h fun _ hv h => image_New_sound _ hv (ifS h (fun h => have t := lfS h hK; t) fun h => LoopW.of_S (fun s q rec hs hq => coalesce_Check_L1_sound _ _ s hs hq) _ _ h hK)
def Z163 (x0 : api_Cycle) (x1 : List Int) : (Bool) → Option (Int)
 | v2 =>
  if v2 = true then
   some (2)
  else
   Option.bind (cycle_in_S x0.Time 0 1073741824) fun v3 =>
   if ¬ (v3 = true) then
    some (24)
   else
    Option.bind (Z159 x0.Positions 0) fun v4 =>
    if v4 ≠ 0 then
     some (v4)
    else
     Option.bind (Z162 x0.Writes x1) fun v5 =>
     some (v5)
theorem cycle_Check_J1_sound (x0 : api_Cycle) (x1 : List Int) (s : Bool) {Φ : Int → Prop} {o} (h : Z163 x0 x1 s = some o) (hK : Φ o) : Z50 x0 x1 Φ s := by
  unfold Z163 at h
  unfold Z50
  exact ifS h (fun h => have t := lfS h hK; t) fun h => blS h fun _ hv h => cycle_in_sound _ _ _ hv (ifS h (fun h => have t := lfS h hK; t) fun h => blS h fun _ hv h => cycle_positions_sound _ _ hv (ifS h (fun h => have t := lfS h hK; t) fun h => blS h fun _ hv h => coalesce_Check_sound _ _ hv (have t := lfS h hK; t)))
def cycle_Check_S (x0 : api_Cycle) (x1 : List Int) : Option (Int) :=
 Option.bind (image_New_S x1) fun v1 =>
 if v1.2 ≠ 0 then
  some (v1.2)
 else
  if x0.Base < 0 then
   Z163 x0 x1 true
  else
   if x0.Number ≤ x0.Base then
    Z163 x0 x1 true
   else
    Z163 x0 x1 (decide (1073741824 < x0.Number))
theorem cycle_Check_sound (x0 : api_Cycle) (x1 : List Int) {Φ : Int → Prop} {o} (h : cycle_Check_S x0 x1 = some o) (hK : Φ o) : cycle_Check_W x0 x1 Φ := by
  unfold cycle_Check_S at h
  unfold cycle_Check_W
  exact blS h fun _ hv h => image_New_sound _ hv (ifS h (fun h => have t := lfS h hK; t) fun h => ifS h (fun h => cycle_Check_J1_sound _ _ _ h hK) fun h => ifS h (fun h => cycle_Check_J1_sound _ _ _ h hK) fun h => cycle_Check_J1_sound _ _ _ h hK)
def Z164 (x1 : api_Point) (v1 : List (List api_Extent) × Int) (v5 : Int) (v6 : List Int) : (Int × List api_Write) → Option ((Int × List api_Write) ⊕ ((Int × List Int × List api_Write) ⊕ (api_Cycle × Int)))
 | (v8, v9) =>
  if v8 < ((ix v1.1 v5).length : Int) then
   if inX v8 (ix v1.1 v5).length then
   if inI (((ix (ix v1.1 v5) v8).Start) + ((ix (ix v1.1 v5) v8).Count)) then
   if inS ((ix (ix v1.1 v5) v8).Start) (((ix (ix v1.1 v5) v8).Start) + ((ix (ix v1.1 v5) v8).Count)) (ix x1.Image v5).length then
   Option.bind (Z155 (sub (ix x1.Image v5) ((ix (ix v1.1 v5) v8).Start) (((ix (ix v1.1 v5) v8).Start) + ((ix (ix v1.1 v5) v8).Count)))) fun z =>
   let v10 : List Sec × Unit := (z, ())
   if lenOk (v9 ++ ([(api_Write.mk v5 ((ix (ix v1.1 v5) v8).Start) v10.1)] : List api_Write)).length 40 then
   if inI (v8 + 1) then
   some (.inl ((v8 + 1), (v9 ++ ([(api_Write.mk v5 ((ix (ix v1.1 v5) v8).Start) v10.1)] : List api_Write))))
   else none
   else none
   else none
   else none
   else none
  else
   if inI (v5 + 1) then
   some (.inr (.inl ((v5 + 1), (v6 ++ ([((ix x1.Image v5).length : Int)] : List Int)), v9)))
   else none
theorem reverse_Cycle_L3_sound (x1 : api_Point) (v1 : List (List api_Extent) × Int) (v5 : Int) (v6 : List Int) (s : Int × List api_Write) {Φ : api_Cycle × Int → Prop} {rec2 : (Int × List Int × List api_Write) → Prop} {rec3 : (Int × List api_Write) → Prop} {o} (h : Z164 x1 v1 v5 v6 s = some o) (hK : (orK rec3 (orK rec2 Φ)) o) : Z51 x1 v1 v5 v6 rec2 Φ s rec3 := by
  obtain ⟨v8, v9⟩ := s
  unfold Z164 at h
  unfold Z51
  exact ifS h (fun h => adS h fun h => adS h fun h => adS h fun h => blS h fun _ hv h => ⟨_, slices_Clone_api_Sector_api_Sector_sound _ hv rfl, adS h fun h => adS h fun h => have t := lfS h hK; t⟩) fun h => adS h fun h => have t := lfS h hK; t
def Z165 (x1 : api_Point) (x2 : Int) (x3 : Int) (v1 : List (List api_Extent) × Int) (v2 : Int × Int) (v4 : List Int) : (Int × List Int × List api_Write) → Option ((Int × List Int × List api_Write) ⊕ (api_Cycle × Int))
 | (v5, v6, v7) =>
  if v5 < (x1.Image.length : Int) then
   if inX v5 x1.Image.length then
   if lenOk (v6 ++ ([((ix x1.Image v5).length : Int)] : List Int)).length 8 then
   if inX v5 v1.1.length then
   loopS (Z164 x1 v1 v5 v6) 100000 (0, v7)
   else none
   else none
   else none
  else
   Option.bind (cycle_Check_S (api_Cycle.mk v2.1 x2 x3 v4 v7) v6) fun v11 =>
   if v11 ≠ 0 then
    some (.inr ((api_Cycle.mk 0 0 0 ([] : List Int) ([] : List api_Write)), v11))
   else
    some (.inr ((api_Cycle.mk v2.1 x2 x3 v4 v7), 0))
theorem reverse_Cycle_L2_sound (x1 : api_Point) (x2 : Int) (x3 : Int) (v1 : List (List api_Extent) × Int) (v2 : Int × Int) (v4 : List Int) (s : Int × List Int × List api_Write) {Φ : api_Cycle × Int → Prop} {rec2 : (Int × List Int × List api_Write) → Prop} {o} (h : Z165 x1 x2 x3 v1 v2 v4 s = some o) (hK : (orK rec2 Φ) o) : Z52 x1 x2 x3 v1 v2 v4 Φ s rec2 := by
  obtain ⟨v5, v6, v7⟩ := s
  unfold Z165 at h
  unfold Z52
  exact ifS h (fun h => adS h fun h => adS h fun h => adS h fun h => LoopW.of_S (fun s q rec hs hq => reverse_Cycle_L3_sound _ _ _ _ s hs hq) _ _ h hK) fun h => blS h fun _ hv h => cycle_Check_sound _ _ hv (ifS h (fun h => have t := lfS h hK; t) fun h => have t := lfS h hK; t)
def Z166 (x1 : api_Point) (x2 : Int) (x3 : Int) (x4 : List Int) (v1 : List (List api_Extent) × Int) (v2 : Int × Int) : (Bool) → Option (api_Cycle × Int)
 | v3 =>
  if v3 = true then
   some (((api_Cycle.mk 0 0 0 ([] : List Int) ([] : List api_Write)), 2))
  else
   Option.bind (Z154 x4) fun v4 =>
   loopS (Z165 x1 x2 x3 v1 v2 v4) 100000 (0, ([] : List Int), ([] : List api_Write))
theorem reverse_Cycle_J1_sound (x1 : api_Point) (x2 : Int) (x3 : Int) (x4 : List Int) (v1 : List (List api_Extent) × Int) (v2 : Int × Int) (s : Bool) {Φ : api_Cycle × Int → Prop} {o} (h : Z166 x1 x2 x3 x4 v1 v2 s = some o) (hK : Φ o) : Z53 x1 x2 x3 x4 v1 v2 Φ s := by
  unfold Z166 at h
  unfold Z53
  exact ifS h (fun h => have t := lfS h hK; t) fun h => blS h fun _ hv h => slices_Clone_int_int_sound _ hv (LoopW.of_S (fun s q rec hs hq => reverse_Cycle_L2_sound _ _ _ _ _ _ s hs hq) _ _ h hK)
def Z167 (x0 : api_Point) (x1 : api_Point) (x2 : Int) (x3 : Int) (x4 : List Int) : Option (api_Cycle × Int) :=
 Option.bind (Z148 x0 x1) fun v1 =>
 if v1.2 ≠ 0 then
  some (((api_Cycle.mk 0 0 0 ([] : List Int) ([] : List api_Write)), v1.2))
 else
  Option.bind (Z153 x0.Lineage x1.Lineage) fun v2 =>
  if x2 ≤ v2.1 then
   Z166 x1 x2 x3 x4 v1 v2 true
  else
   Option.bind (Z131 x1.Lineage) fun v12 =>
   Z166 x1 x2 x3 x4 v1 v2 (decide (x2 < v12))
theorem reverse_Cycle_sound (x0 : api_Point) (x1 : api_Point) (x2 : Int) (x3 : Int) (x4 : List Int) {Φ : api_Cycle × Int → Prop} {o} (h : Z167 x0 x1 x2 x3 x4 = some o) (hK : Φ o) : Z54 x0 x1 x2 x3 x4 Φ := by
  unfold Z167 at h
  unfold Z54
  exact blS h fun _ hv h => delta_Between_sound _ _ hv (ifS h (fun h => have t := lfS h hK; t) fun h => blS h fun _ hv h => delta_Ancestor_sound _ _ hv (ifS h (fun h => reverse_Cycle_J1_sound _ _ _ _ _ _ _ h hK) fun h => blS h fun _ hv h => reverse_last_sound _ hv (reverse_Cycle_J1_sound _ _ _ _ _ _ _ h hK)))
def Z168 (x0 : List api_Extent) (x1 : List api_Extent) : (Int) → Option ((Int) ⊕ (Bool))
 | v1 =>
  if v1 < (x0.length : Int) then
   if inX v1 x0.length then
   if inX v1 x1.length then
   if (ix x0 v1) ≠ (ix x1 v1) then
    some (.inr false)
   else
    if inI (v1 + 1) then
    some (.inl (v1 + 1))
    else none
   else none
   else none
  else
   some (.inr true)
theorem ref02_SameExtents_L1_sound (x0 : List api_Extent) (x1 : List api_Extent) (s : Int) {Φ : Bool → Prop} {rec1 : (Int) → Prop} {o} (h : Z168 x0 x1 s = some o) (hK : (orK rec1 Φ) o) : Z55 x0 x1 Φ s rec1 := by
  unfold Z168 at h
  unfold Z55
  exact ifS h (fun h => adS h fun h => adS h fun h => ifS h (fun h => have t := lfS h hK; t) fun h => adS h fun h => have t := lfS h hK; t) fun h => have t := lfS h hK; t
def Z169 (x0 : List api_Extent) (x1 : List api_Extent) : Option (Bool) :=
 if (x0.length : Int) ≠ (x1.length : Int) then
  some (false)
 else
  loopS (Z168 x0 x1) 100000 0
theorem ref02_SameExtents_sound (x0 : List api_Extent) (x1 : List api_Extent) {Φ : Bool → Prop} {o} (h : Z169 x0 x1 = some o) (hK : Φ o) : Z56 x0 x1 Φ := by
  unfold Z169 at h
  unfold Z56
  exact ifS h (fun h => have t := lfS h hK; t) fun h => LoopW.of_S (fun s q rec hs hq => ref02_SameExtents_L1_sound _ _ s hs hq) _ _ h hK
def Z170 (x0 : List (List api_Extent)) (x1 : List (List api_Extent)) : (Int) → Option ((Int) ⊕ (Bool))
 | v1 =>
  if v1 < (x0.length : Int) then
   if inX v1 x0.length then
   if inX v1 x1.length then
   Option.bind (Z169 (ix x0 v1) (ix x1 v1)) fun z =>
   let v2 : Bool × Unit := (z, ())
   if ¬ (v2.1 = true) then
    some (.inr false)
   else
    if inI (v1 + 1) then
    some (.inl (v1 + 1))
    else none
   else none
   else none
  else
   some (.inr true)
theorem ref47_SameExtents_L1_sound (x0 : List (List api_Extent)) (x1 : List (List api_Extent)) (s : Int) {Φ : Bool → Prop} {rec1 : (Int) → Prop} {o} (h : Z170 x0 x1 s = some o) (hK : (orK rec1 Φ) o) : Z57 x0 x1 Φ s rec1 := by
  unfold Z170 at h
  unfold Z57
  exact ifS h (fun h => adS h fun h => adS h fun h => blS h fun _ hv h => ⟨_, ref02_SameExtents_sound _ _ hv rfl, ifS h (fun h => have t := lfS h hK; t) fun h => adS h fun h => have t := lfS h hK; t⟩) fun h => have t := lfS h hK; t
def Z171 (x0 : List (List api_Extent)) (x1 : List (List api_Extent)) : Option (Bool) :=
 if (x0.length : Int) ≠ (x1.length : Int) then
  some (false)
 else
  loopS (Z170 x0 x1) 100000 0
theorem ref47_SameExtents_sound (x0 : List (List api_Extent)) (x1 : List (List api_Extent)) {Φ : Bool → Prop} {o} (h : Z171 x0 x1 = some o) (hK : Φ o) : Z58 x0 x1 Φ := by
  unfold Z171 at h
  unfold Z58
  exact ifS h (fun h => have t := lfS h hK; t) fun h => LoopW.of_S (fun s q rec hs hq => ref47_SameExtents_L1_sound _ _ s hs hq) _ _ h hK
def Z172 (v5 : List (List api_Extent) × Int) (v6 : List (List api_Extent) × Int) (v7 : api_Cycle × Int) : (Unit) → Option (Bool)
 | _ =>
  Option.bind (Z171 v5.1 ([([(api_Extent.mk 0 1)] : List api_Extent)] : List (List api_Extent))) fun v8 =>
  if v8 = true then
   Option.bind (Z171 v6.1 ([([(api_Extent.mk 0 1), (api_Extent.mk 2 1)] : List api_Extent)] : List (List api_Extent))) fun v9 =>
   if v9 = true then
    if inX 0 v7.1.Writes.length then
    if inX 0 ((ix v7.1.Writes 0).Data).length then
    if (ix ((ix v7.1.Writes 0).Data) 0) = (Sec.mk (1#8) (0#8) (0#8) (0#8) (0#8) (0#8) (0#8) (0#8)) then
     if inX 1 v7.1.Writes.length then
     if inX 0 ((ix v7.1.Writes 1).Data).length then
     some (decide ((ix ((ix v7.1.Writes 1).Data) 0) = (Sec.mk (9#8) (0#8) (0#8) (0#8) (0#8) (0#8) (0#8) (0#8))))
     else none
     else none
    else
     some (false)
    else none
    else none
   else
    some (false)
  else
   some (false)
theorem law47_awake_J1_sound (v5 : List (List api_Extent) × Int) (v6 : List (List api_Extent) × Int) (v7 : api_Cycle × Int) (s : Unit) {Φ : Bool → Prop} {o} (h : Z172 v5 v6 v7 s = some o) (hK : Φ o) : Z59 v5 v6 v7 Φ s := by
  unfold Z172 at h
  unfold Z59
  exact blS h fun _ hv h => ref47_SameExtents_sound _ _ hv (ifS h (fun h => blS h fun _ hv h => ref47_SameExtents_sound _ _ hv (ifS h (fun h => adS h fun h => adS h fun h => ifS h (fun h => adS h fun h => adS h fun h => have t := lfS h hK; t) fun h => have t := lfS h hK; t) fun h => have t := lfS h hK; t)) fun h => have t := lfS h hK; t)
def law47_awake_S : Option (Bool) :=
 Option.bind (law47_one_S 0 (8#8)) fun v1 =>
 Option.bind (law47_point_S 0 ([([(Sec.mk (1#8) (0#8) (0#8) (0#8) (0#8) (0#8) (0#8) (0#8)), (Sec.mk (2#8) (0#8) (0#8) (0#8) (0#8) (0#8) (0#8) (0#8)), (Sec.mk (3#8) (0#8) (0#8) (0#8) (0#8) (0#8) (0#8) (0#8))] : List Sec)] : List (List Sec)) ([(api_Span.mk 1 1 4)] : List api_Span) ([v1] : List api_Write)) fun v2 =>
 Option.bind (law47_one_S 2 (9#8)) fun v3 =>
 Option.bind (law47_point_S 1 ([([(Sec.mk (1#8) (0#8) (0#8) (0#8) (0#8) (0#8) (0#8) (0#8)), (Sec.mk (2#8) (0#8) (0#8) (0#8) (0#8) (0#8) (0#8) (0#8)), (Sec.mk (3#8) (0#8) (0#8) (0#8) (0#8) (0#8) (0#8) (0#8))] : List Sec)] : List (List Sec)) ([(api_Span.mk 1 1 4), (api_Span.mk 2 5 6)] : List api_Span) ([v3] : List api_Write)) fun v4 =>
 Option.bind (Z141 v2 4) fun v5 =>
 Option.bind (Z149 v2 v4) fun v6 =>
 Option.bind (Z167 v2 v4 6 7 ([] : List Int)) fun v7 =>
 if v5.2 ≠ 0 then
  some (false)
 else
  if v6.2 ≠ 0 then
   some (false)
  else
   if v7.2 ≠ 0 then
    some (false)
   else
    if v7.1.Base ≠ 4 then
     some (false)
    else
     if (v7.1.Writes.length : Int) ≠ 2 then
      some (false)
     else
      Z172 v5 v6 v7 ()
theorem law47_awake_sound {Φ : Bool → Prop} {o} (h : law47_awake_S = some o) (hK : Φ o) : law47_awake_W Φ := by
  unfold law47_awake_S at h
  unfold law47_awake_W
  exact blS h fun _ hv h => law47_one_sound _ _ hv (blS h fun _ hv h => law47_point_sound _ _ _ _ hv (blS h fun _ hv h => law47_one_sound _ _ hv (blS h fun _ hv h => law47_point_sound _ _ _ _ hv (blS h fun _ hv h => reverse_Undo_sound _ _ hv (blS h fun _ hv h => reverse_Extents_sound _ _ hv (blS h fun _ hv h => reverse_Cycle_sound _ _ _ _ _ hv (ifS h (fun h => have t := lfS h hK; t) fun h => ifS h (fun h => have t := lfS h hK; t) fun h => ifS h (fun h => have t := lfS h hK; t) fun h => ifS h (fun h => have t := lfS h hK; t) fun h => ifS h (fun h => have t := lfS h hK; t) fun h => law47_awake_J1_sound _ _ _ _ h hK)))))))
theorem law47_awake_ok {Φ : Bool → Prop} (h : Φ true) : law47_awake_W Φ := law47_awake_sound (o := true) (by kernel_rfl) h
end Go.Proofs.YtefiiimkacemiaaGreatDoor
