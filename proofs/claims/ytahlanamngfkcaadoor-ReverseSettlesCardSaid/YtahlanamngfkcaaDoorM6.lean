/- Part 6 of the proof of the statement ReverseSettlesCardSaid: lemmas. No condition of its own. -/
import Derived.Test.YtahlanamngfkcaaDoorM5
namespace Go.Proofs.YtahlanamngfkcaaDoor
open Go.RowKit
theorem law47_ReverseSettles_lift {H : Hp} (hT : TabH H 0) (x0 : BitVec 8) (x1 : Arr2_api_Write) (x2 : List Sec) {A1 : Option Addr} {n1 c1 : Nat} {s1 : List Value} (hF1 : Fz (α := api_Write) H A1 n1 c1 x1.e0 s1) {A2 : Option Addr} {n2 c2 : Nat} {s2 : List Value} (hF2 : Fz (α := api_Write) H A2 n2 c2 x1.e1 s2) {A3 : Option Addr} {n3 c3 : Nat} {s3 : List Value} (hF3 : Fz (α := Sec) H A3 n3 c3 x2 s3) {Φ : Bool → Prop} (hm : law47_ReverseSettles_W x0 x1 x2 Φ) : RetP Tryd.prog 6 #[u8 (x0), .agg #[.slice A1 n1 c1, .slice A2 n2 c2], .slice A3 n3 c3] H (fun _ v L => ∃ y, Φ y ∧ v = .bool y ∧ L = []) := by
 refine RetP.of_code Tryd.func6 rfl (Nat.le_of_ble_eq_true rfl) fun w0 hM => ?_
 refine CW.seq <| CW.region ?_
 refine RW.box hM (.agg #[.slice A1 n1 c1, .slice A2 n2 c2]) [.slice A1 n1 c1, .slice A2 n2 c2] rfl rfl rfl rfl ?_; intro b4 w hM
 replace hM : Mem w0 H w H [.box b4 52 [.slice A1 n1 c1, .slice A2 n2 c2]] := hM
 refine RW.st (Ex.assign (.bool false) rfl) rfl <| RW.nil ?_
 refine CW.cut (fun D σ w => D = [] ∧ ∃ Hk5, H.le Hk5 ∧ (∃ τ, σ = sl [(0, u8 (x0)), (2, .slice A3 n3 c3), (4, .pointer (some ⟨b4, 0, none⟩))] τ) ∧ Mem w0 H w Hk5 [.box b4 52 [.slice A1 n1 c1, .slice A2 n2 c2]] ∧ law47_ReverseSettles_J1 x0 x1 x2 Φ) ?_ ?_
 ·
  refine CW.seq <| CW.region <| RW.st (Ex.indexP (i := 0) ia52 rfl rfl (by decide)) rfl <| RW.st (Ex.load1 hM 0 to43 rfl rfl rfl) rfl ?_
  refine RW.callP hM (law47_small_lift x1.e0 hF1 hm) en20 rfl rfl rfl rfl ?_; rintro _ w H414 _ hle415 ⟨v413, hm, rfl, rfl⟩ hM
  replace hM : Mem w0 H w H414 [.box b4 52 [.slice A1 n1 c1, .slice A2 n2 c2]] := hM
  refine RW.st (Ex.not (p := v413 = true) (bvar _)) rfl <| RW.st (Ex.move (.bool (decide (¬ (v413 = true)))) rfl) rfl ?_
  refine RW.split 25 (p := ¬ (v413 = true)) rfl (fun hc416 => ?_) (fun hc416 => ?_)
  ·
   replace hm := And.left hm hc416
   refine RW.pass rfl rfl <| RW.pass rfl rfl <| RW.pass rfl rfl <| RW.pass rfl rfl <| RW.st (Ex.pickT (.bool true) rfl rfl) rfl <| RW.st (Ex.move (.bool true) rfl) rfl <| RW.pass rfl rfl <| RW.pass rfl rfl <| RW.pass rfl rfl <| RW.st (Ex.pickT (.bool true) rfl rfl) rfl <| RW.nil <| CW.cond_true rfl <| CW.seq <| CW.region ?_
   refine RW.callP hM (law47_awake_lift (hT.mono hle415) hm) en11 rfl rfl rfl rfl ?_; rintro _ w H418 _ hle419 ⟨v417, hm, rfl, rfl⟩ hM
   replace hM : Mem w0 H w H418 [.box b4 52 [.slice A1 n1 c1, .slice A2 n2 c2]] := hM
   refine RW.st (Ex.assign (.bool v417) rfl) rfl <| RW.nil <| CW.ret ?_
   refine thenQ_ret ?_
   refine end_tmp (.inl rfl) rfl (.bool v417) rfl ?_
   exact ⟨_, _, (hM.pick [] rfl rfl), v417, hm, rfl, rfl⟩
  ·
   replace hm := And.right hm hc416
   refine RW.st (Ex.indexP (i := 1) ia52 rfl rfl (by decide)) rfl <| RW.st (Ex.load1 hM 0 to43 rfl rfl rfl) rfl ?_
   refine RW.callP hM (law47_small_lift x1.e1 (hF2.mono hle415) hm) en20 rfl rfl rfl rfl ?_; rintro _ w H421 _ hle422 ⟨v420, hm, rfl, rfl⟩ hM
   replace hM : Mem w0 H w H421 [.box b4 52 [.slice A1 n1 c1, .slice A2 n2 c2]] := hM
   refine RW.st (Ex.not (p := v420 = true) (bvar _)) rfl <| RW.st (Ex.pickF (.bool (decide (¬ (v420 = true)))) rfl rfl) rfl <| RW.st (Ex.move (.bool (decide (¬ (v420 = true)))) rfl) rfl ?_
   refine RW.split 31 (p := ¬ (v420 = true)) rfl (fun hc423 => ?_) (fun hc423 => ?_)
   ·
    replace hm := And.left hm hc423
    refine RW.pass rfl rfl <| RW.pass rfl rfl <| RW.pass rfl rfl <| RW.st (Ex.pickT (.bool true) rfl rfl) rfl <| RW.nil <| CW.cond_true rfl <| CW.seq <| CW.region ?_
    refine RW.callP hM (law47_awake_lift (hT.mono (hle415.trans hle422)) hm) en11 rfl rfl rfl rfl ?_; rintro _ w H425 _ hle426 ⟨v424, hm, rfl, rfl⟩ hM
    replace hM : Mem w0 H w H425 [.box b4 52 [.slice A1 n1 c1, .slice A2 n2 c2]] := hM
    refine RW.st (Ex.assign (.bool v424) rfl) rfl <| RW.nil <| CW.ret ?_
    refine thenQ_ret ?_
    refine end_tmp (.inl rfl) rfl (.bool v424) rfl ?_
    exact ⟨_, _, (hM.pick [] rfl rfl), v424, hm, rfl, rfl⟩
   ·
    replace hm := And.right hm hc423
    refine RW.st (Ex.move (.slice A3 n3 c3) rfl) rfl <| RW.st (Ex.lenN st61.1 rfl hF3.hn) rfl <| RW.st (Ex.gtr rfl rfl) rfl <| RW.st (Ex.pickF (.bool (decide (20 < (x2.length : Int)))) rfl rfl) rfl <| RW.nil ?_
    refine CW.cond_dec (p := 20 < (x2.length : Int)) rfl (fun hc427 => ?_) (fun hc427 => ?_)
    ·
     replace hm := And.left hm hc427
     refine CW.seq <| CW.region ?_
     refine RW.callP hM (law47_awake_lift (hT.mono (hle415.trans hle422)) hm) en11 rfl rfl rfl rfl ?_; rintro _ w H429 _ hle430 ⟨v428, hm, rfl, rfl⟩ hM
     replace hM : Mem w0 H w H429 [.box b4 52 [.slice A1 n1 c1, .slice A2 n2 c2]] := hM
     refine RW.st (Ex.assign (.bool v428) rfl) rfl <| RW.nil <| CW.ret ?_
     refine thenQ_ret ?_
     refine end_tmp (.inl rfl) rfl (.bool v428) rfl ?_
     exact ⟨_, _, (hM.pick [] rfl rfl), v428, hm, rfl, rfl⟩
    ·
     replace hm := And.right hm hc427
     refine CW.skip ?_
     exact And.intro rfl ⟨H421, (hle415.trans hle422), sl_canon ⟨rfl, rfl, rfl, trivial⟩, hM, hm⟩
 rintro _ _ w ⟨rfl, Hk5, hle6, ⟨τ, rfl⟩, hM, hm⟩
 refine CW.seq ?_
 obtain ⟨v7, hW8, hm⟩ := hm
 obtain ⟨v13, hW14, hm⟩ := hm
 refine CW.drawL 14 [] [(fun Hq us E => us = [u8 (x0)] ∧ E = [] ∧ True), (fun Hq us E => ∃ (A9 : Option Addr), ∃ (n9 : Nat), ∃ (c9 : Nat), ∃ (s9 : List Value), us = [.slice A9 n9 c9] ∧ E = [] ∧ Fz (α := List Sec) Hq A9 n9 c9 v7 s9 ∧ True), (fun Hq us E => us = [.pointer (some ⟨b4, 0, none⟩)] ∧ E = [] ∧ True), (fun Hq us E => us = [.slice A1 n1 c1] ∧ E = [] ∧ True), (fun Hq us E => us = [.pointer (some ⟨b4, 1, none⟩)] ∧ E = [] ∧ True), (fun Hq us E => us = [.slice A2 n2 c2] ∧ E = [] ∧ True), (fun Hq us E => ∃ (A15 : Option Addr), ∃ (n15 : Nat), ∃ (c15 : Nat), ∃ (s15 : List Value), ∃ (A16 : Option Addr), ∃ (n16 : Nat), ∃ (c16 : Nat), ∃ (s16 : List Value), ∃ (A17 : Option Addr), ∃ (n17 : Nat), ∃ (c17 : Nat), ∃ (s17 : List Value), ∃ (A20 : Option Addr), ∃ (n20 : Nat), ∃ (c20 : Nat), ∃ (s20 : List Value), ∃ (A21 : Option Addr), ∃ (n21 : Nat), ∃ (c21 : Nat), ∃ (s21 : List Value), ∃ (A22 : Option Addr), ∃ (n22 : Nat), ∃ (c22 : Nat), ∃ (s22 : List Value), us = [.tuple #[.agg #[.int .i64 v13.1.Site, .slice A15 n15 c15, .slice A16 n16 c16, .slice A17 n17 c17], .agg #[.int .i64 v13.2.Site, .slice A20 n20 c20, .slice A21 n21 c21, .slice A22 n22 c22]]] ∧ E = [] ∧ Fz (α := api_Span) Hq A15 n15 c15 v13.1.Lineage s15 ∧ Fz (α := List Sec) Hq A17 n17 c17 v13.1.Image s17 ∧ Fz (α := api_Span) Hq A20 n20 c20 v13.2.Lineage s20 ∧ Fz (α := List Sec) Hq A22 n22 c22 v13.2.Image s22 ∧ Fz (α := api_Bitmap) Hq A16 n16 c16 v13.1.Dirty s16 ∧ Fz (α := api_Bitmap) Hq A21 n21 c21 v13.2.Dirty s21 ∧ True), (fun Hq us E => ∃ (A15 : Option Addr), ∃ (n15 : Nat), ∃ (c15 : Nat), ∃ (s15 : List Value), ∃ (A16 : Option Addr), ∃ (n16 : Nat), ∃ (c16 : Nat), ∃ (s16 : List Value), ∃ (A17 : Option Addr), ∃ (n17 : Nat), ∃ (c17 : Nat), ∃ (s17 : List Value), ∃ (A20 : Option Addr), ∃ (n20 : Nat), ∃ (c20 : Nat), ∃ (s20 : List Value), ∃ (A21 : Option Addr), ∃ (n21 : Nat), ∃ (c21 : Nat), ∃ (s21 : List Value), ∃ (A22 : Option Addr), ∃ (n22 : Nat), ∃ (c22 : Nat), ∃ (s22 : List Value), us = [.tuple #[.agg #[.int .i64 v13.1.Site, .slice A15 n15 c15, .slice A16 n16 c16, .slice A17 n17 c17], .agg #[.int .i64 v13.2.Site, .slice A20 n20 c20, .slice A21 n21 c21, .slice A22 n22 c22]], .tuple #[.agg #[.int .i64 v13.1.Site, .slice A15 n15 c15, .slice A16 n16 c16, .slice A17 n17 c17], .agg #[.int .i64 v13.2.Site, .slice A20 n20 c20, .slice A21 n21 c21, .slice A22 n22 c22]]] ∧ E = [] ∧ Fz (α := api_Span) Hq A15 n15 c15 v13.1.Lineage s15 ∧ Fz (α := api_Bitmap) Hq A16 n16 c16 v13.1.Dirty s16 ∧ Fz (α := List Sec) Hq A17 n17 c17 v13.1.Image s17 ∧ Fz (α := api_Span) Hq A20 n20 c20 v13.2.Lineage s20 ∧ Fz (α := api_Bitmap) Hq A21 n21 c21 v13.2.Dirty s21 ∧ Fz (α := List Sec) Hq A22 n22 c22 v13.2.Image s22 ∧ True), (fun Hq us E => ∃ (A15 : Option Addr), ∃ (n15 : Nat), ∃ (c15 : Nat), ∃ (s15 : List Value), ∃ (A16 : Option Addr), ∃ (n16 : Nat), ∃ (c16 : Nat), ∃ (s16 : List Value), ∃ (A17 : Option Addr), ∃ (n17 : Nat), ∃ (c17 : Nat), ∃ (s17 : List Value), ∃ (A20 : Option Addr), ∃ (n20 : Nat), ∃ (c20 : Nat), ∃ (s20 : List Value), ∃ (A21 : Option Addr), ∃ (n21 : Nat), ∃ (c21 : Nat), ∃ (s21 : List Value), ∃ (A22 : Option Addr), ∃ (n22 : Nat), ∃ (c22 : Nat), ∃ (s22 : List Value), us = [.tuple #[.agg #[.int .i64 v13.1.Site, .slice A15 n15 c15, .slice A16 n16 c16, .slice A17 n17 c17], .agg #[.int .i64 v13.2.Site, .slice A20 n20 c20, .slice A21 n21 c21, .slice A22 n22 c22]], .agg #[.int .i64 v13.1.Site, .slice A15 n15 c15, .slice A16 n16 c16, .slice A17 n17 c17]] ∧ E = [] ∧ Fz (α := api_Span) Hq A15 n15 c15 v13.1.Lineage s15 ∧ Fz (α := api_Bitmap) Hq A16 n16 c16 v13.1.Dirty s16 ∧ Fz (α := List Sec) Hq A17 n17 c17 v13.1.Image s17 ∧ Fz (α := api_Span) Hq A20 n20 c20 v13.2.Lineage s20 ∧ Fz (α := api_Bitmap) Hq A21 n21 c21 v13.2.Dirty s21 ∧ Fz (α := List Sec) Hq A22 n22 c22 v13.2.Image s22 ∧ True), (fun Hq us E => ∃ (A15 : Option Addr), ∃ (n15 : Nat), ∃ (c15 : Nat), ∃ (s15 : List Value), ∃ (A16 : Option Addr), ∃ (n16 : Nat), ∃ (c16 : Nat), ∃ (s16 : List Value), ∃ (A17 : Option Addr), ∃ (n17 : Nat), ∃ (c17 : Nat), ∃ (s17 : List Value), ∃ (A20 : Option Addr), ∃ (n20 : Nat), ∃ (c20 : Nat), ∃ (s20 : List Value), ∃ (A21 : Option Addr), ∃ (n21 : Nat), ∃ (c21 : Nat), ∃ (s21 : List Value), ∃ (A22 : Option Addr), ∃ (n22 : Nat), ∃ (c22 : Nat), ∃ (s22 : List Value), us = [.tuple #[.agg #[.int .i64 v13.1.Site, .slice A15 n15 c15, .slice A16 n16 c16, .slice A17 n17 c17], .agg #[.int .i64 v13.2.Site, .slice A20 n20 c20, .slice A21 n21 c21, .slice A22 n22 c22]], .agg #[.int .i64 v13.2.Site, .slice A20 n20 c20, .slice A21 n21 c21, .slice A22 n22 c22]] ∧ E = [] ∧ Fz (α := api_Span) Hq A15 n15 c15 v13.1.Lineage s15 ∧ Fz (α := api_Bitmap) Hq A16 n16 c16 v13.1.Dirty s16 ∧ Fz (α := List Sec) Hq A17 n17 c17 v13.1.Image s17 ∧ Fz (α := api_Span) Hq A20 n20 c20 v13.2.Lineage s20 ∧ Fz (α := api_Bitmap) Hq A21 n21 c21 v13.2.Dirty s21 ∧ Fz (α := List Sec) Hq A22 n22 c22 v13.2.Image s22 ∧ True), (fun Hq us E => ∃ (b27 : Nat), us = [.pointer (some ⟨b27, 0, none⟩)] ∧ E = [.box b27 27 [.int .i64 0, .slice none 0 0, .slice none 0 0, .slice none 0 0]] ∧ True), (fun Hq us E => ∃ (b28 : Nat), us = [.pointer (some ⟨b28, 0, none⟩)] ∧ E = [.box b28 27 [.int .i64 0, .slice none 0 0, .slice none 0 0, .slice none 0 0]] ∧ True), (fun Hq us E => ∃ (A15 : Option Addr), ∃ (n15 : Nat), ∃ (c15 : Nat), ∃ (s15 : List Value), ∃ (A16 : Option Addr), ∃ (n16 : Nat), ∃ (c16 : Nat), ∃ (s16 : List Value), ∃ (A17 : Option Addr), ∃ (n17 : Nat), ∃ (c17 : Nat), ∃ (s17 : List Value), ∃ (b27 : Nat), us = [.agg #[.int .i64 v13.1.Site, .slice A15 n15 c15, .slice A16 n16 c16, .slice A17 n17 c17], .pointer (some ⟨b27, 0, none⟩)] ∧ E = [.box b27 27 [.int .i64 v13.1.Site, .slice A15 n15 c15, .slice A16 n16 c16, .slice A17 n17 c17]] ∧ Fz (α := api_Span) Hq A15 n15 c15 v13.1.Lineage s15 ∧ Fz (α := api_Bitmap) Hq A16 n16 c16 v13.1.Dirty s16 ∧ Fz (α := List Sec) Hq A17 n17 c17 v13.1.Image s17 ∧ True), (fun Hq us E => ∃ (A20 : Option Addr), ∃ (n20 : Nat), ∃ (c20 : Nat), ∃ (s20 : List Value), ∃ (A21 : Option Addr), ∃ (n21 : Nat), ∃ (c21 : Nat), ∃ (s21 : List Value), ∃ (A22 : Option Addr), ∃ (n22 : Nat), ∃ (c22 : Nat), ∃ (s22 : List Value), ∃ (b28 : Nat), us = [.agg #[.int .i64 v13.2.Site, .slice A20 n20 c20, .slice A21 n21 c21, .slice A22 n22 c22], .pointer (some ⟨b28, 0, none⟩)] ∧ E = [.box b28 27 [.int .i64 v13.2.Site, .slice A20 n20 c20, .slice A21 n21 c21, .slice A22 n22 c22]] ∧ Fz (α := api_Span) Hq A20 n20 c20 v13.2.Lineage s20 ∧ Fz (α := api_Bitmap) Hq A21 n21 c21 v13.2.Dirty s21 ∧ Fz (α := List Sec) Hq A22 n22 c22 v13.2.Image s22 ∧ True)]
  (fun k => [[0], [1], [2], [3], [4], [5], [6], [6, 7], [7, 8], [7, 9], [10], [11], [8, 10], [9, 11]].getD k []) (fun k => [none, none, none, none, none, none, none, none, none, none, none, none, some 10, some 11].getD k none) (by kernel_rfl) hM (by kernel_rfl) (by kernel_rfl) (by kernel_rfl) rfl (by simp only [List.forall_mem_cons]; exact ⟨fun _ _ _ _ hle ⟨e1, e2, _⟩ => ⟨e1, e2, trivial⟩, fun _ _ _ _ hle ⟨A9, n9, c9, s9, e1, e2, hF12, _⟩ => ⟨A9, n9, c9, s9, e1, e2, hF12.mono hle, trivial⟩, fun _ _ _ _ hle ⟨e1, e2, _⟩ => ⟨e1, e2, trivial⟩, fun _ _ _ _ hle ⟨e1, e2, _⟩ => ⟨e1, e2, trivial⟩, fun _ _ _ _ hle ⟨e1, e2, _⟩ => ⟨e1, e2, trivial⟩, fun _ _ _ _ hle ⟨e1, e2, _⟩ => ⟨e1, e2, trivial⟩, fun _ _ _ _ hle ⟨A15, n15, c15, s15, A16, n16, c16, s16, A17, n17, c17, s17, A20, n20, c20, s20, A21, n21, c21, s21, A22, n22, c22, s22, e1, e2, hF15, hF17, hF20, hF22, hF25, hF26, _⟩ => ⟨A15, n15, c15, s15, A16, n16, c16, s16, A17, n17, c17, s17, A20, n20, c20, s20, A21, n21, c21, s21, A22, n22, c22, s22, e1, e2, hF15.mono hle, hF17.mono hle, hF20.mono hle, hF22.mono hle, hF25.mono hle, hF26.mono hle, trivial⟩, fun _ _ _ _ hle ⟨A15, n15, c15, s15, A16, n16, c16, s16, A17, n17, c17, s17, A20, n20, c20, s20, A21, n21, c21, s21, A22, n22, c22, s22, e1, e2, hF15, hF25, hF17, hF20, hF26, hF22, _⟩ => ⟨A15, n15, c15, s15, A16, n16, c16, s16, A17, n17, c17, s17, A20, n20, c20, s20, A21, n21, c21, s21, A22, n22, c22, s22, e1, e2, hF15.mono hle, hF25.mono hle, hF17.mono hle, hF20.mono hle, hF26.mono hle, hF22.mono hle, trivial⟩, fun _ _ _ _ hle ⟨A15, n15, c15, s15, A16, n16, c16, s16, A17, n17, c17, s17, A20, n20, c20, s20, A21, n21, c21, s21, A22, n22, c22, s22, e1, e2, hF15, hF25, hF17, hF20, hF26, hF22, _⟩ => ⟨A15, n15, c15, s15, A16, n16, c16, s16, A17, n17, c17, s17, A20, n20, c20, s20, A21, n21, c21, s21, A22, n22, c22, s22, e1, e2, hF15.mono hle, hF25.mono hle, hF17.mono hle, hF20.mono hle, hF26.mono hle, hF22.mono hle, trivial⟩, fun _ _ _ _ hle ⟨A15, n15, c15, s15, A16, n16, c16, s16, A17, n17, c17, s17, A20, n20, c20, s20, A21, n21, c21, s21, A22, n22, c22, s22, e1, e2, hF15, hF25, hF17, hF20, hF26, hF22, _⟩ => ⟨A15, n15, c15, s15, A16, n16, c16, s16, A17, n17, c17, s17, A20, n20, c20, s20, A21, n21, c21, s21, A22, n22, c22, s22, e1, e2, hF15.mono hle, hF25.mono hle, hF17.mono hle, hF20.mono hle, hF26.mono hle, hF22.mono hle, trivial⟩, fun _ _ _ _ hle ⟨b27, e1, e2, _⟩ => ⟨b27, e1, e2, trivial⟩, fun _ _ _ _ hle ⟨b28, e1, e2, _⟩ => ⟨b28, e1, e2, trivial⟩, fun _ _ _ _ hle ⟨A15, n15, c15, s15, A16, n16, c16, s16, A17, n17, c17, s17, b27, e1, e2, hF15, hF25, hF17, _⟩ => ⟨A15, n15, c15, s15, A16, n16, c16, s16, A17, n17, c17, s17, b27, e1, e2, hF15.mono hle, hF25.mono hle, hF17.mono hle, trivial⟩, fun _ _ _ _ hle ⟨A20, n20, c20, s20, A21, n21, c21, s21, A22, n22, c22, s22, b28, e1, e2, hF20, hF26, hF22, _⟩ => ⟨A20, n20, c20, s20, A21, n21, c21, s21, A22, n22, c22, s22, b28, e1, e2, hF20.mono hle, hF26.mono hle, hF22.mono hle, trivial⟩, by simp⟩) ⟨?_, ?_, ?_, ?_, ?_, ?_, ?_, ?_, ?_, ?_, ?_, ?_, ?_, ?_, trivial⟩ ?_
 ·
  intro H' σ' w R E hle hMR hE0 hE hp hf
  obtain rfl := hE0 rfl
  obtain ⟨τ, rfl⟩ := sl_canon (σ := σ') (l := [(0, u8 (x0))]) ⟨(hf 0 (by kernel_rfl)).trans rfl, trivial⟩
  have hM := Mem.subR (R := R) hMR
  exact RW.step (Ex.move (u8 (x0)) rfl) rfl rfl rfl (RW.nil ⟨rfl, rfl, _, rfl, H', [], Hp.le.refl _, hMR, rfl, rfl, trivial⟩)
 ·
  intro H' σ' w R E hle hMR hE0 hE hp hf
  obtain rfl := hE0 rfl
  obtain ⟨_, hg⟩ := hp 0 (by decide) (by kernel_rfl)
  obtain ⟨e29, _, _⟩ := hg.get rfl
  have e30 : σ' 38 = u8 (x0) := (List.cons.inj e29).1
  obtain ⟨τ, rfl⟩ := sl_canon (σ := σ') (l := [(38, u8 (x0))]) ⟨e30, trivial⟩
  have hM := Mem.subR (R := R) hMR
  refine RW.callP hMR (law47_image_lift x0 hW8) en22 rfl rfl rfl rfl ?_; rintro _ w H9 _ hle9 ⟨_, rfl, A9, n9, c9, s9, rfl, hd10, hn11, rfl⟩ hMR
  obtain ⟨H90, hMR, hle90, hF12⟩ := hMR.giveF (α := List Sec) 0 rfl hd10 hn11
  exact RW.nil ⟨rfl, rfl, _, rfl, H90, [], (hle9.trans hle90), hMR, A9, n9, c9, s9, rfl, rfl, hF12, trivial⟩
 ·
  intro H' σ' w R E hle hMR hE0 hE hp hf
  obtain rfl := hE0 rfl
  obtain ⟨τ, rfl⟩ := sl_canon (σ := σ') (l := [(4, .pointer (some ⟨b4, 0, none⟩))]) ⟨(hf 4 (by kernel_rfl)).trans rfl, trivial⟩
  have hM := Mem.subR (R := R) hMR
  exact RW.step (Ex.indexP (i := 0) ia52 rfl rfl (by decide)) rfl rfl rfl (RW.nil ⟨rfl, rfl, _, rfl, H', [], Hp.le.refl _, hMR, rfl, rfl, trivial⟩)
 ·
  intro H' σ' w R E hle hMR hE0 hE hp hf
  obtain rfl := hE0 rfl
  obtain ⟨_, hg⟩ := hp 2 (by decide) (by kernel_rfl)
  obtain ⟨e31, _, _⟩ := hg.get rfl
  have e32 : σ' 40 = .pointer (some ⟨b4, 0, none⟩) := (List.cons.inj e31).1
  obtain ⟨τ, rfl⟩ := sl_canon (σ := σ') (l := [(40, .pointer (some ⟨b4, 0, none⟩))]) ⟨e32, trivial⟩
  have hM := Mem.subR (R := R) hMR
  exact RW.step (Ex.load1 hM 0 to43 rfl rfl rfl) rfl rfl rfl (RW.nil ⟨rfl, rfl, _, rfl, H', [], Hp.le.refl _, hMR, rfl, rfl, trivial⟩)
 ·
  intro H' σ' w R E hle hMR hE0 hE hp hf
  obtain rfl := hE0 rfl
  obtain ⟨τ, rfl⟩ := sl_canon (σ := σ') (l := [(4, .pointer (some ⟨b4, 0, none⟩))]) ⟨(hf 4 (by kernel_rfl)).trans rfl, trivial⟩
  have hM := Mem.subR (R := R) hMR
  exact RW.step (Ex.indexP (i := 1) ia52 rfl rfl (by decide)) rfl rfl rfl (RW.nil ⟨rfl, rfl, _, rfl, H', [], Hp.le.refl _, hMR, rfl, rfl, trivial⟩)
 ·
  intro H' σ' w R E hle hMR hE0 hE hp hf
  obtain rfl := hE0 rfl
  obtain ⟨_, hg⟩ := hp 4 (by decide) (by kernel_rfl)
  obtain ⟨e33, _, _⟩ := hg.get rfl
  have e34 : σ' 42 = .pointer (some ⟨b4, 1, none⟩) := (List.cons.inj e33).1
  obtain ⟨τ, rfl⟩ := sl_canon (σ := σ') (l := [(42, .pointer (some ⟨b4, 1, none⟩))]) ⟨e34, trivial⟩
  have hM := Mem.subR (R := R) hMR
  exact RW.step (Ex.load1 hM 0 to43 rfl rfl rfl) rfl rfl rfl (RW.nil ⟨rfl, rfl, _, rfl, H', [], Hp.le.refl _, hMR, rfl, rfl, trivial⟩)
 ·
  intro H' σ' w R E hle hMR hE0 hE hp hf
  obtain rfl := hE0 rfl
  obtain ⟨_, hg⟩ := hp 1 (by decide) (by kernel_rfl)
  obtain ⟨A9, n9, c9, s9, e35, _, hF12, _⟩ := hg.get rfl
  have e36 : σ' 39 = .slice A9 n9 c9 := (List.cons.inj e35).1
  obtain ⟨_, hg⟩ := hp 3 (by decide) (by kernel_rfl)
  obtain ⟨e37, _, _⟩ := hg.get rfl
  have e38 : σ' 41 = .slice A1 n1 c1 := (List.cons.inj e37).1
  obtain ⟨_, hg⟩ := hp 5 (by decide) (by kernel_rfl)
  obtain ⟨e39, _, _⟩ := hg.get rfl
  have e40 : σ' 43 = .slice A2 n2 c2 := (List.cons.inj e39).1
  obtain ⟨τ, rfl⟩ := sl_canon (σ := σ') (l := [(39, .slice A9 n9 c9), (41, .slice A1 n1 c1), (43, .slice A2 n2 c2)]) ⟨e36, e38, e40, trivial⟩
  have hM := Mem.subR (R := R) hMR
  refine RW.callP hMR (law47_sides_lift v7 x1.e0 x1.e1 (2#8) hF12 (hF1.mono (hle6.trans hle)) (hF2.mono (hle6.trans hle)) hW14) en21 rfl rfl rfl rfl ?_; rintro _ w H9 _ hle9 ⟨_, rfl, A15, n15, c15, s15, A16, n16, c16, s16, A17, n17, c17, s17, A20, n20, c20, s20, A21, n21, c21, s21, A22, n22, c22, s22, rfl, hF15, hd18, hn19, hF17, hF20, hd23, hn24, hF22, rfl⟩ hMR
  obtain ⟨H90, hMR, hle90, hF25⟩ := hMR.giveF (α := api_Bitmap) 0 rfl hd18 hn19
  replace hF15 := hF15.mono hle90
  replace hF17 := hF17.mono hle90
  replace hF20 := hF20.mono hle90
  replace hF22 := hF22.mono hle90
  obtain ⟨H91, hMR, hle91, hF26⟩ := hMR.giveF (α := api_Bitmap) 0 rfl (hd23.mono hle90) hn24
  replace hF15 := hF15.mono hle91
  replace hF17 := hF17.mono hle91
  replace hF20 := hF20.mono hle91
  replace hF22 := hF22.mono hle91
  replace hF25 := hF25.mono hle91
  exact RW.nil ⟨rfl, rfl, _, rfl, H91, [], ((hle9.trans hle90).trans hle91), hMR, A15, n15, c15, s15, A16, n16, c16, s16, A17, n17, c17, s17, A20, n20, c20, s20, A21, n21, c21, s21, A22, n22, c22, s22, rfl, rfl, hF15, hF17, hF20, hF22, hF25, hF26, trivial⟩
 ·
  intro H' σ' w R E hle hMR hE0 hE hp hf
  obtain rfl := hE0 rfl
  obtain ⟨_, hg⟩ := hp 6 (by decide) (by kernel_rfl)
  obtain ⟨A15, n15, c15, s15, A16, n16, c16, s16, A17, n17, c17, s17, A20, n20, c20, s20, A21, n21, c21, s21, A22, n22, c22, s22, e41, _, hF15, hF17, hF20, hF22, hF25, hF26, _⟩ := hg.get rfl
  have e42 : σ' 44 = .tuple #[.agg #[.int .i64 v13.1.Site, .slice A15 n15 c15, .slice A16 n16 c16, .slice A17 n17 c17], .agg #[.int .i64 v13.2.Site, .slice A20 n20 c20, .slice A21 n21 c21, .slice A22 n22 c22]] := (List.cons.inj e41).1
  obtain ⟨τ, rfl⟩ := sl_canon (σ := σ') (l := [(44, .tuple #[.agg #[.int .i64 v13.1.Site, .slice A15 n15 c15, .slice A16 n16 c16, .slice A17 n17 c17], .agg #[.int .i64 v13.2.Site, .slice A20 n20 c20, .slice A21 n21 c21, .slice A22 n22 c22]])]) ⟨e42, trivial⟩
  have hM := Mem.subR (R := R) hMR
  exact RW.step (Ex.move (.tuple #[.agg #[.int .i64 v13.1.Site, .slice A15 n15 c15, .slice A16 n16 c16, .slice A17 n17 c17], .agg #[.int .i64 v13.2.Site, .slice A20 n20 c20, .slice A21 n21 c21, .slice A22 n22 c22]]) rfl) rfl rfl rfl (RW.nil ⟨rfl, rfl, _, rfl, H', [], Hp.le.refl _, hMR, A15, n15, c15, s15, A16, n16, c16, s16, A17, n17, c17, s17, A20, n20, c20, s20, A21, n21, c21, s21, A22, n22, c22, s22, rfl, rfl, hF15, hF25, hF17, hF20, hF26, hF22, trivial⟩)
 ·
  intro H' σ' w R E hle hMR hE0 hE hp hf
  obtain rfl := hE0 rfl
  obtain ⟨_, hg⟩ := hp 7 (by decide) (by kernel_rfl)
  obtain ⟨A15, n15, c15, s15, A16, n16, c16, s16, A17, n17, c17, s17, A20, n20, c20, s20, A21, n21, c21, s21, A22, n22, c22, s22, e43, _, hF15, hF25, hF17, hF20, hF26, hF22, _⟩ := hg.get rfl
  have e44 : σ' 44 = .tuple #[.agg #[.int .i64 v13.1.Site, .slice A15 n15 c15, .slice A16 n16 c16, .slice A17 n17 c17], .agg #[.int .i64 v13.2.Site, .slice A20 n20 c20, .slice A21 n21 c21, .slice A22 n22 c22]] := (List.cons.inj e43).1
  have e45 : σ' 37 = .tuple #[.agg #[.int .i64 v13.1.Site, .slice A15 n15 c15, .slice A16 n16 c16, .slice A17 n17 c17], .agg #[.int .i64 v13.2.Site, .slice A20 n20 c20, .slice A21 n21 c21, .slice A22 n22 c22]] := (List.cons.inj (List.cons.inj e43).2).1
  obtain ⟨τ, rfl⟩ := sl_canon (σ := σ') (l := [(37, .tuple #[.agg #[.int .i64 v13.1.Site, .slice A15 n15 c15, .slice A16 n16 c16, .slice A17 n17 c17], .agg #[.int .i64 v13.2.Site, .slice A20 n20 c20, .slice A21 n21 c21, .slice A22 n22 c22]])]) ⟨e45, trivial⟩
  have hM := Mem.subR (R := R) hMR
  exact RW.step (Ex.extract rfl rfl) rfl rfl rfl (RW.nil ⟨rfl, rfl, _, rfl, H', [], Hp.le.refl _, hMR, A15, n15, c15, s15, A16, n16, c16, s16, A17, n17, c17, s17, A20, n20, c20, s20, A21, n21, c21, s21, A22, n22, c22, s22, rfl, rfl, hF15, hF25, hF17, hF20, hF26, hF22, trivial⟩)
 ·
  intro H' σ' w R E hle hMR hE0 hE hp hf
  obtain rfl := hE0 rfl
  obtain ⟨_, hg⟩ := hp 7 (by decide) (by kernel_rfl)
  obtain ⟨A15, n15, c15, s15, A16, n16, c16, s16, A17, n17, c17, s17, A20, n20, c20, s20, A21, n21, c21, s21, A22, n22, c22, s22, e46, _, hF15, hF25, hF17, hF20, hF26, hF22, _⟩ := hg.get rfl
  have e47 : σ' 44 = .tuple #[.agg #[.int .i64 v13.1.Site, .slice A15 n15 c15, .slice A16 n16 c16, .slice A17 n17 c17], .agg #[.int .i64 v13.2.Site, .slice A20 n20 c20, .slice A21 n21 c21, .slice A22 n22 c22]] := (List.cons.inj e46).1
  have e48 : σ' 37 = .tuple #[.agg #[.int .i64 v13.1.Site, .slice A15 n15 c15, .slice A16 n16 c16, .slice A17 n17 c17], .agg #[.int .i64 v13.2.Site, .slice A20 n20 c20, .slice A21 n21 c21, .slice A22 n22 c22]] := (List.cons.inj (List.cons.inj e46).2).1
  obtain ⟨τ, rfl⟩ := sl_canon (σ := σ') (l := [(37, .tuple #[.agg #[.int .i64 v13.1.Site, .slice A15 n15 c15, .slice A16 n16 c16, .slice A17 n17 c17], .agg #[.int .i64 v13.2.Site, .slice A20 n20 c20, .slice A21 n21 c21, .slice A22 n22 c22]])]) ⟨e48, trivial⟩
  have hM := Mem.subR (R := R) hMR
  exact RW.step (Ex.extract rfl rfl) rfl rfl rfl (RW.nil ⟨rfl, rfl, _, rfl, H', [], Hp.le.refl _, hMR, A15, n15, c15, s15, A16, n16, c16, s16, A17, n17, c17, s17, A20, n20, c20, s20, A21, n21, c21, s21, A22, n22, c22, s22, rfl, rfl, hF15, hF25, hF17, hF20, hF26, hF22, trivial⟩)
 ·
  intro H' σ' w R E hle hMR hE0 hE hp hf
  obtain rfl := hE0 rfl
  obtain ⟨τ, rfl⟩ := sl_canon (σ := σ') (l := []) trivial
  have hM := Mem.subR (R := R) hMR
  refine RW.alloc hMR tz27 [.int .i64 0, .slice none 0 0, .slice none 0 0, .slice none 0 0] rfl rfl rfl ?_; intro b27 w hMR
  exact RW.nil ⟨rfl, rfl, _, rfl, H', [.box b27 27 [.int .i64 0, .slice none 0 0, .slice none 0 0, .slice none 0 0]], Hp.le.refl _, hMR, b27, rfl, rfl, trivial⟩
 ·
  intro H' σ' w R E hle hMR hE0 hE hp hf
  obtain rfl := hE0 rfl
  obtain ⟨τ, rfl⟩ := sl_canon (σ := σ') (l := []) trivial
  have hM := Mem.subR (R := R) hMR
  refine RW.alloc hMR tz27 [.int .i64 0, .slice none 0 0, .slice none 0 0, .slice none 0 0] rfl rfl rfl ?_; intro b28 w hMR
  exact RW.nil ⟨rfl, rfl, _, rfl, H', [.box b28 27 [.int .i64 0, .slice none 0 0, .slice none 0 0, .slice none 0 0]], Hp.le.refl _, hMR, b28, rfl, rfl, trivial⟩
 ·
  intro H' σ' w R E hle hMR hE0 hE hp hf
  obtain ⟨b27, e49, rfl, _⟩ := (hE 10 rfl).get rfl
  have e50 : σ' 7 = .pointer (some ⟨b27, 0, none⟩) := (List.cons.inj e49).1
  obtain ⟨_, hg⟩ := hp 8 (by decide) (by kernel_rfl)
  obtain ⟨A15, n15, c15, s15, A16, n16, c16, s16, A17, n17, c17, s17, A20, n20, c20, s20, A21, n21, c21, s21, A22, n22, c22, s22, e51, _, hF15, hF25, hF17, hF20, hF26, hF22, _⟩ := hg.get rfl
  have e52 : σ' 37 = .tuple #[.agg #[.int .i64 v13.1.Site, .slice A15 n15 c15, .slice A16 n16 c16, .slice A17 n17 c17], .agg #[.int .i64 v13.2.Site, .slice A20 n20 c20, .slice A21 n21 c21, .slice A22 n22 c22]] := (List.cons.inj e51).1
  have e53 : σ' 45 = .agg #[.int .i64 v13.1.Site, .slice A15 n15 c15, .slice A16 n16 c16, .slice A17 n17 c17] := (List.cons.inj (List.cons.inj e51).2).1
  obtain ⟨τ, rfl⟩ := sl_canon (σ := σ') (l := [(45, .agg #[.int .i64 v13.1.Site, .slice A15 n15 c15, .slice A16 n16 c16, .slice A17 n17 c17]), (7, .pointer (some ⟨b27, 0, none⟩))]) ⟨e53, e50, trivial⟩
  refine RW.store hMR 0 (.agg #[.int .i64 v13.1.Site, .slice A15 n15 c15, .slice A16 n16 c16, .slice A17 n17 c17]) [.int .i64 v13.1.Site, .slice A15 n15 c15, .slice A16 n16 c16, .slice A17 n17 c17] [.int .i64 v13.1.Site, .slice A15 n15 c15, .slice A16 n16 c16, .slice A17 n17 c17] sz27 rfl rfl rfl (oneAll ⟨rfl, rfl, rfl, rfl, trivial⟩) rfl (Nat.le_of_ble_eq_true rfl) rfl (.box b27 27 [.int .i64 v13.1.Site, .slice A15 n15 c15, .slice A16 n16 c16, .slice A17 n17 c17] :: (R ++ [.box b4 52 [.slice A1 n1 c1, .slice A2 n2 c2]])) rfl rfl rfl ?_; intro w hMR
  exact RW.nil ⟨rfl, rfl, _, rfl, H', [.box b27 27 [.int .i64 v13.1.Site, .slice A15 n15 c15, .slice A16 n16 c16, .slice A17 n17 c17]], Hp.le.refl _, hMR, A15, n15, c15, s15, A16, n16, c16, s16, A17, n17, c17, s17, b27, rfl, rfl, hF15, hF25, hF17, trivial⟩
 ·
  intro H' σ' w R E hle hMR hE0 hE hp hf
  obtain ⟨b28, e54, rfl, _⟩ := (hE 11 rfl).get rfl
  have e55 : σ' 8 = .pointer (some ⟨b28, 0, none⟩) := (List.cons.inj e54).1
  obtain ⟨_, hg⟩ := hp 9 (by decide) (by kernel_rfl)
  obtain ⟨A15, n15, c15, s15, A16, n16, c16, s16, A17, n17, c17, s17, A20, n20, c20, s20, A21, n21, c21, s21, A22, n22, c22, s22, e56, _, hF15, hF25, hF17, hF20, hF26, hF22, _⟩ := hg.get rfl
  have e57 : σ' 37 = .tuple #[.agg #[.int .i64 v13.1.Site, .slice A15 n15 c15, .slice A16 n16 c16, .slice A17 n17 c17], .agg #[.int .i64 v13.2.Site, .slice A20 n20 c20, .slice A21 n21 c21, .slice A22 n22 c22]] := (List.cons.inj e56).1
  have e58 : σ' 46 = .agg #[.int .i64 v13.2.Site, .slice A20 n20 c20, .slice A21 n21 c21, .slice A22 n22 c22] := (List.cons.inj (List.cons.inj e56).2).1
  obtain ⟨τ, rfl⟩ := sl_canon (σ := σ') (l := [(46, .agg #[.int .i64 v13.2.Site, .slice A20 n20 c20, .slice A21 n21 c21, .slice A22 n22 c22]), (8, .pointer (some ⟨b28, 0, none⟩))]) ⟨e58, e55, trivial⟩
  refine RW.store hMR 0 (.agg #[.int .i64 v13.2.Site, .slice A20 n20 c20, .slice A21 n21 c21, .slice A22 n22 c22]) [.int .i64 v13.2.Site, .slice A20 n20 c20, .slice A21 n21 c21, .slice A22 n22 c22] [.int .i64 v13.2.Site, .slice A20 n20 c20, .slice A21 n21 c21, .slice A22 n22 c22] sz27 rfl rfl rfl (oneAll ⟨rfl, rfl, rfl, rfl, trivial⟩) rfl (Nat.le_of_ble_eq_true rfl) rfl (.box b28 27 [.int .i64 v13.2.Site, .slice A20 n20 c20, .slice A21 n21 c21, .slice A22 n22 c22] :: (R ++ [.box b4 52 [.slice A1 n1 c1, .slice A2 n2 c2]])) rfl rfl rfl ?_; intro w hMR
  exact RW.nil ⟨rfl, rfl, _, rfl, H', [.box b28 27 [.int .i64 v13.2.Site, .slice A20 n20 c20, .slice A21 n21 c21, .slice A22 n22 c22]], Hp.le.refl _, hMR, A20, n20, c20, s20, A21, n21, c21, s21, A22, n22, c22, s22, b28, rfl, rfl, hF20, hF26, hF22, trivial⟩
 ·
  intro H8 σ' w X miss hms hle8 hM hX hX0 hf
  simp [subs] at hms
  rcases hms with rfl
  ·
   obtain ⟨H59, hH8⟩ : ∃ x, x = H8 := ⟨_, rfl⟩
   subst hH8
   have hle60 := hle8
   obtain ⟨_, g0, y0⟩ := hX 0 (by decide) (by kernel_rfl)
   obtain ⟨_, rfl, _⟩ := g0.get rfl
   replace y0 : X 0 = [] := y0
   obtain ⟨_, g0, y1⟩ := hX 1 (by decide) (by kernel_rfl)
   obtain ⟨A9, n9, c9, s9, e61, rfl, hF12, _⟩ := g0.get rfl
   have e62 : σ' 39 = .slice A9 n9 c9 := (List.cons.inj e61).1
   replace y1 : X 1 = [] := y1
   obtain ⟨_, g0, y2⟩ := hX 2 (by decide) (by kernel_rfl)
   obtain ⟨_, rfl, _⟩ := g0.get rfl
   replace y2 : X 2 = [] := y2
   obtain ⟨_, g0, y3⟩ := hX 3 (by decide) (by kernel_rfl)
   obtain ⟨_, rfl, _⟩ := g0.get rfl
   replace y3 : X 3 = [] := y3
   obtain ⟨_, g0, y4⟩ := hX 4 (by decide) (by kernel_rfl)
   obtain ⟨_, rfl, _⟩ := g0.get rfl
   replace y4 : X 4 = [] := y4
   obtain ⟨_, g0, y5⟩ := hX 5 (by decide) (by kernel_rfl)
   obtain ⟨_, rfl, _⟩ := g0.get rfl
   replace y5 : X 5 = [] := y5
   obtain ⟨_, g0, y6⟩ := hX 6 (by decide) (by kernel_rfl)
   obtain ⟨A15, n15, c15, s15, A16, n16, c16, s16, A17, n17, c17, s17, A20, n20, c20, s20, A21, n21, c21, s21, A22, n22, c22, s22, e63, rfl, hF15, hF17, hF20, hF22, hF25, hF26, _⟩ := g0.get rfl
   have e64 : σ' 44 = .tuple #[.agg #[.int .i64 v13.1.Site, .slice A15 n15 c15, .slice A16 n16 c16, .slice A17 n17 c17], .agg #[.int .i64 v13.2.Site, .slice A20 n20 c20, .slice A21 n21 c21, .slice A22 n22 c22]] := (List.cons.inj e63).1
   replace y6 : X 6 = [] := y6
   obtain ⟨_, g0, y7⟩ := hX 7 (by decide) (by kernel_rfl)
   obtain ⟨A15q, n15q, c15q, s15q, A16q, n16q, c16q, s16q, A17q, n17q, c17q, s17q, A20q, n20q, c20q, s20q, A21q, n21q, c21q, s21q, A22q, n22q, c22q, s22q, e65, rfl, _, _, _, _, _, _, _⟩ := g0.get rfl
   have e66 : σ' 44 = .tuple #[.agg #[.int .i64 v13.1.Site, .slice A15q n15q c15q, .slice A16q n16q c16q, .slice A17q n17q c17q], .agg #[.int .i64 v13.2.Site, .slice A20q n20q c20q, .slice A21q n21q c21q, .slice A22q n22q c22q]] := (List.cons.inj e65).1
   have he_ := e64.symm.trans e66
   have ⟨e67, e68, e69, e70, e71, e72, e73, e74, e75, e76, e77, e78, e79, e80, e81, e82, e83, e84⟩ : A15 = A15q ∧ n15 = n15q ∧ c15 = c15q ∧ A16 = A16q ∧ n16 = n16q ∧ c16 = c16q ∧ A17 = A17q ∧ n17 = n17q ∧ c17 = c17q ∧ A20 = A20q ∧ n20 = n20q ∧ c20 = c20q ∧ A21 = A21q ∧ n21 = n21q ∧ c21 = c21q ∧ A22 = A22q ∧ n22 = n22q ∧ c22 = c22q := by simp at he_; simp [he_]
   subst e67
   subst e68
   subst e69
   subst e70
   subst e71
   subst e72
   subst e73
   subst e74
   subst e75
   subst e76
   subst e77
   subst e78
   subst e79
   subst e80
   subst e81
   subst e82
   subst e83
   subst e84
   have e85 : σ' 37 = .tuple #[.agg #[.int .i64 v13.1.Site, .slice A15 n15 c15, .slice A16 n16 c16, .slice A17 n17 c17], .agg #[.int .i64 v13.2.Site, .slice A20 n20 c20, .slice A21 n21 c21, .slice A22 n22 c22]] := (List.cons.inj (List.cons.inj e65).2).1
   replace y7 : X 7 = [] := y7
   obtain ⟨_, g0, y8⟩ := hX 8 (by decide) (by kernel_rfl)
   obtain ⟨A15q, n15q, c15q, s15q, A16q, n16q, c16q, s16q, A17q, n17q, c17q, s17q, A20q, n20q, c20q, s20q, A21q, n21q, c21q, s21q, A22q, n22q, c22q, s22q, e86, rfl, _, _, _, _, _, _, _⟩ := g0.get rfl
   have e87 : σ' 37 = .tuple #[.agg #[.int .i64 v13.1.Site, .slice A15q n15q c15q, .slice A16q n16q c16q, .slice A17q n17q c17q], .agg #[.int .i64 v13.2.Site, .slice A20q n20q c20q, .slice A21q n21q c21q, .slice A22q n22q c22q]] := (List.cons.inj e86).1
   have he_ := e85.symm.trans e87
   have ⟨e88, e89, e90, e91, e92, e93, e94, e95, e96, e97, e98, e99, e100, e101, e102, e103, e104, e105⟩ : A15 = A15q ∧ n15 = n15q ∧ c15 = c15q ∧ A16 = A16q ∧ n16 = n16q ∧ c16 = c16q ∧ A17 = A17q ∧ n17 = n17q ∧ c17 = c17q ∧ A20 = A20q ∧ n20 = n20q ∧ c20 = c20q ∧ A21 = A21q ∧ n21 = n21q ∧ c21 = c21q ∧ A22 = A22q ∧ n22 = n22q ∧ c22 = c22q := by simp at he_; simp [he_]
   subst e88
   subst e89
   subst e90
   subst e91
   subst e92
   subst e93
   subst e94
   subst e95
   subst e96
   subst e97
   subst e98
   subst e99
   subst e100
   subst e101
   subst e102
   subst e103
   subst e104
   subst e105
   have e106 : σ' 45 = .agg #[.int .i64 v13.1.Site, .slice A15 n15 c15, .slice A16 n16 c16, .slice A17 n17 c17] := (List.cons.inj (List.cons.inj e86).2).1
   replace y8 : X 8 = [] := y8
   obtain ⟨_, g0, y9⟩ := hX 9 (by decide) (by kernel_rfl)
   obtain ⟨A15q, n15q, c15q, s15q, A16q, n16q, c16q, s16q, A17q, n17q, c17q, s17q, A20q, n20q, c20q, s20q, A21q, n21q, c21q, s21q, A22q, n22q, c22q, s22q, e107, rfl, _, _, _, _, _, _, _⟩ := g0.get rfl
   have e108 : σ' 37 = .tuple #[.agg #[.int .i64 v13.1.Site, .slice A15q n15q c15q, .slice A16q n16q c16q, .slice A17q n17q c17q], .agg #[.int .i64 v13.2.Site, .slice A20q n20q c20q, .slice A21q n21q c21q, .slice A22q n22q c22q]] := (List.cons.inj e107).1
   have he_ := e85.symm.trans e108
   have ⟨e109, e110, e111, e112, e113, e114, e115, e116, e117, e118, e119, e120, e121, e122, e123, e124, e125, e126⟩ : A15 = A15q ∧ n15 = n15q ∧ c15 = c15q ∧ A16 = A16q ∧ n16 = n16q ∧ c16 = c16q ∧ A17 = A17q ∧ n17 = n17q ∧ c17 = c17q ∧ A20 = A20q ∧ n20 = n20q ∧ c20 = c20q ∧ A21 = A21q ∧ n21 = n21q ∧ c21 = c21q ∧ A22 = A22q ∧ n22 = n22q ∧ c22 = c22q := by simp at he_; simp [he_]
   subst e109
   subst e110
   subst e111
   subst e112
   subst e113
   subst e114
   subst e115
   subst e116
   subst e117
   subst e118
   subst e119
   subst e120
   subst e121
   subst e122
   subst e123
   subst e124
   subst e125
   subst e126
   have e127 : σ' 46 = .agg #[.int .i64 v13.2.Site, .slice A20 n20 c20, .slice A21 n21 c21, .slice A22 n22 c22] := (List.cons.inj (List.cons.inj e107).2).1
   replace y9 : X 9 = [] := y9
   obtain ⟨_, g0, y10⟩ := hX 10 (by decide) (by kernel_rfl)
   obtain ⟨_, _, rfl, _⟩ := g0.get rfl
   replace y10 : X 10 = [] := y10
   obtain ⟨_, g0, y11⟩ := hX 11 (by decide) (by kernel_rfl)
   obtain ⟨_, _, rfl, _⟩ := g0.get rfl
   replace y11 : X 11 = [] := y11
   obtain ⟨_, g0, y12⟩ := hX 12 (by decide) (by kernel_rfl)
   obtain ⟨A15q, n15q, c15q, s15q, A16q, n16q, c16q, s16q, A17q, n17q, c17q, s17q, b27, e128, rfl, _, _, _, _⟩ := g0.get rfl
   have e129 : σ' 45 = .agg #[.int .i64 v13.1.Site, .slice A15q n15q c15q, .slice A16q n16q c16q, .slice A17q n17q c17q] := (List.cons.inj e128).1
   have he_ := e106.symm.trans e129
   have ⟨e130, e131, e132, e133, e134, e135, e136, e137, e138⟩ : A15 = A15q ∧ n15 = n15q ∧ c15 = c15q ∧ A16 = A16q ∧ n16 = n16q ∧ c16 = c16q ∧ A17 = A17q ∧ n17 = n17q ∧ c17 = c17q := by simp at he_; simp [he_]
   subst e130
   subst e131
   subst e132
   subst e133
   subst e134
   subst e135
   subst e136
   subst e137
   subst e138
   have e139 : σ' 7 = .pointer (some ⟨b27, 0, none⟩) := (List.cons.inj (List.cons.inj e128).2).1
   replace y12 : X 12 = [.box b27 27 [.int .i64 v13.1.Site, .slice A15 n15 c15, .slice A16 n16 c16, .slice A17 n17 c17]] := y12
   obtain ⟨_, g0, y13⟩ := hX 13 (by decide) (by kernel_rfl)
   obtain ⟨A20q, n20q, c20q, s20q, A21q, n21q, c21q, s21q, A22q, n22q, c22q, s22q, b28, e140, rfl, _, _, _, _⟩ := g0.get rfl
   have e141 : σ' 46 = .agg #[.int .i64 v13.2.Site, .slice A20q n20q c20q, .slice A21q n21q c21q, .slice A22q n22q c22q] := (List.cons.inj e140).1
   have he_ := e127.symm.trans e141
   have ⟨e142, e143, e144, e145, e146, e147, e148, e149, e150⟩ : A20 = A20q ∧ n20 = n20q ∧ c20 = c20q ∧ A21 = A21q ∧ n21 = n21q ∧ c21 = c21q ∧ A22 = A22q ∧ n22 = n22q ∧ c22 = c22q := by simp at he_; simp [he_]
   subst e142
   subst e143
   subst e144
   subst e145
   subst e146
   subst e147
   subst e148
   subst e149
   subst e150
   have e151 : σ' 8 = .pointer (some ⟨b28, 0, none⟩) := (List.cons.inj (List.cons.inj e140).2).1
   replace y13 : X 13 = [.box b28 27 [.int .i64 v13.2.Site, .slice A20 n20 c20, .slice A21 n21 c21, .slice A22 n22 c22]] := y13
   have hfl : flatX X 14 = [.box b27 27 [.int .i64 v13.1.Site, .slice A15 n15 c15, .slice A16 n16 c16, .slice A17 n17 c17], .box b28 27 [.int .i64 v13.2.Site, .slice A20 n20 c20, .slice A21 n21 c21, .slice A22 n22 c22]] := by
    show X 0 ++ (X 1 ++ (X 2 ++ (X 3 ++ (X 4 ++ (X 5 ++ (X 6 ++ (X 7 ++ (X 8 ++ (X 9 ++ (X 10 ++ (X 11 ++ (X 12 ++ (X 13 ++ []))))))))))))) = _
    rw [y0, y1, y2, y3, y4, y5, y6, y7, y8, y9, y10, y11, y12, y13]; rfl
   rw [hfl] at hM
   obtain ⟨τ, rfl⟩ := sl_canon (σ := σ') (l := [(2, .slice A3 n3 c3), (7, .pointer (some ⟨b27, 0, none⟩)), (8, .pointer (some ⟨b28, 0, none⟩))]) ⟨(hf 2 (by kernel_rfl)).trans rfl, e139, e151, trivial⟩
   replace hM : Mem w0 H w H59 [.box b27 27 [.int .i64 v13.1.Site, .slice A15 n15 c15, .slice A16 n16 c16, .slice A17 n17 c17], .box b28 27 [.int .i64 v13.2.Site, .slice A20 n20 c20, .slice A21 n21 c21, .slice A22 n22 c22], .box b4 52 [.slice A1 n1 c1, .slice A2 n2 c2]] := hM
   change RA _ _ _ _ _ _ _ (sl [(2, .slice A3 n3 c3), (7, .pointer (some ⟨b27, 0, none⟩)), (8, .pointer (some ⟨b28, 0, none⟩))] τ) _ 14 _
   refine RA.done (by kernel_rfl) ?_
   refine CW.seq <| CW.region <| RW.st (Ex.loadA hM 0 [.int .i64 v13.1.Site, .slice A15 n15 c15, .slice A16 n16 c16, .slice A17 n17 c17] ta27 rfl rfl rfl rfl) rfl <| RW.st (Ex.loadA hM 1 [.int .i64 v13.2.Site, .slice A20 n20 c20, .slice A21 n21 c21, .slice A22 n22 c22] ta27 rfl rfl rfl rfl) rfl ?_
   refine RW.callP hM (reverse_Extents_lift (hT.mono (hle6.trans hle60)) v13.1 v13.2 hF15 hF25 hF17 hF20 hF26 hF22 hm) en14 rfl rfl rfl rfl ?_; rintro _ w H153 _ hle154 ⟨v152, hm, A155, n155, c155, s155, rfl, hd156, hn157, rfl⟩ hM
   replace hM : Mem w0 H w H153 [.row (.slice A155 n155 c155) 68 1 n155 s155, .box b27 27 [.int .i64 v13.1.Site, .slice A15 n15 c15, .slice A16 n16 c16, .slice A17 n17 c17], .box b28 27 [.int .i64 v13.2.Site, .slice A20 n20 c20, .slice A21 n21 c21, .slice A22 n22 c22], .box b4 52 [.slice A1 n1 c1, .slice A2 n2 c2]] := hM
   refine RW.st (Ex.move (.tuple #[.slice A155 n155 c155, .int .i64 v152.2]) rfl) rfl <| RW.st (Ex.extract rfl rfl) rfl <| RW.st (Ex.extract rfl rfl) rfl <| RW.st (Ex.assign (.slice A155 n155 c155) rfl) rfl <| RW.st (Ex.assign (.int .i64 v152.2) rfl) rfl <| RW.nil <| CW.seq <| CW.region <| RW.st (Ex.loadA hM 1 [.int .i64 v13.1.Site, .slice A15 n15 c15, .slice A16 n16 c16, .slice A17 n17 c17] ta27 rfl rfl rfl rfl) rfl <| RW.st (Ex.loadA hM 2 [.int .i64 v13.2.Site, .slice A20 n20 c20, .slice A21 n21 c21, .slice A22 n22 c22] ta27 rfl rfl rfl rfl) rfl ?_
   refine RW.callP hM (reverse_Cycle_lift (hT.mono ((hle6.trans hle60).trans hle154)) v13.1 v13.2 5 9 ([] : List Int) (hF15.mono hle154) (hF25.mono hle154) (hF17.mono hle154) (hF20.mono hle154) (hF26.mono hle154) (hF22.mono hle154) Fz.nil hm) en17 rfl rfl rfl rfl ?_; rintro _ w H159 _ hle160 ⟨v158, hm, A161, n161, c161, s161, A162, n162, c162, s162, rfl, hd163, hn164, hd165, hn166, rfl⟩ hM
   replace hM : Mem w0 H w H159 [.row (.slice A161 n161 c161) 3 1 n161 s161, .row (.slice A162 n162 c162) 100 3 n162 s162, .row (.slice A155 n155 c155) 68 1 n155 s155, .box b27 27 [.int .i64 v13.1.Site, .slice A15 n15 c15, .slice A16 n16 c16, .slice A17 n17 c17], .box b28 27 [.int .i64 v13.2.Site, .slice A20 n20 c20, .slice A21 n21 c21, .slice A22 n22 c22], .box b4 52 [.slice A1 n1 c1, .slice A2 n2 c2]] := hM
   refine RW.st (Ex.move (.tuple #[.agg #[.int .i64 v158.1.Base, .int .i64 v158.1.Number, .int .i64 v158.1.Time, .slice A161 n161 c161, .slice A162 n162 c162], .int .i64 v158.2]) rfl) rfl <| RW.st (Ex.extract rfl rfl) rfl <| RW.st (Ex.extract rfl rfl) rfl ?_
   refine RW.alloc hM tz45 [.int .i64 0, .int .i64 0, .int .i64 0, .slice none 0 0, .slice none 0 0] rfl rfl rfl ?_; intro b167 w hM
   replace hM : Mem w0 H w H159 [.box b167 45 [.int .i64 0, .int .i64 0, .int .i64 0, .slice none 0 0, .slice none 0 0], .row (.slice A161 n161 c161) 3 1 n161 s161, .row (.slice A162 n162 c162) 100 3 n162 s162, .row (.slice A155 n155 c155) 68 1 n155 s155, .box b27 27 [.int .i64 v13.1.Site, .slice A15 n15 c15, .slice A16 n16 c16, .slice A17 n17 c17], .box b28 27 [.int .i64 v13.2.Site, .slice A20 n20 c20, .slice A21 n21 c21, .slice A22 n22 c22], .box b4 52 [.slice A1 n1 c1, .slice A2 n2 c2]] := hM
   refine RW.store hM 0 (.agg #[.int .i64 v158.1.Base, .int .i64 v158.1.Number, .int .i64 v158.1.Time, .slice A161 n161 c161, .slice A162 n162 c162]) [.int .i64 v158.1.Base, .int .i64 v158.1.Number, .int .i64 v158.1.Time, .slice A161 n161 c161, .slice A162 n162 c162] [.int .i64 v158.1.Base, .int .i64 v158.1.Number, .int .i64 v158.1.Time, .slice A161 n161 c161, .slice A162 n162 c162] sz45 rfl rfl rfl (oneAll ⟨rfl, rfl, rfl, rfl, rfl, trivial⟩) rfl (Nat.le_of_ble_eq_true rfl) rfl [.box b167 45 [.int .i64 v158.1.Base, .int .i64 v158.1.Number, .int .i64 v158.1.Time, .slice A161 n161 c161, .slice A162 n162 c162], .row (.slice A161 n161 c161) 3 1 n161 s161, .row (.slice A162 n162 c162) 100 3 n162 s162, .row (.slice A155 n155 c155) 68 1 n155 s155, .box b27 27 [.int .i64 v13.1.Site, .slice A15 n15 c15, .slice A16 n16 c16, .slice A17 n17 c17], .box b28 27 [.int .i64 v13.2.Site, .slice A20 n20 c20, .slice A21 n21 c21, .slice A22 n22 c22], .box b4 52 [.slice A1 n1 c1, .slice A2 n2 c2]] rfl rfl rfl ?_; intro w hM
   refine RW.st (Ex.assign (.int .i64 v158.2) rfl) rfl <| RW.nil <| CW.seq ?_
   skip
   refine CW.cut (fun D σ w => D = [] ∧ (∃ τ, σ = sl [(2, .slice A3 n3 c3), (7, .pointer (some ⟨b27, 0, none⟩)), (8, .pointer (some ⟨b28, 0, none⟩)), (9, .slice A155 n155 c155), (11, .pointer (some ⟨b167, 0, none⟩)), (72, .bool (decide ((v152.2 ≠ 0) ∨ ((v158.2 ≠ 0) ∨ ((v152.1.length : Int) ≠ (v13.1.Image.length : Int))))))] τ) ∧ Mem w0 H w H159 [.box b167 45 [.int .i64 v158.1.Base, .int .i64 v158.1.Number, .int .i64 v158.1.Time, .slice A161 n161 c161, .slice A162 n162 c162], .row (.slice A161 n161 c161) 3 1 n161 s161, .row (.slice A162 n162 c162) 100 3 n162 s162, .row (.slice A155 n155 c155) 68 1 n155 s155, .box b27 27 [.int .i64 v13.1.Site, .slice A15 n15 c15, .slice A16 n16 c16, .slice A17 n17 c17], .box b28 27 [.int .i64 v13.2.Site, .slice A20 n20 c20, .slice A21 n21 c21, .slice A22 n22 c22], .box b4 52 [.slice A1 n1 c1, .slice A2 n2 c2]]) ?_ ?_
   ·
    skip
    refine CW.region <| RW.st (Ex.move (.int .i64 v152.2) rfl) rfl <| RW.st (Ex.neq rfl rfl) rfl <| RW.st (Ex.move (.bool (decide (v152.2 ≠ 0))) rfl) rfl ?_
    refine RW.split 61 (p := v152.2 ≠ 0) rfl (fun hc168 => ?_) (fun hc168 => ?_)
    ·
     skip
     refine RW.pass rfl rfl <| RW.pass rfl rfl <| RW.st (Ex.pickT (.bool true) rfl rfl) rfl <| RW.st (Ex.move (.bool true) rfl) rfl <| RW.pass rfl rfl <| RW.pass rfl rfl <| RW.pass rfl rfl <| RW.pass rfl rfl <| RW.pass rfl rfl <| RW.pass rfl rfl <| RW.st (Ex.pickT (.bool true) rfl rfl) rfl <| RW.nil ?_
     exact And.intro rfl (And.intro (sl_canon ⟨rfl, rfl, rfl, rfl, rfl, (congrArg Value.bool (decide_eq_true (.inl hc168)).symm), trivial⟩) hM)
    ·
     skip
     refine RW.st (Ex.move (.int .i64 v158.2) rfl) rfl <| RW.st (Ex.neq rfl rfl) rfl <| RW.st (Ex.pickF (.bool (decide (v158.2 ≠ 0))) rfl rfl) rfl <| RW.st (Ex.move (.bool (decide (v158.2 ≠ 0))) rfl) rfl ?_
     refine RW.split 65 (p := v158.2 ≠ 0) rfl (fun hc169 => ?_) (fun hc169 => ?_)
     ·
      skip
      refine RW.pass rfl rfl <| RW.pass rfl rfl <| RW.pass rfl rfl <| RW.pass rfl rfl <| RW.pass rfl rfl <| RW.pass rfl rfl <| RW.st (Ex.pickT (.bool true) rfl rfl) rfl <| RW.nil ?_
      exact And.intro rfl (And.intro (sl_canon ⟨rfl, rfl, rfl, rfl, rfl, (congrArg Value.bool (decide_eq_true (.inr (.inl hc169))).symm), trivial⟩) hM)
     ·
      skip
      refine RW.st (Ex.move (.slice A155 n155 c155) rfl) rfl <| RW.st (Ex.lenN st30.1 rfl hn157) rfl <| RW.st (Ex.fieldAddr fa27_3 rfl) rfl <| RW.st (Ex.load1 hM 4 to25 rfl rfl rfl) rfl <| RW.st (Ex.lenN st25.1 rfl hF17.hn) rfl <| RW.st (Ex.neq rfl rfl) rfl <| RW.st (Ex.pickF (.bool (decide ((v152.1.length : Int) ≠ (v13.1.Image.length : Int)))) rfl rfl) rfl <| RW.nil ?_
      exact And.intro rfl (And.intro (sl_canon ⟨rfl, rfl, rfl, rfl, rfl, (congrArg Value.bool (decide_eq_decide.2 (imOr hc168 (imOr hc169 Iff.rfl)))), trivial⟩) hM)
   rintro _ _ w ⟨rfl, ⟨τ, rfl⟩, hM⟩
   refine CW.cond_dec (p := (v152.2 ≠ 0) ∨ ((v158.2 ≠ 0) ∨ ((v152.1.length : Int) ≠ (v13.1.Image.length : Int)))) rfl (fun hc170 => ?_) (fun hc170 => ?_)
   ·
    replace hm := And.left hm hc170
    refine CW.seq <| CW.region <| RW.st (Ex.assign (.bool false) rfl) rfl <| RW.nil <| CW.ret ?_
    refine thenQ_ret ?_
    refine end_tmp (.inl rfl) rfl (.bool false) rfl ?_
    exact ⟨_, _, (hM.pick [] rfl rfl), false, hm, rfl, rfl⟩
   ·
    replace hm := And.right hm hc170
    refine CW.skip <| CW.seq <| CW.region <| RW.st (Ex.fieldAddr fa27_3 rfl) rfl <| RW.st (Ex.load1 hM 4 to25 rfl rfl rfl) rfl ?_
    refine RW.callP hM (ref07_Copy_lift v13.1.Image (hF17.mono (hle154.trans hle160)) hm) en25 rfl rfl rfl rfl ?_; rintro _ w H172 _ hle173 ⟨v171, hm, A174, n174, c174, s174, rs175, rfl, hd176, hn177, rfl⟩ hM
    replace hM := Mem.toTail (a := [.row (.slice A174 n174 c174) 61 1 n174 s174]) (b := rs175) (c := [.box b167 45 [.int .i64 v158.1.Base, .int .i64 v158.1.Number, .int .i64 v158.1.Time, .slice A161 n161 c161, .slice A162 n162 c162], .row (.slice A161 n161 c161) 3 1 n161 s161, .row (.slice A162 n162 c162) 100 3 n162 s162, .row (.slice A155 n155 c155) 68 1 n155 s155, .box b27 27 [.int .i64 v13.1.Site, .slice A15 n15 c15, .slice A16 n16 c16, .slice A17 n17 c17], .box b28 27 [.int .i64 v13.2.Site, .slice A20 n20 c20, .slice A21 n21 c21, .slice A22 n22 c22], .box b4 52 [.slice A1 n1 c1, .slice A2 n2 c2]]) hM
    replace hM : Mem w0 H w H172 (.row (.slice A174 n174 c174) 61 1 n174 s174 :: .box b167 45 [.int .i64 v158.1.Base, .int .i64 v158.1.Number, .int .i64 v158.1.Time, .slice A161 n161 c161, .slice A162 n162 c162] :: .row (.slice A161 n161 c161) 3 1 n161 s161 :: .row (.slice A162 n162 c162) 100 3 n162 s162 :: .row (.slice A155 n155 c155) 68 1 n155 s155 :: .box b27 27 [.int .i64 v13.1.Site, .slice A15 n15 c15, .slice A16 n16 c16, .slice A17 n17 c17] :: .box b28 27 [.int .i64 v13.2.Site, .slice A20 n20 c20, .slice A21 n21 c21, .slice A22 n22 c22] :: .box b4 52 [.slice A1 n1 c1, .slice A2 n2 c2] :: rs175) := hM
    refine RW.st (Ex.assign (.slice A174 n174 c174) rfl) rfl <| RW.nil <| CW.seq <| CW.region <| RW.st (Ex.assign (.int .i64 0) rfl) rfl <| RW.nil <| CW.seq <| CW.seq <| CW.region <| RW.st (Ex.assign (.int .i64 0) rfl) rfl <| RW.nil <| CW.block ?_
    obtain ⟨m405, hm⟩ := hm
    skip
    refine CW.loop (β := Nat) (fun n σ w => ∃ (v180 : List (List Sec)), ∃ (A181 : Option Addr), ∃ (n182 : Nat), ∃ (c183 : Nat), ∃ (s184 : List Value), ∃ (rs185 : List Ent), ∃ (v188 : Int), ∃ (v189 : Int), ∃ Hk178, H172.le Hk178 ∧ (∃ τ, σ = sl [(2, .slice A3 n3 c3), (8, .pointer (some ⟨b28, 0, none⟩)), (9, .slice A155 n155 c155), (11, .pointer (some ⟨b167, 0, none⟩)), (13, .slice A181 n182 c183), (14, .int .i64 v188), (15, .int .i64 v189)] τ) ∧ Mem w0 H w Hk178 (.box b28 27 [.int .i64 v13.2.Site, .slice A20 n20 c20, .slice A21 n21 c21, .slice A22 n22 c22] :: .box b167 45 [.int .i64 v158.1.Base, .int .i64 v158.1.Number, .int .i64 v158.1.Time, .slice A161 n161 c161, .slice A162 n162 c162] :: .row (.slice A155 n155 c155) 68 1 n155 s155 :: .row (.slice A161 n161 c161) 3 1 n161 s161 :: .row (.slice A162 n162 c162) 100 3 n162 s162 :: .row (.slice A181 n182 c183) 61 1 n182 s184 :: rs185) ∧ (DeepL (α := List Sec) [71] Hk178 s184 v180 rs185) ∧ (n182 = v180.length) ∧ LoopN (law47_ReverseSettles_L2 x2 v13 v152 v158 Φ) n (v180, v188, v189)) (fun n => n) m405 ⟨v171, A174, n174, c174, s174, rs175, 0, 0, H172, (Hp.le.refl _), sl_canon ⟨rfl, rfl, rfl, rfl, rfl, rfl, rfl, trivial⟩, (Mem.pickT (L1 := [.row (.slice A174 n174 c174) 61 1 n174 s174, .box b167 45 [.int .i64 v158.1.Base, .int .i64 v158.1.Number, .int .i64 v158.1.Time, .slice A161 n161 c161, .slice A162 n162 c162], .row (.slice A161 n161 c161) 3 1 n161 s161, .row (.slice A162 n162 c162) 100 3 n162 s162, .row (.slice A155 n155 c155) 68 1 n155 s155, .box b27 27 [.int .i64 v13.1.Site, .slice A15 n15 c15, .slice A16 n16 c16, .slice A17 n17 c17], .box b28 27 [.int .i64 v13.2.Site, .slice A20 n20 c20, .slice A21 n21 c21, .slice A22 n22 c22], .box b4 52 [.slice A1 n1 c1, .slice A2 n2 c2]]) (T := rs175) hM [6, 1, 4, 2, 3, 0] rfl rfl), hd176, hn177, hm⟩ ?_
    rintro k190 _ w ⟨v180, A181, n182, c183, s184, rs185, v188, v189, Hk178, hle179, ⟨τ, rfl⟩, hM, hd186, hn187, hm⟩
    obtain _ | k190 := k190
    · exact hm.elim
    replace hm : (law47_ReverseSettles_L2 x2 v13 v152 v158 Φ) (v180, v188, v189) (LoopN (law47_ReverseSettles_L2 x2 v13 v152 v158 Φ) k190) := hm
    generalize hrec191 : LoopN (law47_ReverseSettles_L2 x2 v13 v152 v158 Φ) k190 = rec2 at hm
    refine CW.seq <| CW.seq <| CW.region <| RW.st (Ex.move (.int .i64 v189) rfl) rfl <| RW.st (Ex.move (.slice A181 n182 c183) rfl) rfl <| RW.st (Ex.lenN st25.1 rfl hn187) rfl <| RW.st (Ex.lss rfl rfl) rfl <| RW.nil ?_
    refine CW.cond_dec (p := v189 < (v180.length : Int)) rfl (fun hc192 => ?_) (fun hc192 => ?_)
    ·
     replace hm := And.left hm hc192
     refine CW.skip <| CW.seq <| CW.block <| CW.seq ?_
     obtain ⟨hg205, hm⟩ := hm
     obtain ⟨c207, _, c208, _, rs209, rfl, ⟨A206, n206, c206, s206, rfl, rfl, hF206, hn211⟩, hh210, hM⟩ := Mem.focus [.box b28 27 [.int .i64 v13.2.Site, .slice A20 n20 c20, .slice A21 n21 c21, .slice A22 n22 c22], .box b167 45 [.int .i64 v158.1.Base, .int .i64 v158.1.Number, .int .i64 v158.1.Time, .slice A161 n161 c161, .slice A162 n162 c162], .row (.slice A155 n155 c155) 68 1 n155 s155, .row (.slice A161 n161 c161) 3 1 n161 s161, .row (.slice A162 n162 c162) 100 3 n162 s162, .row (.slice A181 n182 c183) 61 1 n182 s184] hM hd186 hg205
     replace hM : Mem w0 H w Hk178 (.row (.slice A206 n206 c206) 71 8 n206 s206 :: .box b28 27 [.int .i64 v13.2.Site, .slice A20 n20 c20, .slice A21 n21 c21, .slice A22 n22 c22] :: .box b167 45 [.int .i64 v158.1.Base, .int .i64 v158.1.Number, .int .i64 v158.1.Time, .slice A161 n161 c161, .slice A162 n162 c162] :: .row (.slice A155 n155 c155) 68 1 n155 s155 :: .row (.slice A161 n161 c161) 3 1 n161 s161 :: .row (.slice A162 n162 c162) 100 3 n162 s162 :: .row (.slice A181 n182 c183) 61 1 n182 (c207 ++ ([.slice A206 n206 c206] ++ c208)) :: rs209) := hM
     have hx212 := Hole.get (ch := [.slice A206 n206 c206]) hh210
     obtain ⟨hg213, hm⟩ := hm
     obtain ⟨_, ⟨A214, n214, c214, s214, rfl, hF214⟩, hx215⟩ := DtL.getI (α := List api_Extent) (hd156.mono ((hle160.trans hle173).trans hle179)) hg213
     obtain ⟨v216, hW217, hm⟩ := hm
     refine CW.drawL 16 [] [(fun Hq us E => us = [.slice A181 n182 c183] ∧ E = [] ∧ True), (fun Hq us E => us = [.int .i64 v189] ∧ E = [] ∧ True), (fun Hq us E => us = [elp A181 (v189.toNat * 1 + 0)] ∧ E = [] ∧ True), (fun Hq us E => us = [.slice A206 n206 c206] ∧ E = [] ∧ True), (fun Hq us E => us = [.int .i64 (((ix v180 v189).length : Int))] ∧ E = [] ∧ True), (fun Hq us E => us = [.slice A155 n155 c155] ∧ E = [] ∧ True), (fun Hq us E => us = [.int .i64 v189] ∧ E = [] ∧ True), (fun Hq us E => us = [elp A155 (v189.toNat * 1 + 0)] ∧ E = [] ∧ True), (fun Hq us E => us = [.slice A214 n214 c214] ∧ E = [] ∧ True), (fun Hq us E => ∃ (A218 : Option Addr), ∃ (n218 : Nat), ∃ (c218 : Nat), ∃ (s218 : List Value), us = [.tuple #[.agg #[.int .i64 v216.1.Size, .slice A218 n218 c218], .int .i64 v216.2]] ∧ E = [] ∧ Fz (α := BitVec 64) Hq A218 n218 c218 v216.1.Words s218 ∧ True), (fun Hq us E => ∃ (A218 : Option Addr), ∃ (n218 : Nat), ∃ (c218 : Nat), ∃ (s218 : List Value), us = [.tuple #[.agg #[.int .i64 v216.1.Size, .slice A218 n218 c218], .int .i64 v216.2], .tuple #[.agg #[.int .i64 v216.1.Size, .slice A218 n218 c218], .int .i64 v216.2]] ∧ E = [] ∧ Fz (α := BitVec 64) Hq A218 n218 c218 v216.1.Words s218 ∧ True), (fun Hq us E => ∃ (A218 : Option Addr), ∃ (n218 : Nat), ∃ (c218 : Nat), ∃ (s218 : List Value), us = [.tuple #[.agg #[.int .i64 v216.1.Size, .slice A218 n218 c218], .int .i64 v216.2], .agg #[.int .i64 v216.1.Size, .slice A218 n218 c218]] ∧ E = [] ∧ Fz (α := BitVec 64) Hq A218 n218 c218 v216.1.Words s218 ∧ True), (fun Hq us E => us = [.int .i64 v216.2] ∧ E = [] ∧ True), (fun Hq us E => ∃ (b219 : Nat), us = [.pointer (some ⟨b219, 0, none⟩)] ∧ E = [.box b219 65 [.int .i64 0, .slice none 0 0]] ∧ True), (fun Hq us E => ∃ (A218 : Option Addr), ∃ (n218 : Nat), ∃ (c218 : Nat), ∃ (s218 : List Value), ∃ (b219 : Nat), us = [.agg #[.int .i64 v216.1.Size, .slice A218 n218 c218], .pointer (some ⟨b219, 0, none⟩)] ∧ E = [.box b219 65 [.int .i64 v216.1.Size, .slice A218 n218 c218]] ∧ Fz (α := BitVec 64) Hq A218 n218 c218 v216.1.Words s218 ∧ True), (fun Hq us E => us = [.int .i64 v216.2] ∧ E = [] ∧ True)]
      (fun k => [[0], [1], [2], [3], [4], [5], [6], [7], [8], [9], [9, 10], [10, 11], [12], [13], [11, 13], [15]].getD k []) (fun k => [none, none, none, none, none, none, none, none, none, none, none, none, none, none, some 13, none].getD k none) (by kernel_rfl) hM (by kernel_rfl) (by kernel_rfl) (by kernel_rfl) rfl (by simp only [List.forall_mem_cons]; exact ⟨fun _ _ _ _ hle ⟨e1, e2, _⟩ => ⟨e1, e2, trivial⟩, fun _ _ _ _ hle ⟨e1, e2, _⟩ => ⟨e1, e2, trivial⟩, fun _ _ _ _ hle ⟨e1, e2, _⟩ => ⟨e1, e2, trivial⟩, fun _ _ _ _ hle ⟨e1, e2, _⟩ => ⟨e1, e2, trivial⟩, fun _ _ _ _ hle ⟨e1, e2, _⟩ => ⟨e1, e2, trivial⟩, fun _ _ _ _ hle ⟨e1, e2, _⟩ => ⟨e1, e2, trivial⟩, fun _ _ _ _ hle ⟨e1, e2, _⟩ => ⟨e1, e2, trivial⟩, fun _ _ _ _ hle ⟨e1, e2, _⟩ => ⟨e1, e2, trivial⟩, fun _ _ _ _ hle ⟨e1, e2, _⟩ => ⟨e1, e2, trivial⟩, fun _ _ _ _ hle ⟨A218, n218, c218, s218, e1, e2, hF218, _⟩ => ⟨A218, n218, c218, s218, e1, e2, hF218.mono hle, trivial⟩, fun _ _ _ _ hle ⟨A218, n218, c218, s218, e1, e2, hF218, _⟩ => ⟨A218, n218, c218, s218, e1, e2, hF218.mono hle, trivial⟩, fun _ _ _ _ hle ⟨A218, n218, c218, s218, e1, e2, hF218, _⟩ => ⟨A218, n218, c218, s218, e1, e2, hF218.mono hle, trivial⟩, fun _ _ _ _ hle ⟨e1, e2, _⟩ => ⟨e1, e2, trivial⟩, fun _ _ _ _ hle ⟨b219, e1, e2, _⟩ => ⟨b219, e1, e2, trivial⟩, fun _ _ _ _ hle ⟨A218, n218, c218, s218, b219, e1, e2, hF218, _⟩ => ⟨A218, n218, c218, s218, b219, e1, e2, hF218.mono hle, trivial⟩, fun _ _ _ _ hle ⟨e1, e2, _⟩ => ⟨e1, e2, trivial⟩, by simp⟩) ⟨?_, ?_, ?_, ?_, ?_, ?_, ?_, ?_, ?_, ?_, ?_, ?_, ?_, ?_, ?_, ?_, trivial⟩ ?_
     ·
      intro H' σ' w R E hle hMR hE0 hE hp hf
      obtain rfl := hE0 rfl
      obtain ⟨τ, rfl⟩ := sl_canon (σ := σ') (l := [(13, .slice A181 n182 c183)]) ⟨(hf 13 (by kernel_rfl)).trans rfl, trivial⟩
      have hM := Mem.subR (R := R) hMR
      exact RW.step (Ex.move (.slice A181 n182 c183) rfl) rfl rfl rfl (RW.nil ⟨rfl, rfl, _, rfl, H', [], Hp.le.refl _, hMR, rfl, rfl, trivial⟩)
     ·
      intro H' σ' w R E hle hMR hE0 hE hp hf
      obtain rfl := hE0 rfl
      obtain ⟨τ, rfl⟩ := sl_canon (σ := σ') (l := [(15, .int .i64 v189)]) ⟨(hf 15 (by kernel_rfl)).trans rfl, trivial⟩
      have hM := Mem.subR (R := R) hMR
      exact RW.step (Ex.move (.int .i64 v189) rfl) rfl rfl rfl (RW.nil ⟨rfl, rfl, _, rfl, H', [], Hp.le.refl _, hMR, rfl, rfl, trivial⟩)
     ·
      intro H' σ' w R E hle hMR hE0 hE hp hf
      obtain rfl := hE0 rfl
      obtain ⟨_, hg⟩ := hp 0 (by decide) (by kernel_rfl)
      obtain ⟨e220, _, _⟩ := hg.get rfl
      have e221 : σ' 83 = .slice A181 n182 c183 := (List.cons.inj e220).1
      obtain ⟨_, hg⟩ := hp 1 (by decide) (by kernel_rfl)
      obtain ⟨e222, _, _⟩ := hg.get rfl
      have e223 : σ' 84 = .int .i64 v189 := (List.cons.inj e222).1
      obtain ⟨τ, rfl⟩ := sl_canon (σ := σ') (l := [(83, .slice A181 n182 c183), (84, .int .i64 v189)]) ⟨e221, e223, trivial⟩
      have hM := Mem.subR (R := R) hMR
      exact RW.step (Ex.index st25 rfl rfl v189.toNat (hM.rowNeD (α := List Sec) (p := 6) rfl hn187 hg205) hg205.nat (Nat.lt_of_lt_of_eq hg205.lt (hn187).symm)) rfl rfl rfl (RW.nil ⟨rfl, rfl, _, rfl, H', [], Hp.le.refl _, hMR, rfl, rfl, trivial⟩)
     ·
      intro H' σ' w R E hle hMR hE0 hE hp hf
      obtain rfl := hE0 rfl
      obtain ⟨_, hg⟩ := hp 2 (by decide) (by kernel_rfl)
      obtain ⟨e224, _, _⟩ := hg.get rfl
      have e225 : σ' 85 = elp A181 (v189.toNat * 1 + 0) := (List.cons.inj e224).1
      obtain ⟨τ, rfl⟩ := sl_canon (σ := σ') (l := [(85, elp A181 (v189.toNat * 1 + 0))]) ⟨e225, trivial⟩
      have hM := Mem.subR (R := R) hMR
      exact RW.step (Ex.loadR hM 6 rfl to61 (hM.rowNeD (α := List Sec) (p := 6) rfl hn187 hg205) rfl (hx212 0 _ rfl)) rfl rfl rfl (RW.nil ⟨rfl, rfl, _, rfl, H', [], Hp.le.refl _, hMR, rfl, rfl, trivial⟩)
     ·
      intro H' σ' w R E hle hMR hE0 hE hp hf
      obtain rfl := hE0 rfl
      obtain ⟨_, hg⟩ := hp 3 (by decide) (by kernel_rfl)
      obtain ⟨e226, _, _⟩ := hg.get rfl
      have e227 : σ' 86 = .slice A206 n206 c206 := (List.cons.inj e226).1
      obtain ⟨τ, rfl⟩ := sl_canon (σ := σ') (l := [(86, .slice A206 n206 c206)]) ⟨e227, trivial⟩
      have hM := Mem.subR (R := R) hMR
      exact RW.step (Ex.lenN st61.1 rfl hn211) rfl rfl rfl (RW.nil ⟨rfl, rfl, _, rfl, H', [], Hp.le.refl _, hMR, rfl, rfl, trivial⟩)
     ·
      intro H' σ' w R E hle hMR hE0 hE hp hf
      obtain rfl := hE0 rfl
      obtain ⟨τ, rfl⟩ := sl_canon (σ := σ') (l := [(9, .slice A155 n155 c155)]) ⟨(hf 9 (by kernel_rfl)).trans rfl, trivial⟩
      have hM := Mem.subR (R := R) hMR
      exact RW.step (Ex.move (.slice A155 n155 c155) rfl) rfl rfl rfl (RW.nil ⟨rfl, rfl, _, rfl, H', [], Hp.le.refl _, hMR, rfl, rfl, trivial⟩)
     ·
      intro H' σ' w R E hle hMR hE0 hE hp hf
      obtain rfl := hE0 rfl
      obtain ⟨τ, rfl⟩ := sl_canon (σ := σ') (l := [(15, .int .i64 v189)]) ⟨(hf 15 (by kernel_rfl)).trans rfl, trivial⟩
      have hM := Mem.subR (R := R) hMR
      exact RW.step (Ex.move (.int .i64 v189) rfl) rfl rfl rfl (RW.nil ⟨rfl, rfl, _, rfl, H', [], Hp.le.refl _, hMR, rfl, rfl, trivial⟩)
     ·
      intro H' σ' w R E hle hMR hE0 hE hp hf
      obtain rfl := hE0 rfl
      obtain ⟨_, hg⟩ := hp 5 (by decide) (by kernel_rfl)
      obtain ⟨e228, _, _⟩ := hg.get rfl
      have e229 : σ' 88 = .slice A155 n155 c155 := (List.cons.inj e228).1
      obtain ⟨_, hg⟩ := hp 6 (by decide) (by kernel_rfl)
      obtain ⟨e230, _, _⟩ := hg.get rfl
      have e231 : σ' 89 = .int .i64 v189 := (List.cons.inj e230).1
      obtain ⟨τ, rfl⟩ := sl_canon (σ := σ') (l := [(88, .slice A155 n155 c155), (89, .int .i64 v189)]) ⟨e229, e231, trivial⟩
      have hM := Mem.subR (R := R) hMR
      exact RW.step (Ex.index st30 rfl rfl v189.toNat (hM.rowNeD (α := List api_Extent) (p := 3) rfl hn157 hg213) hg213.nat (Nat.lt_of_lt_of_eq hg213.lt (hn157).symm)) rfl rfl rfl (RW.nil ⟨rfl, rfl, _, rfl, H', [], Hp.le.refl _, hMR, rfl, rfl, trivial⟩)
     ·
      intro H' σ' w R E hle hMR hE0 hE hp hf
      obtain rfl := hE0 rfl
      obtain ⟨_, hg⟩ := hp 7 (by decide) (by kernel_rfl)
      obtain ⟨e232, _, _⟩ := hg.get rfl
      have e233 : σ' 90 = elp A155 (v189.toNat * 1 + 0) := (List.cons.inj e232).1
      obtain ⟨τ, rfl⟩ := sl_canon (σ := σ') (l := [(90, elp A155 (v189.toNat * 1 + 0))]) ⟨e233, trivial⟩
      have hM := Mem.subR (R := R) hMR
      exact RW.step (Ex.loadR hM 3 rfl to68 (hM.rowNeD (α := List api_Extent) (p := 3) rfl hn157 hg213) rfl (hx215 0 _ rfl)) rfl rfl rfl (RW.nil ⟨rfl, rfl, _, rfl, H', [], Hp.le.refl _, hMR, rfl, rfl, trivial⟩)
     ·
      intro H' σ' w R E hle hMR hE0 hE hp hf
      obtain rfl := hE0 rfl
      obtain ⟨_, hg⟩ := hp 4 (by decide) (by kernel_rfl)
      obtain ⟨e234, _, _⟩ := hg.get rfl
      have e235 : σ' 87 = .int .i64 (((ix v180 v189).length : Int)) := (List.cons.inj e234).1
      obtain ⟨_, hg⟩ := hp 8 (by decide) (by kernel_rfl)
      obtain ⟨e236, _, _⟩ := hg.get rfl
      have e237 : σ' 91 = .slice A214 n214 c214 := (List.cons.inj e236).1
      obtain ⟨τ, rfl⟩ := sl_canon (σ := σ') (l := [(87, .int .i64 (((ix v180 v189).length : Int))), (91, .slice A214 n214 c214)]) ⟨e235, e237, trivial⟩
      have hM := Mem.subR (R := R) hMR
      refine RW.callP hMR (ref02_FromExtents_lift ((ix v180 v189).length : Int) (ix v152.1 v189) (hF214.mono hle) hW217) en26 rfl rfl rfl rfl ?_; rintro _ w H9 _ hle9 ⟨_, rfl, A218, n218, c218, s218, rfl, hF218, rfl⟩ hMR
      exact RW.nil ⟨rfl, rfl, _, rfl, H9, [], hle9, hMR, A218, n218, c218, s218, rfl, rfl, hF218, trivial⟩
     ·
      intro H' σ' w R E hle hMR hE0 hE hp hf
      obtain rfl := hE0 rfl
      obtain ⟨_, hg⟩ := hp 9 (by decide) (by kernel_rfl)
      obtain ⟨A218, n218, c218, s218, e238, _, hF218, _⟩ := hg.get rfl
      have e239 : σ' 92 = .tuple #[.agg #[.int .i64 v216.1.Size, .slice A218 n218 c218], .int .i64 v216.2] := (List.cons.inj e238).1
      obtain ⟨τ, rfl⟩ := sl_canon (σ := σ') (l := [(92, .tuple #[.agg #[.int .i64 v216.1.Size, .slice A218 n218 c218], .int .i64 v216.2])]) ⟨e239, trivial⟩
      have hM := Mem.subR (R := R) hMR
      exact RW.step (Ex.move (.tuple #[.agg #[.int .i64 v216.1.Size, .slice A218 n218 c218], .int .i64 v216.2]) rfl) rfl rfl rfl (RW.nil ⟨rfl, rfl, _, rfl, H', [], Hp.le.refl _, hMR, A218, n218, c218, s218, rfl, rfl, hF218, trivial⟩)
     ·
      intro H' σ' w R E hle hMR hE0 hE hp hf
      obtain rfl := hE0 rfl
      obtain ⟨_, hg⟩ := hp 10 (by decide) (by kernel_rfl)
      obtain ⟨A218, n218, c218, s218, e240, _, hF218, _⟩ := hg.get rfl
      have e241 : σ' 92 = .tuple #[.agg #[.int .i64 v216.1.Size, .slice A218 n218 c218], .int .i64 v216.2] := (List.cons.inj e240).1
      have e242 : σ' 82 = .tuple #[.agg #[.int .i64 v216.1.Size, .slice A218 n218 c218], .int .i64 v216.2] := (List.cons.inj (List.cons.inj e240).2).1
      obtain ⟨τ, rfl⟩ := sl_canon (σ := σ') (l := [(82, .tuple #[.agg #[.int .i64 v216.1.Size, .slice A218 n218 c218], .int .i64 v216.2])]) ⟨e242, trivial⟩
      have hM := Mem.subR (R := R) hMR
      exact RW.step (Ex.extract rfl rfl) rfl rfl rfl (RW.nil ⟨rfl, rfl, _, rfl, H', [], Hp.le.refl _, hMR, A218, n218, c218, s218, rfl, rfl, hF218, trivial⟩)
     ·
      intro H' σ' w R E hle hMR hE0 hE hp hf
      obtain rfl := hE0 rfl
      obtain ⟨_, hg⟩ := hp 10 (by decide) (by kernel_rfl)
      obtain ⟨A218, n218, c218, s218, e243, _, hF218, _⟩ := hg.get rfl
      have e244 : σ' 92 = .tuple #[.agg #[.int .i64 v216.1.Size, .slice A218 n218 c218], .int .i64 v216.2] := (List.cons.inj e243).1
      have e245 : σ' 82 = .tuple #[.agg #[.int .i64 v216.1.Size, .slice A218 n218 c218], .int .i64 v216.2] := (List.cons.inj (List.cons.inj e243).2).1
      obtain ⟨τ, rfl⟩ := sl_canon (σ := σ') (l := [(82, .tuple #[.agg #[.int .i64 v216.1.Size, .slice A218 n218 c218], .int .i64 v216.2])]) ⟨e245, trivial⟩
      have hM := Mem.subR (R := R) hMR
      exact RW.step (Ex.extract rfl rfl) rfl rfl rfl (RW.nil ⟨rfl, rfl, _, rfl, H', [], Hp.le.refl _, hMR, rfl, rfl, trivial⟩)
     ·
      intro H' σ' w R E hle hMR hE0 hE hp hf
      obtain rfl := hE0 rfl
      obtain ⟨τ, rfl⟩ := sl_canon (σ := σ') (l := []) trivial
      have hM := Mem.subR (R := R) hMR
      refine RW.alloc hMR tz65 [.int .i64 0, .slice none 0 0] rfl rfl rfl ?_; intro b219 w hMR
      exact RW.nil ⟨rfl, rfl, _, rfl, H', [.box b219 65 [.int .i64 0, .slice none 0 0]], Hp.le.refl _, hMR, b219, rfl, rfl, trivial⟩
     ·
      intro H' σ' w R E hle hMR hE0 hE hp hf
      obtain ⟨b219, e246, rfl, _⟩ := (hE 13 rfl).get rfl
      have e247 : σ' 16 = .pointer (some ⟨b219, 0, none⟩) := (List.cons.inj e246).1
      obtain ⟨_, hg⟩ := hp 11 (by decide) (by kernel_rfl)
      obtain ⟨A218, n218, c218, s218, e248, _, hF218, _⟩ := hg.get rfl
      have e249 : σ' 82 = .tuple #[.agg #[.int .i64 v216.1.Size, .slice A218 n218 c218], .int .i64 v216.2] := (List.cons.inj e248).1
      have e250 : σ' 93 = .agg #[.int .i64 v216.1.Size, .slice A218 n218 c218] := (List.cons.inj (List.cons.inj e248).2).1
      obtain ⟨τ, rfl⟩ := sl_canon (σ := σ') (l := [(93, .agg #[.int .i64 v216.1.Size, .slice A218 n218 c218]), (16, .pointer (some ⟨b219, 0, none⟩))]) ⟨e250, e247, trivial⟩
      refine RW.store hMR 0 (.agg #[.int .i64 v216.1.Size, .slice A218 n218 c218]) [.int .i64 v216.1.Size, .slice A218 n218 c218] [.int .i64 v216.1.Size, .slice A218 n218 c218] sz65 rfl rfl rfl (oneAll ⟨rfl, rfl, trivial⟩) rfl (Nat.le_of_ble_eq_true rfl) rfl (.box b219 65 [.int .i64 v216.1.Size, .slice A218 n218 c218] :: (R ++ (.row (.slice A206 n206 c206) 71 8 n206 s206 :: .box b28 27 [.int .i64 v13.2.Site, .slice A20 n20 c20, .slice A21 n21 c21, .slice A22 n22 c22] :: .box b167 45 [.int .i64 v158.1.Base, .int .i64 v158.1.Number, .int .i64 v158.1.Time, .slice A161 n161 c161, .slice A162 n162 c162] :: .row (.slice A155 n155 c155) 68 1 n155 s155 :: .row (.slice A161 n161 c161) 3 1 n161 s161 :: .row (.slice A162 n162 c162) 100 3 n162 s162 :: .row (.slice A181 n182 c183) 61 1 n182 (c207 ++ ([.slice A206 n206 c206] ++ c208)) :: rs209))) rfl rfl rfl ?_; intro w hMR
      exact RW.nil ⟨rfl, rfl, _, rfl, H', [.box b219 65 [.int .i64 v216.1.Size, .slice A218 n218 c218]], Hp.le.refl _, hMR, A218, n218, c218, s218, b219, rfl, rfl, hF218, trivial⟩
     ·
      intro H' σ' w R E hle hMR hE0 hE hp hf
      obtain rfl := hE0 rfl
      obtain ⟨_, hg⟩ := hp 12 (by decide) (by kernel_rfl)
      obtain ⟨e251, _, _⟩ := hg.get rfl
      have e252 : σ' 94 = .int .i64 v216.2 := (List.cons.inj e251).1
      obtain ⟨τ, rfl⟩ := sl_canon (σ := σ') (l := [(94, .int .i64 v216.2)]) ⟨e252, trivial⟩
      have hM := Mem.subR (R := R) hMR
      exact RW.step (Ex.assign (.int .i64 v216.2) rfl) rfl rfl rfl (RW.nil ⟨rfl, rfl, _, rfl, H', [], Hp.le.refl _, hMR, rfl, rfl, trivial⟩)
     ·
      intro H8 σ' w X miss hms hle8 hM hX hX0 hf
      simp [subs] at hms
      rcases hms with rfl
      ·
       obtain ⟨H253, hH8⟩ : ∃ x, x = H8 := ⟨_, rfl⟩
       subst hH8
       have hle254 := hle8
       obtain ⟨_, g0, y0⟩ := hX 0 (by decide) (by kernel_rfl)
       obtain ⟨_, rfl, _⟩ := g0.get rfl
       replace y0 : X 0 = [] := y0
       obtain ⟨_, g0, y1⟩ := hX 1 (by decide) (by kernel_rfl)
       obtain ⟨_, rfl, _⟩ := g0.get rfl
       replace y1 : X 1 = [] := y1
       obtain ⟨_, g0, y2⟩ := hX 2 (by decide) (by kernel_rfl)
       obtain ⟨_, rfl, _⟩ := g0.get rfl
       replace y2 : X 2 = [] := y2
       obtain ⟨_, g0, y3⟩ := hX 3 (by decide) (by kernel_rfl)
       obtain ⟨_, rfl, _⟩ := g0.get rfl
       replace y3 : X 3 = [] := y3
       obtain ⟨_, g0, y4⟩ := hX 4 (by decide) (by kernel_rfl)
       obtain ⟨_, rfl, _⟩ := g0.get rfl
       replace y4 : X 4 = [] := y4
       obtain ⟨_, g0, y5⟩ := hX 5 (by decide) (by kernel_rfl)
       obtain ⟨_, rfl, _⟩ := g0.get rfl
       replace y5 : X 5 = [] := y5
       obtain ⟨_, g0, y6⟩ := hX 6 (by decide) (by kernel_rfl)
       obtain ⟨_, rfl, _⟩ := g0.get rfl
       replace y6 : X 6 = [] := y6
       obtain ⟨_, g0, y7⟩ := hX 7 (by decide) (by kernel_rfl)
       obtain ⟨_, rfl, _⟩ := g0.get rfl
       replace y7 : X 7 = [] := y7
       obtain ⟨_, g0, y8⟩ := hX 8 (by decide) (by kernel_rfl)
       obtain ⟨_, rfl, _⟩ := g0.get rfl
       replace y8 : X 8 = [] := y8
       obtain ⟨_, g0, y9⟩ := hX 9 (by decide) (by kernel_rfl)
       obtain ⟨A218, n218, c218, s218, e255, rfl, hF218, _⟩ := g0.get rfl
       have e256 : σ' 92 = .tuple #[.agg #[.int .i64 v216.1.Size, .slice A218 n218 c218], .int .i64 v216.2] := (List.cons.inj e255).1
       replace y9 : X 9 = [] := y9
       obtain ⟨_, g0, y10⟩ := hX 10 (by decide) (by kernel_rfl)
       obtain ⟨A218q, n218q, c218q, s218q, e257, rfl, _, _⟩ := g0.get rfl
       have e258 : σ' 92 = .tuple #[.agg #[.int .i64 v216.1.Size, .slice A218q n218q c218q], .int .i64 v216.2] := (List.cons.inj e257).1
       have he_ := e256.symm.trans e258
       have ⟨e259, e260, e261⟩ : A218 = A218q ∧ n218 = n218q ∧ c218 = c218q := by simp at he_; simp [he_]
       subst e259
       subst e260
       subst e261
       have e262 : σ' 82 = .tuple #[.agg #[.int .i64 v216.1.Size, .slice A218 n218 c218], .int .i64 v216.2] := (List.cons.inj (List.cons.inj e257).2).1
       replace y10 : X 10 = [] := y10
       obtain ⟨_, g0, y11⟩ := hX 11 (by decide) (by kernel_rfl)
       obtain ⟨A218q, n218q, c218q, s218q, e263, rfl, _, _⟩ := g0.get rfl
       have e264 : σ' 82 = .tuple #[.agg #[.int .i64 v216.1.Size, .slice A218q n218q c218q], .int .i64 v216.2] := (List.cons.inj e263).1
       have he_ := e262.symm.trans e264
       have ⟨e265, e266, e267⟩ : A218 = A218q ∧ n218 = n218q ∧ c218 = c218q := by simp at he_; simp [he_]
       subst e265
       subst e266
       subst e267
       have e268 : σ' 93 = .agg #[.int .i64 v216.1.Size, .slice A218 n218 c218] := (List.cons.inj (List.cons.inj e263).2).1
       replace y11 : X 11 = [] := y11
       obtain ⟨_, g0, y12⟩ := hX 12 (by decide) (by kernel_rfl)
       obtain ⟨_, rfl, _⟩ := g0.get rfl
       replace y12 : X 12 = [] := y12
       obtain ⟨_, g0, y13⟩ := hX 13 (by decide) (by kernel_rfl)
       obtain ⟨_, _, rfl, _⟩ := g0.get rfl
       replace y13 : X 13 = [] := y13
       obtain ⟨_, g0, y14⟩ := hX 14 (by decide) (by kernel_rfl)
       obtain ⟨A218q, n218q, c218q, s218q, b219, e269, rfl, _, _⟩ := g0.get rfl
       have e270 : σ' 93 = .agg #[.int .i64 v216.1.Size, .slice A218q n218q c218q] := (List.cons.inj e269).1
       have he_ := e268.symm.trans e270
       have ⟨e271, e272, e273⟩ : A218 = A218q ∧ n218 = n218q ∧ c218 = c218q := by simp at he_; simp [he_]
       subst e271
       subst e272
       subst e273
       have e274 : σ' 16 = .pointer (some ⟨b219, 0, none⟩) := (List.cons.inj (List.cons.inj e269).2).1
       replace y14 : X 14 = [.box b219 65 [.int .i64 v216.1.Size, .slice A218 n218 c218]] := y14
       obtain ⟨_, g0, y15⟩ := hX 15 (by decide) (by kernel_rfl)
       obtain ⟨e275, rfl, _⟩ := g0.get rfl
       have e276 : σ' 17 = .int .i64 v216.2 := (List.cons.inj e275).1
       replace y15 : X 15 = [] := y15
       have hfl : flatX X 16 = [.box b219 65 [.int .i64 v216.1.Size, .slice A218 n218 c218]] := by
        show X 0 ++ (X 1 ++ (X 2 ++ (X 3 ++ (X 4 ++ (X 5 ++ (X 6 ++ (X 7 ++ (X 8 ++ (X 9 ++ (X 10 ++ (X 11 ++ (X 12 ++ (X 13 ++ (X 14 ++ (X 15 ++ []))))))))))))))) = _
        rw [y0, y1, y2, y3, y4, y5, y6, y7, y8, y9, y10, y11, y12, y13, y14, y15]; rfl
       rw [hfl] at hM
       obtain ⟨τ, rfl⟩ := sl_canon (σ := σ') (l := [(2, .slice A3 n3 c3), (8, .pointer (some ⟨b28, 0, none⟩)), (9, .slice A155 n155 c155), (11, .pointer (some ⟨b167, 0, none⟩)), (13, .slice A181 n182 c183), (14, .int .i64 v188), (15, .int .i64 v189), (16, .pointer (some ⟨b219, 0, none⟩)), (17, .int .i64 v216.2)]) ⟨(hf 2 (by kernel_rfl)).trans rfl, (hf 8 (by kernel_rfl)).trans rfl, (hf 9 (by kernel_rfl)).trans rfl, (hf 11 (by kernel_rfl)).trans rfl, (hf 13 (by kernel_rfl)).trans rfl, (hf 14 (by kernel_rfl)).trans rfl, (hf 15 (by kernel_rfl)).trans rfl, e274, e276, trivial⟩
       replace hM : Mem w0 H w H253 (.box b219 65 [.int .i64 v216.1.Size, .slice A218 n218 c218] :: .row (.slice A206 n206 c206) 71 8 n206 s206 :: .box b28 27 [.int .i64 v13.2.Site, .slice A20 n20 c20, .slice A21 n21 c21, .slice A22 n22 c22] :: .box b167 45 [.int .i64 v158.1.Base, .int .i64 v158.1.Number, .int .i64 v158.1.Time, .slice A161 n161 c161, .slice A162 n162 c162] :: .row (.slice A155 n155 c155) 68 1 n155 s155 :: .row (.slice A161 n161 c161) 3 1 n161 s161 :: .row (.slice A162 n162 c162) 100 3 n162 s162 :: .row (.slice A181 n182 c183) 61 1 n182 (c207 ++ ([.slice A206 n206 c206] ++ c208)) :: rs209) := hM
       change RA _ _ _ _ _ _ _ (sl [(2, .slice A3 n3 c3), (8, .pointer (some ⟨b28, 0, none⟩)), (9, .slice A155 n155 c155), (11, .pointer (some ⟨b167, 0, none⟩)), (13, .slice A181 n182 c183), (14, .int .i64 v188), (15, .int .i64 v189), (16, .pointer (some ⟨b219, 0, none⟩)), (17, .int .i64 v216.2)] τ) _ 16 _
       refine RA.done (by kernel_rfl) ?_
       refine CW.seq <| CW.region <| RW.st (Ex.assign (.int .i64 0) rfl) rfl <| RW.nil <| CW.block ?_
       obtain ⟨s277, rs278, hd279, hM⟩ := Mem.unfocus (α := List Sec) (Ts := [71]) (x := (ix v180 v189)) [.box b219 65 [.int .i64 v216.1.Size, .slice A218 n218 c218], .box b28 27 [.int .i64 v13.2.Site, .slice A20 n20 c20, .slice A21 n21 c21, .slice A22 n22 c22], .box b167 45 [.int .i64 v158.1.Base, .int .i64 v158.1.Number, .int .i64 v158.1.Time, .slice A161 n161 c161, .slice A162 n162 c162], .row (.slice A155 n155 c155) 68 1 n155 s155, .row (.slice A161 n161 c161) 3 1 n161 s161, .row (.slice A162 n162 c162) 100 3 n162 s162, .row (.slice A181 n182 c183) 61 1 n182 (c207 ++ ([.slice A206 n206 c206] ++ c208))] (Mem.pickT (L1 := [.box b219 65 [.int .i64 v216.1.Size, .slice A218 n218 c218], .row (.slice A206 n206 c206) 71 8 n206 s206, .box b28 27 [.int .i64 v13.2.Site, .slice A20 n20 c20, .slice A21 n21 c21, .slice A22 n22 c22], .box b167 45 [.int .i64 v158.1.Base, .int .i64 v158.1.Number, .int .i64 v158.1.Time, .slice A161 n161 c161, .slice A162 n162 c162], .row (.slice A155 n155 c155) 68 1 n155 s155, .row (.slice A161 n161 c161) 3 1 n161 s161, .row (.slice A162 n162 c162) 100 3 n162 s162, .row (.slice A181 n182 c183) 61 1 n182 (c207 ++ ([.slice A206 n206 c206] ++ c208))]) (T := rs209) hM [1, 0, 2, 3, 4, 5, 6, 7] rfl rfl) 6 rfl (hh210.mono hle254) ⟨A206, n206, c206, s206, rfl, rfl, (hF206.mono hle254), hn211⟩
       rw [put_ix hg205] at hd279
       replace hM : Mem w0 H w H253 (.box b219 65 [.int .i64 v216.1.Size, .slice A218 n218 c218] :: .box b28 27 [.int .i64 v13.2.Site, .slice A20 n20 c20, .slice A21 n21 c21, .slice A22 n22 c22] :: .box b167 45 [.int .i64 v158.1.Base, .int .i64 v158.1.Number, .int .i64 v158.1.Time, .slice A161 n161 c161, .slice A162 n162 c162] :: .row (.slice A155 n155 c155) 68 1 n155 s155 :: .row (.slice A161 n161 c161) 3 1 n161 s161 :: .row (.slice A162 n162 c162) 100 3 n162 s162 :: .row (.slice A181 n182 c183) 61 1 n182 s277 :: rs278) := hM
       obtain ⟨m377, hm⟩ := hm
       skip
       refine CW.loop (β := Nat) (fun n σ w => ∃ (v282 : List (List Sec)), ∃ (A283 : Option Addr), ∃ (n284 : Nat), ∃ (c285 : Nat), ∃ (s286 : List Value), ∃ (rs287 : List Ent), ∃ (v290 : Int), ∃ (v291 : Int), ∃ Hk280, H253.le Hk280 ∧ (∃ τ, σ = sl [(2, .slice A3 n3 c3), (8, .pointer (some ⟨b28, 0, none⟩)), (9, .slice A155 n155 c155), (11, .pointer (some ⟨b167, 0, none⟩)), (13, .slice A283 n284 c285), (14, .int .i64 v290), (15, .int .i64 v189), (16, .pointer (some ⟨b219, 0, none⟩)), (17, .int .i64 v216.2), (18, .int .i64 v291)] τ) ∧ Mem w0 H w Hk280 (.box b28 27 [.int .i64 v13.2.Site, .slice A20 n20 c20, .slice A21 n21 c21, .slice A22 n22 c22] :: .box b167 45 [.int .i64 v158.1.Base, .int .i64 v158.1.Number, .int .i64 v158.1.Time, .slice A161 n161 c161, .slice A162 n162 c162] :: .box b219 65 [.int .i64 v216.1.Size, .slice A218 n218 c218] :: .row (.slice A155 n155 c155) 68 1 n155 s155 :: .row (.slice A161 n161 c161) 3 1 n161 s161 :: .row (.slice A162 n162 c162) 100 3 n162 s162 :: .row (.slice A283 n284 c285) 61 1 n284 s286 :: rs287) ∧ (DeepL (α := List Sec) [71] Hk280 s286 v282 rs287) ∧ (n284 = v282.length) ∧ LoopN (law47_ReverseSettles_L4 x2 v189 rec2 v216 Φ) n (v282, v290, v291)) (fun n => n) m377 ⟨v180, A181, n182, c183, s277, rs278, v188, 0, H253, (Hp.le.refl _), sl_canon ⟨rfl, rfl, rfl, rfl, rfl, rfl, rfl, rfl, rfl, rfl, trivial⟩, (Mem.pickT (L1 := [.box b219 65 [.int .i64 v216.1.Size, .slice A218 n218 c218], .box b28 27 [.int .i64 v13.2.Site, .slice A20 n20 c20, .slice A21 n21 c21, .slice A22 n22 c22], .box b167 45 [.int .i64 v158.1.Base, .int .i64 v158.1.Number, .int .i64 v158.1.Time, .slice A161 n161 c161, .slice A162 n162 c162], .row (.slice A155 n155 c155) 68 1 n155 s155, .row (.slice A161 n161 c161) 3 1 n161 s161, .row (.slice A162 n162 c162) 100 3 n162 s162, .row (.slice A181 n182 c183) 61 1 n182 s277]) (T := rs278) hM [1, 2, 0, 3, 4, 5, 6] rfl rfl), hd279, hn187, hm⟩ ?_
       rintro k292 _ w ⟨v282, A283, n284, c285, s286, rs287, v290, v291, Hk280, hle281, ⟨τ, rfl⟩, hM, hd288, hn289, hm⟩
       obtain _ | k292 := k292
       · exact hm.elim
       replace hm : (law47_ReverseSettles_L4 x2 v189 rec2 v216 Φ) (v282, v290, v291) (LoopN (law47_ReverseSettles_L4 x2 v189 rec2 v216 Φ) k292) := hm
       generalize hrec293 : LoopN (law47_ReverseSettles_L4 x2 v189 rec2 v216 Φ) k292 = rec4 at hm
       refine CW.cut (fun D σ w => D = [] ∧ ∃ (v296 : List (List Sec)), ∃ (A297 : Option Addr), ∃ (n298 : Nat), ∃ (c299 : Nat), ∃ (s300 : List Value), ∃ (rs301 : List Ent), ∃ Hk294, Hk280.le Hk294 ∧ (∃ τ, σ = sl [(2, .slice A3 n3 c3), (8, .pointer (some ⟨b28, 0, none⟩)), (9, .slice A155 n155 c155), (11, .pointer (some ⟨b167, 0, none⟩)), (13, .slice A297 n298 c299), (14, .int .i64 v290), (15, .int .i64 v189), (16, .pointer (some ⟨b219, 0, none⟩)), (17, .int .i64 v216.2), (18, .int .i64 v291)] τ) ∧ Mem w0 H w Hk294 (.box b28 27 [.int .i64 v13.2.Site, .slice A20 n20 c20, .slice A21 n21 c21, .slice A22 n22 c22] :: .box b167 45 [.int .i64 v158.1.Base, .int .i64 v158.1.Number, .int .i64 v158.1.Time, .slice A161 n161 c161, .slice A162 n162 c162] :: .box b219 65 [.int .i64 v216.1.Size, .slice A218 n218 c218] :: .row (.slice A155 n155 c155) 68 1 n155 s155 :: .row (.slice A161 n161 c161) 3 1 n161 s161 :: .row (.slice A162 n162 c162) 100 3 n162 s162 :: .row (.slice A297 n298 c299) 61 1 n298 s300 :: rs301) ∧ (DeepL (α := List Sec) [71] Hk294 s300 v296 rs301) ∧ (n298 = v296.length) ∧ law47_ReverseSettles_J5 x2 v189 v216 v290 v291 rec4 Φ v296) ?_ ?_
       ·
        refine CW.seq <| CW.region <| RW.st (Ex.move (.int .i64 v291) rfl) rfl <| RW.st (Ex.move (.slice A283 n284 c285) rfl) rfl <| RW.st (Ex.move (.int .i64 v189) rfl) rfl ?_
        obtain ⟨hg356, hm⟩ := hm
        refine RW.st (Ex.index st25 rfl rfl v189.toNat (hM.rowNeD (α := List Sec) (p := 6) rfl hn289 hg356) hg356.nat (Nat.lt_of_lt_of_eq hg356.lt (hn289).symm)) rfl ?_
        obtain ⟨c358, _, c359, _, rs360, rfl, ⟨A357, n357, c357, s357, rfl, rfl, hF357, hn362⟩, hh361, hM⟩ := Mem.focus [.box b28 27 [.int .i64 v13.2.Site, .slice A20 n20 c20, .slice A21 n21 c21, .slice A22 n22 c22], .box b167 45 [.int .i64 v158.1.Base, .int .i64 v158.1.Number, .int .i64 v158.1.Time, .slice A161 n161 c161, .slice A162 n162 c162], .box b219 65 [.int .i64 v216.1.Size, .slice A218 n218 c218], .row (.slice A155 n155 c155) 68 1 n155 s155, .row (.slice A161 n161 c161) 3 1 n161 s161, .row (.slice A162 n162 c162) 100 3 n162 s162, .row (.slice A283 n284 c285) 61 1 n284 s286] hM hd288 hg356
        replace hM : Mem w0 H w Hk280 (.row (.slice A357 n357 c357) 71 8 n357 s357 :: .box b28 27 [.int .i64 v13.2.Site, .slice A20 n20 c20, .slice A21 n21 c21, .slice A22 n22 c22] :: .box b167 45 [.int .i64 v158.1.Base, .int .i64 v158.1.Number, .int .i64 v158.1.Time, .slice A161 n161 c161, .slice A162 n162 c162] :: .box b219 65 [.int .i64 v216.1.Size, .slice A218 n218 c218] :: .row (.slice A155 n155 c155) 68 1 n155 s155 :: .row (.slice A161 n161 c161) 3 1 n161 s161 :: .row (.slice A162 n162 c162) 100 3 n162 s162 :: .row (.slice A283 n284 c285) 61 1 n284 (c358 ++ ([.slice A357 n357 c357] ++ c359)) :: rs360) := hM
        have hx363 := Hole.get (ch := [.slice A357 n357 c357]) hh361
        refine RW.st (Ex.loadR hM 7 rfl to61 (hM.rowNeD (α := List Sec) (p := 7) rfl hn289 hg356) rfl (hx363 0 _ rfl)) rfl <| RW.st (Ex.lenN st61.1 rfl hn362) rfl <| RW.st (Ex.lss rfl rfl) rfl <| RW.st (Ex.move (.bool (decide (v291 < ((ix v282 v189).length : Int)))) rfl) rfl ?_
        refine RW.split 102 (p := v291 < ((ix v282 v189).length : Int)) rfl (fun hc364 => ?_) (fun hc364 => ?_)
        ·
         replace hm := And.left hm hc364
         refine RW.st (Ex.move (.int .i64 v216.2) rfl) rfl <| RW.st (Ex.eql rfl rfl) rfl <| RW.st (Ex.pickT (.bool (decide (v216.2 = 0))) rfl rfl) rfl <| RW.nil ?_
         refine CW.cond_dec (p := v216.2 = 0) rfl (fun hc365 => ?_) (fun hc365 => ?_)
         ·
          replace hm := And.left hm hc365
          refine CW.skip ?_
          obtain ⟨s366, rs367, hd368, hM⟩ := Mem.unfocus (α := List Sec) (Ts := [71]) (x := (ix v282 v189)) [.box b28 27 [.int .i64 v13.2.Site, .slice A20 n20 c20, .slice A21 n21 c21, .slice A22 n22 c22], .box b167 45 [.int .i64 v158.1.Base, .int .i64 v158.1.Number, .int .i64 v158.1.Time, .slice A161 n161 c161, .slice A162 n162 c162], .box b219 65 [.int .i64 v216.1.Size, .slice A218 n218 c218], .row (.slice A155 n155 c155) 68 1 n155 s155, .row (.slice A161 n161 c161) 3 1 n161 s161, .row (.slice A162 n162 c162) 100 3 n162 s162, .row (.slice A283 n284 c285) 61 1 n284 (c358 ++ ([.slice A357 n357 c357] ++ c359))] hM 6 rfl hh361 ⟨A357, n357, c357, s357, rfl, rfl, hF357, hn362⟩
          rw [put_ix hg356] at hd368
          replace hM : Mem w0 H w Hk280 (.box b28 27 [.int .i64 v13.2.Site, .slice A20 n20 c20, .slice A21 n21 c21, .slice A22 n22 c22] :: .box b167 45 [.int .i64 v158.1.Base, .int .i64 v158.1.Number, .int .i64 v158.1.Time, .slice A161 n161 c161, .slice A162 n162 c162] :: .box b219 65 [.int .i64 v216.1.Size, .slice A218 n218 c218] :: .row (.slice A155 n155 c155) 68 1 n155 s155 :: .row (.slice A161 n161 c161) 3 1 n161 s161 :: .row (.slice A162 n162 c162) 100 3 n162 s162 :: .row (.slice A283 n284 c285) 61 1 n284 s366 :: rs367) := hM
          exact And.intro rfl ⟨v282, A283, n284, c285, s366, rs367, Hk280, (Hp.le.refl _), sl_canon ⟨rfl, rfl, rfl, rfl, rfl, rfl, rfl, rfl, rfl, rfl, trivial⟩, hM, hd368, hn289, hm⟩
         ·
          replace hm := And.right hm hc365
          refine CW.exit ?_
          refine CW.region <| RW.st (Ex.move (.int .i64 v189) rfl) rfl ?_
          obtain ⟨hg369, hm⟩ := hm
          refine RW.st (Ex.add rfl rfl hg369.1 hg369.2) rfl <| RW.st (Ex.assign (.int .i64 (v189 + 1)) rfl) rfl <| RW.nil ?_
          obtain ⟨s370, rs371, hd372, hM⟩ := Mem.unfocus (α := List Sec) (Ts := [71]) (x := (ix v282 v189)) [.box b28 27 [.int .i64 v13.2.Site, .slice A20 n20 c20, .slice A21 n21 c21, .slice A22 n22 c22], .box b167 45 [.int .i64 v158.1.Base, .int .i64 v158.1.Number, .int .i64 v158.1.Time, .slice A161 n161 c161, .slice A162 n162 c162], .box b219 65 [.int .i64 v216.1.Size, .slice A218 n218 c218], .row (.slice A155 n155 c155) 68 1 n155 s155, .row (.slice A161 n161 c161) 3 1 n161 s161, .row (.slice A162 n162 c162) 100 3 n162 s162, .row (.slice A283 n284 c285) 61 1 n284 (c358 ++ ([.slice A357 n357 c357] ++ c359))] hM 6 rfl hh361 ⟨A357, n357, c357, s357, rfl, rfl, hF357, hn362⟩
          rw [put_ix hg356] at hd372
          replace hM : Mem w0 H w Hk280 (.box b28 27 [.int .i64 v13.2.Site, .slice A20 n20 c20, .slice A21 n21 c21, .slice A22 n22 c22] :: .box b167 45 [.int .i64 v158.1.Base, .int .i64 v158.1.Number, .int .i64 v158.1.Time, .slice A161 n161 c161, .slice A162 n162 c162] :: .box b219 65 [.int .i64 v216.1.Size, .slice A218 n218 c218] :: .row (.slice A155 n155 c155) 68 1 n155 s155 :: .row (.slice A161 n161 c161) 3 1 n161 s161 :: .row (.slice A162 n162 c162) 100 3 n162 s162 :: .row (.slice A283 n284 c285) 61 1 n284 s370 :: rs371) := hM
          exact And.intro rfl ⟨k190, ⟨v282, A283, n284, c285, s370, rs371, v290, v189 + 1, Hk280, hle179.trans (hle254.trans hle281), sl_canon ⟨rfl, rfl, rfl, rfl, rfl, rfl, rfl, trivial⟩, (Mem.pickT (L1 := [.box b28 27 [.int .i64 v13.2.Site, .slice A20 n20 c20, .slice A21 n21 c21, .slice A22 n22 c22], .box b167 45 [.int .i64 v158.1.Base, .int .i64 v158.1.Number, .int .i64 v158.1.Time, .slice A161 n161 c161, .slice A162 n162 c162], .box b219 65 [.int .i64 v216.1.Size, .slice A218 n218 c218], .row (.slice A155 n155 c155) 68 1 n155 s155, .row (.slice A161 n161 c161) 3 1 n161 s161, .row (.slice A162 n162 c162) 100 3 n162 s162, .row (.slice A283 n284 c285) 61 1 n284 s370]) (T := rs371) hM [0, 1, 3, 4, 5, 6] rfl rfl), hd372, hn289, (by rw [hrec191]; exact hm)⟩, Nat.lt_succ_self _⟩
        ·
         replace hm := And.right hm hc364
         refine RW.pass rfl rfl <| RW.pass rfl rfl <| RW.st (Ex.pickF (.bool false) rfl rfl) rfl <| RW.nil <| CW.cond_false rfl ?_
         refine CW.exit ?_
         refine CW.region <| RW.st (Ex.move (.int .i64 v189) rfl) rfl ?_
         obtain ⟨hg373, hm⟩ := hm
         refine RW.st (Ex.add rfl rfl hg373.1 hg373.2) rfl <| RW.st (Ex.assign (.int .i64 (v189 + 1)) rfl) rfl <| RW.nil ?_
         obtain ⟨s374, rs375, hd376, hM⟩ := Mem.unfocus (α := List Sec) (Ts := [71]) (x := (ix v282 v189)) [.box b28 27 [.int .i64 v13.2.Site, .slice A20 n20 c20, .slice A21 n21 c21, .slice A22 n22 c22], .box b167 45 [.int .i64 v158.1.Base, .int .i64 v158.1.Number, .int .i64 v158.1.Time, .slice A161 n161 c161, .slice A162 n162 c162], .box b219 65 [.int .i64 v216.1.Size, .slice A218 n218 c218], .row (.slice A155 n155 c155) 68 1 n155 s155, .row (.slice A161 n161 c161) 3 1 n161 s161, .row (.slice A162 n162 c162) 100 3 n162 s162, .row (.slice A283 n284 c285) 61 1 n284 (c358 ++ ([.slice A357 n357 c357] ++ c359))] hM 6 rfl hh361 ⟨A357, n357, c357, s357, rfl, rfl, hF357, hn362⟩
         rw [put_ix hg356] at hd376
         replace hM : Mem w0 H w Hk280 (.box b28 27 [.int .i64 v13.2.Site, .slice A20 n20 c20, .slice A21 n21 c21, .slice A22 n22 c22] :: .box b167 45 [.int .i64 v158.1.Base, .int .i64 v158.1.Number, .int .i64 v158.1.Time, .slice A161 n161 c161, .slice A162 n162 c162] :: .box b219 65 [.int .i64 v216.1.Size, .slice A218 n218 c218] :: .row (.slice A155 n155 c155) 68 1 n155 s155 :: .row (.slice A161 n161 c161) 3 1 n161 s161 :: .row (.slice A162 n162 c162) 100 3 n162 s162 :: .row (.slice A283 n284 c285) 61 1 n284 s374 :: rs375) := hM
         exact And.intro rfl ⟨k190, ⟨v282, A283, n284, c285, s374, rs375, v290, v189 + 1, Hk280, hle179.trans (hle254.trans hle281), sl_canon ⟨rfl, rfl, rfl, rfl, rfl, rfl, rfl, trivial⟩, (Mem.pickT (L1 := [.box b28 27 [.int .i64 v13.2.Site, .slice A20 n20 c20, .slice A21 n21 c21, .slice A22 n22 c22], .box b167 45 [.int .i64 v158.1.Base, .int .i64 v158.1.Number, .int .i64 v158.1.Time, .slice A161 n161 c161, .slice A162 n162 c162], .box b219 65 [.int .i64 v216.1.Size, .slice A218 n218 c218], .row (.slice A155 n155 c155) 68 1 n155 s155, .row (.slice A161 n161 c161) 3 1 n161 s161, .row (.slice A162 n162 c162) 100 3 n162 s162, .row (.slice A283 n284 c285) 61 1 n284 s374]) (T := rs375) hM [0, 1, 3, 4, 5, 6] rfl rfl), hd376, hn289, (by rw [hrec191]; exact hm)⟩, Nat.lt_succ_self _⟩
       rintro _ _ w ⟨rfl, v296, A297, n298, c299, s300, rs301, Hk294, hle295, ⟨τ, rfl⟩, hM, hd302, hn303, hm⟩
       refine CW.seq <| CW.block ?_
       refine CW.cut (fun D σ w => D = [] ∧ ∃ (v318 : Bool), ∃ Hk316, Hk294.le Hk316 ∧ (∃ τ, σ = sl [(2, .slice A3 n3 c3), (8, .pointer (some ⟨b28, 0, none⟩)), (9, .slice A155 n155 c155), (11, .pointer (some ⟨b167, 0, none⟩)), (13, .slice A297 n298 c299), (14, .int .i64 v290), (15, .int .i64 v189), (16, .pointer (some ⟨b219, 0, none⟩)), (17, .int .i64 v216.2), (18, .int .i64 v291), (116, .bool v318)] τ) ∧ Mem w0 H w Hk316 (.box b28 27 [.int .i64 v13.2.Site, .slice A20 n20 c20, .slice A21 n21 c21, .slice A22 n22 c22] :: .box b167 45 [.int .i64 v158.1.Base, .int .i64 v158.1.Number, .int .i64 v158.1.Time, .slice A161 n161 c161, .slice A162 n162 c162] :: .box b219 65 [.int .i64 v216.1.Size, .slice A218 n218 c218] :: .row (.slice A155 n155 c155) 68 1 n155 s155 :: .row (.slice A161 n161 c161) 3 1 n161 s161 :: .row (.slice A162 n162 c162) 100 3 n162 s162 :: .row (.slice A297 n298 c299) 61 1 n298 s300 :: rs301) ∧ law47_ReverseSettles_J7 x2 v189 v290 v291 rec4 v296 Φ v318) ?_ ?_
       ·
        refine CW.region <| RW.st (Ex.loadA hM 2 [.int .i64 v216.1.Size, .slice A218 n218 c218] ta65 rfl rfl rfl rfl) rfl <| RW.st (Ex.move (.int .i64 v291) rfl) rfl ?_
        refine RW.callP hM (ref02_Get_lift v216.1 v291 (hF218.mono (hle281.trans hle295)) hm) en27 rfl rfl rfl rfl ?_; rintro _ w H340 _ hle341 ⟨v339, hm, rfl, rfl⟩ hM
        replace hM : Mem w0 H w H340 (.box b28 27 [.int .i64 v13.2.Site, .slice A20 n20 c20, .slice A21 n21 c21, .slice A22 n22 c22] :: .box b167 45 [.int .i64 v158.1.Base, .int .i64 v158.1.Number, .int .i64 v158.1.Time, .slice A161 n161 c161, .slice A162 n162 c162] :: .box b219 65 [.int .i64 v216.1.Size, .slice A218 n218 c218] :: .row (.slice A155 n155 c155) 68 1 n155 s155 :: .row (.slice A161 n161 c161) 3 1 n161 s161 :: .row (.slice A162 n162 c162) 100 3 n162 s162 :: .row (.slice A297 n298 c299) 61 1 n298 s300 :: rs301) := hM
        refine RW.st (Ex.move (.bool v339) rfl) rfl ?_
        refine RW.split 111 (p := v339 = true) (bvar _) (fun hc342 => ?_) (fun hc342 => ?_)
        ·
         replace hm := And.left hm hc342
         refine RW.st (Ex.move (.int .i64 v290) rfl) rfl <| RW.st (Ex.move (.slice A3 n3 c3) rfl) rfl <| RW.st (Ex.lenN st61.1 rfl hF3.hn) rfl <| RW.st (Ex.lss rfl rfl) rfl <| RW.st (Ex.pickT (.bool (decide (v290 < (x2.length : Int)))) rfl rfl) rfl <| RW.nil ?_
         exact And.intro rfl ⟨decide (v290 < (x2.length : Int)), H340, hle341, sl_canon ⟨rfl, rfl, rfl, rfl, rfl, rfl, rfl, rfl, rfl, rfl, rfl, trivial⟩, hM, hm⟩
        ·
         replace hm := And.right hm hc342
         refine RW.pass rfl rfl <| RW.pass rfl rfl <| RW.pass rfl rfl <| RW.pass rfl rfl <| RW.st (Ex.pickF (.bool false) rfl rfl) rfl <| RW.nil ?_
         exact And.intro rfl ⟨false, H340, hle341, sl_canon ⟨rfl, rfl, rfl, rfl, rfl, rfl, rfl, rfl, rfl, rfl, rfl, trivial⟩, hM, hm⟩
       rintro _ _ w ⟨rfl, v318, Hk316, hle317, ⟨τ, rfl⟩, hM, hm⟩
       refine CW.cond_b rfl (fun hc319 => ?_) (fun hc319 => ?_)
       ·
        replace hm := And.left hm hc319
        refine CW.seq ?_
        obtain ⟨hg320, hm⟩ := hm
        obtain ⟨c322, _, c323, _, rs324, rfl, ⟨A321, n321, c321, s321, rfl, rfl, hF321, hn326⟩, hh325, hM⟩ := Mem.focus [.box b28 27 [.int .i64 v13.2.Site, .slice A20 n20 c20, .slice A21 n21 c21, .slice A22 n22 c22], .box b167 45 [.int .i64 v158.1.Base, .int .i64 v158.1.Number, .int .i64 v158.1.Time, .slice A161 n161 c161, .slice A162 n162 c162], .box b219 65 [.int .i64 v216.1.Size, .slice A218 n218 c218], .row (.slice A155 n155 c155) 68 1 n155 s155, .row (.slice A161 n161 c161) 3 1 n161 s161, .row (.slice A162 n162 c162) 100 3 n162 s162, .row (.slice A297 n298 c299) 61 1 n298 s300] hM (hd302.mono hle317) hg320
        replace hM : Mem w0 H w Hk316 (.row (.slice A321 n321 c321) 71 8 n321 s321 :: .box b28 27 [.int .i64 v13.2.Site, .slice A20 n20 c20, .slice A21 n21 c21, .slice A22 n22 c22] :: .box b167 45 [.int .i64 v158.1.Base, .int .i64 v158.1.Number, .int .i64 v158.1.Time, .slice A161 n161 c161, .slice A162 n162 c162] :: .box b219 65 [.int .i64 v216.1.Size, .slice A218 n218 c218] :: .row (.slice A155 n155 c155) 68 1 n155 s155 :: .row (.slice A161 n161 c161) 3 1 n161 s161 :: .row (.slice A162 n162 c162) 100 3 n162 s162 :: .row (.slice A297 n298 c299) 61 1 n298 (c322 ++ ([.slice A321 n321 c321] ++ c323)) :: rs324) := hM
        have hx327 := Hole.get (ch := [.slice A321 n321 c321]) hh325
        obtain ⟨hg328, hm⟩ := hm
        obtain ⟨_, rfl, hx329⟩ := DtL.getI (α := Sec) (hF3.mono (((((((((hle6.trans hle60).trans hle154).trans hle160).trans hle173).trans hle179).trans hle254).trans hle281).trans hle295).trans hle317)).dat hg328
        refine CW.drawE 9 [.slice A297 n298 c299, .int .i64 v189, elp A297 (v189.toNat * 1 + 0), .slice A321 n321 c321, .int .i64 v291, .slice A3 n3 c3, .int .i64 v290, elp A3 (v290.toNat * 8 + 0), .agg #[u8 (ix x2 v290).b0, u8 (ix x2 v290).b1, u8 (ix x2 v290).b2, u8 (ix x2 v290).b3, u8 (ix x2 v290).b4, u8 (ix x2 v290).b5, u8 (ix x2 v290).b6, u8 (ix x2 v290).b7]]
         [[(13, none)], [(15, none)], [(117, some 0), (118, some 1)], [(119, some 2)], [(18, none)], [(2, none)], [(14, none)], [(122, some 5), (123, some 6)], [(124, some 7)]] [(2, none), (8, none), (9, none), (11, none), (13, none), (14, none), (15, none), (16, none), (17, none), (18, none), (120, some 3), (121, some 4), (125, some 8)] (by kernel_rfl) hM (by kernel_rfl) ⟨?_, ?_, ?_, ?_, ?_, ?_, ?_, ?_, ?_, trivial⟩ ?_
        · exact One.ex (fun H' τ w hled hM => Ex.move (.slice A297 n298 c299) rfl) rfl (fun _ => rfl) rfl
        · exact One.ex (fun H' τ w hled hM => Ex.move (.int .i64 v189) rfl) rfl (fun _ => rfl) rfl
        · exact One.ex (fun H' τ w hled hM => Ex.index st25 rfl rfl v189.toNat (hM.rowNeD (α := List Sec) (p := 7) rfl hn303 hg320) hg320.nat (Nat.lt_of_lt_of_eq hg320.lt (hn303).symm)) rfl (fun _ => rfl) rfl
        · exact One.ex (fun H' τ w hled hM => Ex.loadR hM 7 rfl to61 (hM.rowNeD (α := List Sec) (p := 7) rfl hn303 hg320) rfl (hx327 0 _ rfl)) rfl (fun _ => rfl) rfl
        · exact One.ex (fun H' τ w hled hM => Ex.move (.int .i64 v291) rfl) rfl (fun _ => rfl) rfl
        · exact One.ex (fun H' τ w hled hM => Ex.move (.slice A3 n3 c3) rfl) rfl (fun _ => rfl) rfl
        · exact One.ex (fun H' τ w hled hM => Ex.move (.int .i64 v290) rfl) rfl (fun _ => rfl) rfl
        · exact One.ex (fun H' τ w hled hM => Ex.index st61 rfl rfl v290.toNat (hF3.ne hg328) hg328.nat (hF3.lt hg328)) rfl (fun _ => rfl) rfl
        · exact One.ex (fun H' τ w hled hM => Ex.loadEA hM ((((((((((hle6.trans hle60).trans hle154).trans hle160).trans hle173).trans hle179).trans hle254).trans hle281).trans hle295).trans hle317).trans hled) hF3.rdc [u8 (ix x2 v290).b0, u8 (ix x2 v290).b1, u8 (ix x2 v290).b2, u8 (ix x2 v290).b3, u8 (ix x2 v290).b4, u8 (ix x2 v290).b5, u8 (ix x2 v290).b6, u8 (ix x2 v290).b7] ta71 rfl (hF3.ne hg328) rfl (chunk_sub (off := 0) (n := 8) hx329 rfl)) rfl (fun _ => rfl) rfl
        intro τ w hM
        change RW _ _ _ _ _ _ _ _ (sl [(2, .slice A3 n3 c3), (8, .pointer (some ⟨b28, 0, none⟩)), (9, .slice A155 n155 c155), (11, .pointer (some ⟨b167, 0, none⟩)), (13, .slice A297 n298 c299), (14, .int .i64 v290), (15, .int .i64 v189), (16, .pointer (some ⟨b219, 0, none⟩)), (17, .int .i64 v216.2), (18, .int .i64 v291), (120, .slice A321 n321 c321), (121, .int .i64 v291), (125, .agg #[u8 (ix x2 v290).b0, u8 (ix x2 v290).b1, u8 (ix x2 v290).b2, u8 (ix x2 v290).b3, u8 (ix x2 v290).b4, u8 (ix x2 v290).b5, u8 (ix x2 v290).b6, u8 (ix x2 v290).b7])] τ) _
        obtain ⟨hg330, hm⟩ := hm
        refine RW.st (Ex.index st61 rfl rfl v291.toNat (hM.rowNeD (α := Sec) (p := 0) rfl hn326 hg330) hg330.nat (Nat.lt_of_lt_of_eq hg330.lt (hn326).symm)) rfl ?_
        refine RW.storeD (α := Sec) (off := 0) (x' := (ix x2 v290)) hM 0 hF321 (.agg #[u8 (ix x2 v290).b0, u8 (ix x2 v290).b1, u8 (ix x2 v290).b2, u8 (ix x2 v290).b3, u8 (ix x2 v290).b4, u8 (ix x2 v290).b5, u8 (ix x2 v290).b6, u8 (ix x2 v290).b7]) [u8 (ix x2 v290).b0, u8 (ix x2 v290).b1, u8 (ix x2 v290).b2, u8 (ix x2 v290).b3, u8 (ix x2 v290).b4, u8 (ix x2 v290).b5, u8 (ix x2 v290).b6, u8 (ix x2 v290).b7] sz71 rfl hn326 hg330 (Nat.le_of_ble_eq_true rfl) rfl rfl (oneAll ⟨rfl, rfl, rfl, rfl, rfl, rfl, rfl, rfl, trivial⟩) rfl (fun ch h => rdWhole h (show Dt.rd (α := Sec) _ [u8 (ix x2 v290).b0, u8 (ix x2 v290).b1, u8 (ix x2 v290).b2, u8 (ix x2 v290).b3, u8 (ix x2 v290).b4, u8 (ix x2 v290).b5, u8 (ix x2 v290).b6, u8 (ix x2 v290).b7] (ix x2 v290) from rfl)) rfl rfl ?_
        intro s331 w hd332 hM
        replace hM : Mem w0 H w Hk316 (.row (.slice A321 n321 c321) 71 8 n321 s331 :: .box b28 27 [.int .i64 v13.2.Site, .slice A20 n20 c20, .slice A21 n21 c21, .slice A22 n22 c22] :: .box b167 45 [.int .i64 v158.1.Base, .int .i64 v158.1.Number, .int .i64 v158.1.Time, .slice A161 n161 c161, .slice A162 n162 c162] :: .box b219 65 [.int .i64 v216.1.Size, .slice A218 n218 c218] :: .row (.slice A155 n155 c155) 68 1 n155 s155 :: .row (.slice A161 n161 c161) 3 1 n161 s161 :: .row (.slice A162 n162 c162) 100 3 n162 s162 :: .row (.slice A297 n298 c299) 61 1 n298 (c322 ++ ([.slice A321 n321 c321] ++ c323)) :: rs324) := hM
        refine RW.nil <| CW.region <| RW.st (Ex.move (.int .i64 v290) rfl) rfl ?_
        obtain ⟨hg333, hm⟩ := hm
        refine RW.st (Ex.add rfl rfl hg333.1 hg333.2) rfl <| RW.st (Ex.assign (.int .i64 (v290 + 1)) rfl) rfl <| RW.nil <| CW.region <| RW.st (Ex.move (.int .i64 v291) rfl) rfl ?_
        obtain ⟨hg334, hm⟩ := hm
        refine RW.st (Ex.add rfl rfl hg334.1 hg334.2) rfl <| RW.st (Ex.assign (.int .i64 (v291 + 1)) rfl) rfl <| RW.nil ?_
        obtain ⟨s335, rs336, hd337, hM⟩ := Mem.unfocus (α := List Sec) (Ts := [71]) (x := (put (ix v296 v189) v291 (ix x2 v290))) [.box b28 27 [.int .i64 v13.2.Site, .slice A20 n20 c20, .slice A21 n21 c21, .slice A22 n22 c22], .box b167 45 [.int .i64 v158.1.Base, .int .i64 v158.1.Number, .int .i64 v158.1.Time, .slice A161 n161 c161, .slice A162 n162 c162], .box b219 65 [.int .i64 v216.1.Size, .slice A218 n218 c218], .row (.slice A155 n155 c155) 68 1 n155 s155, .row (.slice A161 n161 c161) 3 1 n161 s161, .row (.slice A162 n162 c162) 100 3 n162 s162, .row (.slice A297 n298 c299) 61 1 n298 (c322 ++ ([.slice A321 n321 c321] ++ c323))] hM 6 rfl hh325 ⟨A321, n321, c321, s331, rfl, rfl, hd332, (hn326).trans (put_len _ _ _).symm⟩
        replace hM : Mem w0 H w Hk316 (.box b28 27 [.int .i64 v13.2.Site, .slice A20 n20 c20, .slice A21 n21 c21, .slice A22 n22 c22] :: .box b167 45 [.int .i64 v158.1.Base, .int .i64 v158.1.Number, .int .i64 v158.1.Time, .slice A161 n161 c161, .slice A162 n162 c162] :: .box b219 65 [.int .i64 v216.1.Size, .slice A218 n218 c218] :: .row (.slice A155 n155 c155) 68 1 n155 s155 :: .row (.slice A161 n161 c161) 3 1 n161 s161 :: .row (.slice A162 n162 c162) 100 3 n162 s162 :: .row (.slice A297 n298 c299) 61 1 n298 s335 :: rs336) := hM
        exact And.intro rfl ⟨k292, ⟨(put v296 v189 (put (ix v296 v189) v291 (ix x2 v290))), A297, n298, c299, s335, rs336, v290 + 1, v291 + 1, Hk316, hle281.trans (hle295.trans hle317), sl_canon ⟨rfl, rfl, rfl, rfl, rfl, rfl, rfl, rfl, rfl, rfl, trivial⟩, hM, hd337, (hn303).trans (put_len _ _ _).symm, (by rw [hrec293]; exact hm)⟩, Nat.lt_succ_self _⟩
       ·
        replace hm := And.right hm hc319
        refine CW.skip <| CW.region <| RW.st (Ex.move (.int .i64 v291) rfl) rfl ?_
        obtain ⟨hg338, hm⟩ := hm
        refine RW.st (Ex.add rfl rfl hg338.1 hg338.2) rfl <| RW.st (Ex.assign (.int .i64 (v291 + 1)) rfl) rfl <| RW.nil ?_
        exact And.intro rfl ⟨k292, ⟨v296, A297, n298, c299, s300, rs301, v290, v291 + 1, Hk316, hle281.trans (hle295.trans hle317), sl_canon ⟨rfl, rfl, rfl, rfl, rfl, rfl, rfl, rfl, rfl, rfl, trivial⟩, hM, (hd302.mono hle317), hn303, (by rw [hrec293]; exact hm)⟩, Nat.lt_succ_self _⟩
    ·
     replace hm := And.right hm hc192
     refine CW.exit ?_
     refine CW.seq <| CW.region <| RW.st (Ex.move (.slice A181 n182 c183) rfl) rfl <| RW.st (Ex.loadA hM 1 [.int .i64 v158.1.Base, .int .i64 v158.1.Number, .int .i64 v158.1.Time, .slice A161 n161 c161, .slice A162 n162 c162] ta45 rfl rfl rfl rfl) rfl ?_
     obtain ⟨H378, hM, hle379, hd380⟩ := DeepL.flat (es := [.box b28 27 [.int .i64 v13.2.Site, .slice A20 n20 c20, .slice A21 n21 c21, .slice A22 n22 c22], .box b167 45 [.int .i64 v158.1.Base, .int .i64 v158.1.Number, .int .i64 v158.1.Time, .slice A161 n161 c161, .slice A162 n162 c162], .row (.slice A155 n155 c155) 68 1 n155 s155, .row (.slice A161 n161 c161) 3 1 n161 s161, .row (.slice A162 n162 c162) 100 3 n162 s162, .row (.slice A181 n182 c183) 61 1 n182 s184]) hM hd186
     replace hM : Mem w0 H w H378 [.box b28 27 [.int .i64 v13.2.Site, .slice A20 n20 c20, .slice A21 n21 c21, .slice A22 n22 c22], .box b167 45 [.int .i64 v158.1.Base, .int .i64 v158.1.Number, .int .i64 v158.1.Time, .slice A161 n161 c161, .slice A162 n162 c162], .row (.slice A155 n155 c155) 68 1 n155 s155, .row (.slice A161 n161 c161) 3 1 n161 s161, .row (.slice A162 n162 c162) 100 3 n162 s162, .row (.slice A181 n182 c183) 61 1 n182 s184] := hM
     obtain ⟨H381, hM, hle382, hF383⟩ := hM.giveF (α := List Sec) 5 rfl hd380 hn187
     replace hM : Mem w0 H w H381 [.box b28 27 [.int .i64 v13.2.Site, .slice A20 n20 c20, .slice A21 n21 c21, .slice A22 n22 c22], .box b167 45 [.int .i64 v158.1.Base, .int .i64 v158.1.Number, .int .i64 v158.1.Time, .slice A161 n161 c161, .slice A162 n162 c162], .row (.slice A155 n155 c155) 68 1 n155 s155, .row (.slice A161 n161 c161) 3 1 n161 s161, .row (.slice A162 n162 c162) 100 3 n162 s162] := hM
     obtain ⟨H384, hM, hle385, hF386⟩ := hM.giveF (α := Int) 3 rfl (hd163.mono (((hle173.trans hle179).trans hle379).trans hle382)) hn164
     replace hM : Mem w0 H w H384 [.box b28 27 [.int .i64 v13.2.Site, .slice A20 n20 c20, .slice A21 n21 c21, .slice A22 n22 c22], .box b167 45 [.int .i64 v158.1.Base, .int .i64 v158.1.Number, .int .i64 v158.1.Time, .slice A161 n161 c161, .slice A162 n162 c162], .row (.slice A155 n155 c155) 68 1 n155 s155, .row (.slice A162 n162 c162) 100 3 n162 s162] := hM
     obtain ⟨H387, hM, hle388, hF389⟩ := hM.giveF (α := api_Write) 3 rfl (hd165.mono ((((hle173.trans hle179).trans hle379).trans hle382).trans hle385)) hn166
     replace hM : Mem w0 H w H387 [.box b28 27 [.int .i64 v13.2.Site, .slice A20 n20 c20, .slice A21 n21 c21, .slice A22 n22 c22], .box b167 45 [.int .i64 v158.1.Base, .int .i64 v158.1.Number, .int .i64 v158.1.Time, .slice A161 n161 c161, .slice A162 n162 c162], .row (.slice A155 n155 c155) 68 1 n155 s155] := hM
     refine RW.callP hM (cycle_Apply_lift v180 v158.1 (hF383.mono (hle385.trans hle388)) (hF386.mono hle388) hF389 hm) en23 rfl rfl rfl rfl ?_; rintro _ w H391 _ hle392 ⟨v390, hm, A393, n393, c393, s393, rfl, hF393, rfl⟩ hM
     replace hM : Mem w0 H w H391 [.box b28 27 [.int .i64 v13.2.Site, .slice A20 n20 c20, .slice A21 n21 c21, .slice A22 n22 c22], .box b167 45 [.int .i64 v158.1.Base, .int .i64 v158.1.Number, .int .i64 v158.1.Time, .slice A161 n161 c161, .slice A162 n162 c162], .row (.slice A155 n155 c155) 68 1 n155 s155] := hM
     refine RW.st (Ex.move (.tuple #[.slice A393 n393 c393, .int .i64 v390.2]) rfl) rfl <| RW.st (Ex.extract rfl rfl) rfl <| RW.st (Ex.extract rfl rfl) rfl <| RW.st (Ex.assign (.slice A393 n393 c393) rfl) rfl <| RW.st (Ex.assign (.int .i64 v390.2) rfl) rfl <| RW.nil <| CW.seq <| CW.region ?_
     refine RW.callP hM (law47_awake_lift (hT.mono ((((((((((hle6.trans hle60).trans hle154).trans hle160).trans hle173).trans hle179).trans hle379).trans hle382).trans hle385).trans hle388).trans hle392)) hm) en11 rfl rfl rfl rfl ?_; rintro _ w H398 _ hle399 ⟨v397, hm, rfl, rfl⟩ hM
     replace hM : Mem w0 H w H398 [.box b28 27 [.int .i64 v13.2.Site, .slice A20 n20 c20, .slice A21 n21 c21, .slice A22 n22 c22], .box b167 45 [.int .i64 v158.1.Base, .int .i64 v158.1.Number, .int .i64 v158.1.Time, .slice A161 n161 c161, .slice A162 n162 c162], .row (.slice A155 n155 c155) 68 1 n155 s155] := hM
     refine RW.st (Ex.move (.bool v397) rfl) rfl ?_
     refine RW.split 136 (p := v397 = true) (bvar _) (fun hc400 => ?_) (fun hc400 => ?_)
     ·
      replace hm := And.left hm hc400
      refine RW.st (Ex.move (.int .i64 v390.2) rfl) rfl <| RW.st (Ex.eql rfl rfl) rfl <| RW.st (Ex.pickT (.bool (decide (v390.2 = 0))) rfl rfl) rfl <| RW.st (Ex.move (.bool (decide (v390.2 = 0))) rfl) rfl ?_
      refine RW.split 140 (p := v390.2 = 0) rfl (fun hc401 => ?_) (fun hc401 => ?_)
      ·
       replace hm := And.left hm hc401
       refine RW.st (Ex.move (.slice A393 n393 c393) rfl) rfl <| RW.st (Ex.fieldAddr fa27_3 rfl) rfl <| RW.st (Ex.load1 hM 0 to25 rfl rfl rfl) rfl ?_
       refine RW.callP hM (ref07_Same_lift v390.1 v13.2.Image (hF393.mono hle399) (hF22.mono (((((((((hle154.trans hle160).trans hle173).trans hle179).trans hle379).trans hle382).trans hle385).trans hle388).trans hle392).trans hle399)) hm) en24 rfl rfl rfl rfl ?_; rintro _ w H403 _ hle404 ⟨v402, hm, rfl, rfl⟩ hM
       replace hM : Mem w0 H w H403 [.box b28 27 [.int .i64 v13.2.Site, .slice A20 n20 c20, .slice A21 n21 c21, .slice A22 n22 c22], .box b167 45 [.int .i64 v158.1.Base, .int .i64 v158.1.Number, .int .i64 v158.1.Time, .slice A161 n161 c161, .slice A162 n162 c162], .row (.slice A155 n155 c155) 68 1 n155 s155] := hM
       refine RW.st (Ex.pickT (.bool v402) rfl rfl) rfl <| RW.st (Ex.assign (.bool v402) rfl) rfl <| RW.nil <| CW.ret ?_
       refine end_tmp (.inl rfl) rfl (.bool v402) rfl ?_
       exact ⟨_, _, (hM.pick [] rfl rfl), v402, hm, rfl, rfl⟩
      ·
       replace hm := And.right hm hc401
       refine RW.pass rfl rfl <| RW.pass rfl rfl <| RW.pass rfl rfl <| RW.pass rfl rfl <| RW.st (Ex.pickF (.bool false) rfl rfl) rfl <| RW.st (Ex.assign (.bool false) rfl) rfl <| RW.nil <| CW.ret ?_
       refine end_tmp (.inl rfl) rfl (.bool false) rfl ?_
       exact ⟨_, _, (hM.pick [] rfl rfl), false, hm, rfl, rfl⟩
     ·
      replace hm := And.right hm hc400
      refine RW.pass rfl rfl <| RW.pass rfl rfl <| RW.st (Ex.pickF (.bool false) rfl rfl) rfl <| RW.st (Ex.move (.bool false) rfl) rfl <| RW.pass rfl rfl <| RW.pass rfl rfl <| RW.pass rfl rfl <| RW.pass rfl rfl <| RW.st (Ex.pickF (.bool false) rfl rfl) rfl <| RW.st (Ex.assign (.bool false) rfl) rfl <| RW.nil <| CW.ret ?_
      refine end_tmp (.inl rfl) rfl (.bool false) rfl ?_
      exact ⟨_, _, (hM.pick [] rfl rfl), false, hm, rfl, rfl⟩
end Go.Proofs.YtahlanamngfkcaaDoor

namespace Go.Proofs.YtahlanamngfkcaaDoor
open Go.RowKit
theorem iI {x : Int} (h1 : -9223372036854775808 ≤ x) (h2 : x ≤ 9223372036854775807) : inI x := ⟨h1, h2⟩
theorem iX {i : Int} {n : Nat} (h1 : 0 ≤ i) (h2 : i < (n : Int)) : inX i n := ⟨h1, h2⟩
theorem iS {a b : Int} {n : Nat} (h1 : 0 ≤ a) (h2 : a ≤ b) (h3 : b ≤ (n : Int)) : inS a b n := ⟨h1, h2, h3⟩
theorem iL {n b : Nat} (h : n ≤ 1000000) (hb : b ≤ 1000000) : lenOk n b := by
  have := Nat.mul_le_mul h hb
  refine ⟨by omega, ?_⟩
  simp only [maxLen]
  omega
section
variable {α : Type} [Dt α]
theorem ix_get {xs : List α} {k : Nat} (h : k < xs.length) : ix xs (k : Int) = xs[k] := by
  show xs.getD k default = _
  rw [List.getD_eq_getElem?_getD, List.getElem?_eq_getElem h]; rfl
theorem take_ix {xs : List α} {k : Nat} (h : k < xs.length) : xs.take (k + 1) = xs.take k ++ [ix xs (k : Int)] := by
  rw [ix_get h]; exact (List.take_append_getElem h).symm
theorem ix_mem {xs : List α} {i : Int} (h : inX i xs.length) : ix xs i ∈ xs := by
  have e := h.nat
  have hl := h.lt
  rw [e, ix_get hl]
  exact List.getElem_mem hl
theorem drop_ix {xs : List α} {k : Nat} (h : k < xs.length) : xs.drop k = ix xs (k : Int) :: xs.drop (k + 1) := by
  rw [ix_get h]; exact List.drop_eq_getElem_cons h
theorem ext_ix {xs ys : List α} (hl : xs.length = ys.length) (h : ∀ k : Nat, k < xs.length → ix xs (k : Int) = ix ys (k : Int)) : xs = ys := by
  apply List.ext_getElem hl
  intro k h1 h2
  have := h k h1
  rwa [ix_get h1, ix_get h2] at this
end
section
variable {A : Type}
theorem LoopW.up {step : Int → (Int → Prop) → Prop} (n : Nat) (Inv : Nat → Prop) (h : ∀ (k : Nat) rec, k ≤ n → Inv k → (k < n → Inv (k + 1) → rec ((k : Int) + 1)) → step (k : Int) rec) {k0 : Nat} {i0 : Int} (hi : i0 = (k0 : Int)) (hk : k0 ≤ n) (h0 : Inv k0) : LoopW step i0 := by
  subst hi
  refine LoopW.of_inv (fun i => ∃ k : Nat, i = (k : Int) ∧ k ≤ n ∧ Inv k) (fun i => n - i.toNat) ?_ ⟨k0, rfl, hk, h0⟩
  rintro _ rec ⟨k, rfl, hk, hI⟩ hrec
  refine h k rec hk hI fun hlt hI' => hrec _ ⟨k + 1, rfl, hlt, hI'⟩ ?_
  simp only [Int.toNat_natCast]
  omega
theorem LoopW.up2 {step : A × Int → (A × Int → Prop) → Prop} (n : Nat) (Inv : Nat → A → Prop) (h : ∀ (k : Nat) a rec, k ≤ n → Inv k a → (∀ a', k < n → Inv (k + 1) a' → rec (a', (k : Int) + 1)) → step (a, (k : Int)) rec) {a0 : A} {k0 : Nat} {i0 : Int} (hi : i0 = (k0 : Int)) (hk : k0 ≤ n) (h0 : Inv k0 a0) : LoopW step (a0, i0) := by
  subst hi
  refine LoopW.of_inv (fun s => ∃ k : Nat, s.2 = (k : Int) ∧ k ≤ n ∧ Inv k s.1) (fun s => n - s.2.toNat) ?_ ⟨k0, rfl, hk, h0⟩
  rintro ⟨a, _⟩ rec ⟨k, rfl, hk, hI⟩ hrec
  refine h k a rec hk hI fun a' hlt hI' => hrec (a', (k : Int) + 1) ⟨k + 1, rfl, hlt, hI'⟩ ?_
  simp only [Int.toNat_natCast]
  omega
theorem LoopW.upS {S : Type} {step : S → (S → Prop) → Prop} (n : Nat) (idx : S → Int) (Inv : Nat → S → Prop) (h : ∀ (k : Nat) s rec, k ≤ n → idx s = (k : Int) → Inv k s → (∀ s', k < n → idx s' = (k : Int) + 1 → Inv (k + 1) s' → rec s') → step s rec) {s0 : S} (k0 : Nat) (hi : idx s0 = (k0 : Int)) (hk : k0 ≤ n) (h0 : Inv k0 s0) : LoopW step s0 := by
  refine LoopW.of_inv (fun s => ∃ k : Nat, idx s = (k : Int) ∧ k ≤ n ∧ Inv k s) (fun s => n - (idx s).toNat) ?_ ⟨k0, hi, hk, h0⟩
  rintro s rec ⟨k, he, hk, hI⟩ hrec
  refine h k s rec hk he hI fun s' hlt he' hI' => hrec s' ⟨k + 1, by rw [he']; rfl, hlt, hI'⟩ ?_
  show n - (idx s').toNat < n - (idx s).toNat
  rw [he, he']
  omega
theorem LoopW.mapL {α β : Type} [Dt α] {step : List β × Int → (List β × Int → Prop) → Prop} (xs : List α) (f : α → β) (h : ∀ (k : Nat) (a : List β) rec, k < xs.length → a.length = k → a = (xs.take k).map f → rec (a ++ [f (ix xs (k : Int))], (k : Int) + 1) → step (a, (k : Int)) rec)
    (he : ∀ rec, step (xs.map f, (xs.length : Int)) rec) : LoopW step ([], 0) := by
  refine LoopW.up2 xs.length (fun k a => a = (xs.take k).map f) ?_ rfl (Nat.zero_le _) rfl
  intro k a rec hk hI hrec
  rcases Nat.lt_or_ge k xs.length with hlt | hge
  · refine h k a rec hlt (by rw [hI, List.length_map, List.length_take]; omega) hI (hrec _ hlt ?_)
    rw [take_ix hlt, List.map_append, hI]; rfl
  · have e : k = xs.length := by omega
    subst e
    rw [List.take_length] at hI
    rw [hI]; exact he rec
def firstN (f : Nat → Int) : Nat → Int
  | 0 => 0
  | n + 1 => if firstN f n ≠ 0 then firstN f n else f n
theorem firstN_hit {f : Nat → Int} : ∀ {n k : Nat}, k < n → (∀ j, j < k → f j = 0) → f k ≠ 0 → firstN f n = f k
  | 0, _, hk, _, _ => by omega
  | n + 1, k, hk, h0, h1 => by
    unfold firstN
    rcases Nat.lt_or_ge k n with h | h
    · rw [firstN_hit h h0 h1, if_pos h1]
    · have e : k = n := by omega
      subst e
      have : firstN f k = 0 := by
        clear h1 hk h
        induction k with
        | zero => rfl
        | succ k ih => unfold firstN; rw [ih fun j hj => h0 j (by omega), if_neg (by simp), h0 k (by omega)]
      rw [this, if_neg (by simp)]
theorem firstN_zero {f : Nat → Int} : ∀ {n : Nat}, firstN f n = 0 ↔ ∀ k, k < n → f k = 0
  | 0 => by simp [firstN]
  | n + 1 => by
    unfold firstN
    constructor
    · intro h k hk
      by_cases h1 : firstN f n ≠ 0
      · rw [if_pos h1] at h; exact absurd h h1
      · rw [if_neg h1] at h
        rcases Nat.lt_or_ge k n with hlt | hge
        · exact (firstN_zero.1 (Classical.not_not.1 h1)) k hlt
        · have : k = n := by omega
          subst this; exact h
    · intro h
      rw [if_neg (by rw [firstN_zero.2 fun k hk => h k (by omega)]; simp), h n (by omega)]
theorem LoopW.firstL {step : Int → (Int → Prop) → Prop} (n : Nat) (f : Nat → Int) {Φ : Int → Prop} (hΦ : Φ (firstN f n)) (h : ∀ (k : Nat) rec, k < n → (∀ j, j < k → f j = 0) → (f k ≠ 0 → Φ (f k)) → (f k = 0 → rec ((k : Int) + 1)) → step (k : Int) rec)
    (he : ∀ rec, Φ 0 → (∀ j, j < n → f j = 0) → step (n : Int) rec) : LoopW step 0 := by
  refine LoopW.up n (fun k => ∀ j, j < k → f j = 0) ?_ rfl (Nat.zero_le _) (fun j hj => absurd hj (Nat.not_lt_zero j))
  intro k rec hk hI hrec
  rcases Nat.lt_or_ge k n with hlt | hge
  · refine h k rec hlt hI (fun h1 => by rw [← firstN_hit hlt hI h1]; exact hΦ) fun h0 => hrec hlt fun j hj => ?_
    rcases Nat.lt_or_ge j k with h2 | h2
    · exact hI j h2
    · have : j = k := by omega
      subst this; exact h0
  · have e : k = n := by omega
    subst e
    exact he rec (by rw [firstN_zero.2 hI] at hΦ; exact hΦ) hI
def allN (p : Nat → Bool) (n : Nat) : Bool := (List.range n).all p
theorem allN_true {p : Nat → Bool} {n : Nat} : allN p n = true ↔ ∀ k, k < n → p k = true := by simp [allN]
theorem allN_false {p : Nat → Bool} {n k : Nat} (hk : k < n) (h : p k = false) : allN p n = false := by
  cases hx : allN p n with
  | false => rfl
  | true => rw [allN_true.1 hx k hk] at h; cases h
theorem LoopW.allL {step : Int → (Int → Prop) → Prop} (n : Nat) (p : Nat → Bool) {Φ : Bool → Prop} (hΦ : Φ (allN p n)) (h : ∀ (k : Nat) rec, k < n → (∀ j, j < k → p j = true) → (p k = false → Φ false) → (p k = true → rec ((k : Int) + 1)) → step (k : Int) rec)
    (he : ∀ rec, Φ true → (∀ j, j < n → p j = true) → step (n : Int) rec) : LoopW step 0 := by
  refine LoopW.up n (fun k => ∀ j, j < k → p j = true) ?_ rfl (Nat.zero_le _) (fun j hj => absurd hj (Nat.not_lt_zero j))
  intro k rec hk hI hrec
  rcases Nat.lt_or_ge k n with hlt | hge
  · refine h k rec hlt hI (fun h1 => by rw [allN_false hlt h1] at hΦ; exact hΦ) fun h0 => hrec hlt fun j hj => ?_
    rcases Nat.lt_or_ge j k with h2 | h2
    · exact hI j h2
    · have : j = k := by omega
      subst this; exact h0
  · have e : k = n := by omega
    subst e
    exact he rec (by rw [allN_true.2 hI] at hΦ; exact hΦ) hI
end
end Go.Proofs.YtahlanamngfkcaaDoor

namespace Go.Proofs.YtahlanamngfkcaaDoor
open Go.RowKit
theorem ofInt_mod (k : Nat) : ((BitVec.ofInt 64 ((k : Int) % 64)).toNat : Int).toNat = k % 64 := by
  rw [BitVec.toNat_ofInt]; omega
theorem bitw_prop {b : api_Bitmap} {k : Nat} : ((((ix b.Words ((k : Int) / 64)) >>> ((BitVec.ofInt 64 ((k : Int) % 64)).toNat : Int).toNat) &&& (1#64)) = (1#64)) ↔ bitN b.Words k = true := by
  rw [ofInt_mod, bit_shift]
  unfold bitN
  rw [show ix b.Words ((k : Int) / 64) = b.Words.getD (k / 64) 0#64 from by show b.Words.getD ((k : Int) / 64).toNat default = _; rw [show ((k : Int) / 64).toNat = k / 64 by omega]; rfl]
theorem ref02_bit_ok {b : api_Bitmap} {k : Nat} {Φ : Bool → Prop} (hl : b.Words.length ≤ 1000000) (hk : k < 64 * b.Words.length) (hΦ : Φ (bitN b.Words k)) : ref02_bit_W b (k : Int) Φ := by
  refine ⟨⟨by omega, iI (by omega) (by omega)⟩, iX (by omega) (by omega), by omega, ?_⟩
  have e : decide ((((ix b.Words ((k : Int) / 64)) >>> ((BitVec.ofInt 64 ((k : Int) % 64)).toNat : Int).toNat) &&& (1#64)) = (1#64)) = bitN b.Words k := by
    rw [Bool.eq_iff_iff, decide_eq_true_iff]; exact bitw_prop
  rw [e]; exact hΦ
def chkB (b : api_Bitmap) : Int := chk b.Size b.Words
theorem ref02_Check_ok {b : api_Bitmap} {Φ : Int → Prop} (hΦ : Φ (chkB b)) : ref02_Check_W b Φ := by
  refine ⟨fun h1 h2 => ⟨iI (by omega) (by omega), by omega, iI (by omega) (by omega)⟩, fun h => ?_, fun h => ?_⟩
  · unfold chkB at hΦ; rw [chk_bad (by omega)] at hΦ; exact hΦ
  · have hn : 0 ≤ b.Size ∧ b.Size ≤ 4096 ∧ (b.Words.length : Int) = (b.Size + 63) / 64 := by omega
    refine LoopW.up (64 * b.Words.length) (fun k => b.Size ≤ (k : Int) ∧ ∀ i : Nat, b.Size ≤ (i : Int) → i < k → bitN b.Words i = false) ?_ (k0 := b.Size.toNat) (by omega) (by omega) ⟨by omega, fun i h1 h2 => by omega⟩
    intro k rec hk hz hrec
    refine ⟨iI (by omega) (by omega), fun hlt => ref02_bit_ok (by omega) (by omega) ⟨fun hb => ?_, fun hb => ⟨iI (by omega) (by omega), hrec (by omega) ⟨by omega, zstep hz.2 hb⟩⟩⟩, fun hge => ?_⟩
    · unfold chkB at hΦ; rw [chk_set (show k < 64 * b.Words.length by omega) hz.1 hb] at hΦ; exact hΦ
    · unfold chkB at hΦ; rw [chk_ok hn.1 hn.2.1 hn.2.2 fun i h1 h2 => hz.2 i h2 (by omega)] at hΦ; exact hΦ
theorem bitmap_Check_ok {b : api_Bitmap} {Φ : Int → Prop} (hΦ : Φ (chkB b)) : bitmap_Check_W b Φ := by
  unfold chkB at hΦ
  refine ⟨fun h => ?_, fun h1 => ⟨fun h2 => ?_, fun h2 => ⟨(b.Size + 64 - 1) / 64, ⟨iI (by omega) (by omega), iI (by omega) (by omega), ⟨by omega, iI (by omega) (by omega)⟩, rfl⟩, fun h3 => ?_, fun h3 => ?_⟩⟩⟩
  · rw [chk_bad (by omega)] at hΦ; exact hΦ
  · rw [chk_bad (by omega)] at hΦ; exact hΦ
  · rw [chk_bad (by omega)] at hΦ; exact hΦ
  · have e : ∀ h : 0 < b.Size % 64, ix b.Words ((b.Words.length : Int) - 1) = b.Words.getD (b.Words.length - 1) 0#64 := fun h => by
      show b.Words.getD ((b.Words.length : Int) - 1).toNat default = _
      rw [show ((b.Words.length : Int) - 1).toNat = b.Words.length - 1 by omega]; rfl
    refine ⟨by omega, fun h4 => ⟨iI (by omega) (by omega), iX (by omega) (by omega), by omega⟩, fun h4 => ?_, fun h4 => ?_⟩
    · rw [e h4.1] at h4
      rw [chk_top (by omega) (by omega) (by omega) h4.1 h4.2] at hΦ; exact hΦ
    · rw [chk_top_ok (by omega) (by omega) (by omega) fun h5 => by rw [e h5] at h4; exact Classical.not_not.1 fun h6 => h4 ⟨h5, h6⟩] at hΦ; exact hΦ
theorem chkB_len {b : api_Bitmap} (h : ¬ chkB b ≠ 0) : 0 ≤ b.Size ∧ b.Size ≤ 4096 ∧ (b.Words.length : Int) = (b.Size + 63) / 64 := wf_len (Classical.not_not.1 h)
def toX (e : Int × Int) : api_Extent := ⟨e.1, e.2⟩
def exts (b : api_Bitmap) : List api_Extent := (extR b.Size b.Words).map toX
theorem ix_toX (es : List (Int × Int)) (k : Nat) : ix (es.map toX) (k : Int) = toX (es.getD k (0, 0)) := by
  show (es.map toX).getD k default = _
  rw [List.getD_eq_getElem?_getD, List.getD_eq_getElem?_getD, List.getElem?_map]
  cases es[k]? <;> rfl
theorem exts_len (b : api_Bitmap) : (exts b).length ≤ 4096 := by
  unfold exts extR
  rw [List.length_map]
  split
  · exact Nat.zero_le _
  · rename_i h
    have := (extsK_facts b.Words b.Size.toNat).2
    have := wf_len (Classical.not_not.1 h)
    omega
end Go.Proofs.YtahlanamngfkcaaDoor

namespace Go.Proofs.YtahlanamngfkcaaDoor
open Go.RowKit
theorem bit_zip (op : BitVec 64 → BitVec 64 → BitVec 64) (f : Bool → Bool → Bool) (hf : ∀ a b j, j < 64 → (op a b).getLsbD j = f (a.getLsbD j) (b.getLsbD j)) {ws vs : List (BitVec 64)} (hl : ws.length = vs.length) {i : Nat} (hi : i < 64 * ws.length) : bitN (List.zipWith op ws vs) i = f (bitN ws i) (bitN vs i) := by
  have h1 : i / 64 < ws.length := by omega
  have h2 : i / 64 < vs.length := by omega
  unfold bitN
  rw [List.getD_eq_getElem?_getD, zip_get h1 h2, Option.getD_some, hf _ _ _ (Nat.mod_lt _ (by decide))]
theorem bit_or {ws vs : List (BitVec 64)} (hl : ws.length = vs.length) {i : Nat} (hi : i < 64 * ws.length) : bitN (List.zipWith (fun a b => a ||| b) ws vs) i = (bitN ws i || bitN vs i) := bit_zip _ (· || ·) (fun _ _ _ _ => BitVec.getLsbD_or) hl hi
theorem chk_iff {n : Int} {ws : List (BitVec 64)} : chk n ws = 0 ↔ 0 ≤ n ∧ n ≤ 4096 ∧ (ws.length : Int) = (n + 63) / 64 ∧ ∀ i : Nat, i < 64 * ws.length → n ≤ (i : Int) → bitN ws i = false :=
  ⟨fun h => wfB_iff.1 (chk_zero h), fun ⟨h1, h2, h3, h4⟩ => chk_ok h1 h2 h3 h4⟩
theorem chk_zip {op : BitVec 64 → BitVec 64 → BitVec 64} (f : Bool → Bool → Bool) (h0 : f false false = false) (hf : ∀ a b j, j < 64 → (op a b).getLsbD j = f (a.getLsbD j) (b.getLsbD j)) {n : Int} {ws vs : List (BitVec 64)} (h1 : chk n ws = 0) (h2 : chk n vs = 0) : chk n (List.zipWith op ws vs) = 0 := by
  obtain ⟨a1, a2, a3, a4⟩ := chk_iff.1 h1
  obtain ⟨_, _, b3, b4⟩ := chk_iff.1 h2
  have hl : ws.length = vs.length := by omega
  have hz : (List.zipWith op ws vs).length = ws.length := by rw [List.length_zipWith]; omega
  refine chk_iff.2 ⟨a1, a2, by rw [hz]; exact a3, fun i hi hn => ?_⟩
  rw [hz] at hi
  rw [bit_zip op f hf hl hi, a4 i hi hn, b4 i (by omega) hn, h0]
def cov (es : List (Int × Int)) (i : Int) : Prop := ∃ e ∈ es, e.1 ≤ i ∧ i < e.1 + e.2
structure ExOk (es : List (Int × Int)) (k : Int) : Prop where
  each : ∀ e ∈ es, 0 ≤ e.1 ∧ 1 ≤ e.2 ∧ e.1 + e.2 ≤ k
  apart : es.Pairwise fun a b => a.1 + a.2 < b.1
theorem snoc_cases {α : Type} (l : List α) : l = [] ∨ ∃ p x, l = p ++ [x] := by
  rcases List.eq_nil_or_concat l with h | ⟨p, x, h⟩
  · exact .inl h
  · exact .inr ⟨p, x, by simpa using h⟩
theorem addX_snoc (p : List (Int × Int)) (l : Int × Int) (i : Int) : addX (p ++ [l]) i = if l.1 + l.2 = i then p ++ [(l.1, l.2 + 1)] else p ++ [l] ++ [(i, 1)] := by
  have hg : (p ++ [l]).getD ((p ++ [l]).length - 1) (0, 0) = l := by simp
  by_cases h : l.1 + l.2 = i
  · rw [if_pos h, addX_join ⟨by simp, by rw [hg]; exact h⟩]
    unfold bumpE
    rw [hg]
    simp
  · rw [if_neg h, addX_new (fun hj => h (by have := hj.2; rw [hg] at this; exact this))]
theorem addX_nil (i : Int) : addX [] i = [(i, 1)] := (addX_new (fun hj => by have := hj.1; simp at this)).trans rfl
theorem exOk_add {es : List (Int × Int)} {i : Int} (h : ExOk es i) (h0 : 0 ≤ i) : ExOk (addX es i) (i + 1) ∧ ∀ j, cov (addX es i) j ↔ cov es j ∨ j = i := by
  rcases snoc_cases es with rfl | ⟨p, l, rfl⟩
  · rw [addX_nil]
    refine ⟨⟨fun e he => ?_, List.pairwise_singleton _ _⟩, fun j => ?_⟩
    · obtain rfl := List.mem_singleton.1 he
      exact ⟨h0, Int.le_refl _, Int.le_refl _⟩
    · unfold cov; simp; omega
  · rw [addX_snoc]
    obtain ⟨h1, h2⟩ := h
    have hl := h1 l (by simp)
    rw [List.pairwise_append] at h2
    obtain ⟨h3, _, h4⟩ := h2
    by_cases hj : l.1 + l.2 = i
    · rw [if_pos hj]
      refine ⟨⟨fun e he => ?_, ?_⟩, fun j => ?_⟩
      · rcases List.mem_append.1 he with he | he
        · have := h1 e (by simp [he]); omega
        · obtain rfl := List.mem_singleton.1 he
          exact ⟨hl.1, by show 1 ≤ l.2 + 1; omega, by show l.1 + (l.2 + 1) ≤ i + 1; omega⟩
      · exact List.pairwise_append.2 ⟨h3, List.pairwise_singleton _ _, fun a ha b hb => by
          obtain rfl := List.mem_singleton.1 hb
          exact h4 a ha l (by simp)⟩
      · constructor
        · rintro ⟨e, he, h5, h6⟩
          rcases List.mem_append.1 he with he | he
          · exact .inl ⟨e, by simp [he], h5, h6⟩
          · obtain rfl := List.mem_singleton.1 he
            have h6' : j < l.1 + (l.2 + 1) := h6
            by_cases hji : j = i
            · exact .inr hji
            · exact .inl ⟨l, by simp, h5, by omega⟩
        · rintro (⟨e, he, h5, h6⟩ | rfl)
          · rcases List.mem_append.1 he with he | he
            · exact ⟨e, by simp [he], h5, h6⟩
            · obtain rfl := List.mem_singleton.1 he
              exact ⟨(e.1, e.2 + 1), by simp, h5, by show j < e.1 + (e.2 + 1); omega⟩
          · exact ⟨(l.1, l.2 + 1), by simp, by show l.1 ≤ j; omega, by show j < l.1 + (l.2 + 1); omega⟩
    · rw [if_neg hj]
      refine ⟨⟨fun e he => ?_, ?_⟩, fun j => ?_⟩
      · rcases List.mem_append.1 he with he | he
        · have := h1 e he; omega
        · obtain rfl := List.mem_singleton.1 he
          exact ⟨h0, Int.le_refl _, Int.le_refl _⟩
      · refine List.pairwise_append.2 ⟨List.pairwise_append.2 ⟨h3, List.pairwise_singleton _ _, h4⟩, List.pairwise_singleton _ _, fun a ha b hb => ?_⟩
        obtain rfl := List.mem_singleton.1 hb
        show a.1 + a.2 < i
        rcases List.mem_append.1 ha with ha | ha
        · have := h4 a ha l (by simp); omega
        · obtain rfl := List.mem_singleton.1 ha; omega
      · constructor
        · rintro ⟨e, he, h5, h6⟩
          rcases List.mem_append.1 he with he | he
          · exact .inl ⟨e, he, h5, h6⟩
          · obtain rfl := List.mem_singleton.1 he
            have h5' : i ≤ j := h5
            have h6' : j < i + 1 := h6
            exact .inr (by omega)
        · rintro (⟨e, he, h5, h6⟩ | rfl)
          · exact ⟨e, by simp only [List.mem_append]; exact .inl (List.mem_append.1 he), h5, h6⟩
          · exact ⟨(j, 1), by simp, Int.le_refl _, by show j < j + 1; omega⟩
theorem exOk_mono {es : List (Int × Int)} {a b : Int} (h : ExOk es a) (hab : a ≤ b) : ExOk es b := ⟨fun e he => by have := h.each e he; omega, h.apart⟩
theorem extsK_ok (ws : List (BitVec 64)) : ∀ k : Nat, ExOk (extsK ws k) (k : Int) ∧ ∀ j : Nat, cov (extsK ws k) (j : Int) ↔ j < k ∧ bitN ws j = true
  | 0 => ⟨⟨fun e he => by simp [extsK, extsOf] at he, by simp [extsK, extsOf]⟩, fun j => by simp [cov, extsK, extsOf]⟩
  | k + 1 => by
    obtain ⟨h1, h2⟩ := extsK_ok ws k
    by_cases hb : bitN ws k = true
    · obtain ⟨h3, h4⟩ := exOk_add h1 (by omega)
      rw [extsK_yes hb]
      refine ⟨by simpa using h3, fun j => ?_⟩
      rw [h4, h2]
      constructor
      · rintro (h | h)
        · exact ⟨by omega, h.2⟩
        · have : j = k := by omega
          subst this; exact ⟨by omega, hb⟩
      · rintro ⟨h5, h6⟩
        by_cases hjk : j = k
        · exact .inr (by omega)
        · exact .inl ⟨by omega, h6⟩
    · rw [extsK_no hb]
      refine ⟨exOk_mono h1 (by omega), fun j => ?_⟩
      rw [h2]
      constructor
      · rintro ⟨h5, h6⟩; exact ⟨by omega, h6⟩
      · rintro ⟨h5, h6⟩
        by_cases hjk : j = k
        · subst hjk; exact absurd h6 hb
        · exact ⟨by omega, h6⟩
def setAll (ws : List (BitVec 64)) (es : List (Int × Int)) : List (BitVec 64) := es.foldl (fun ws e => chW true ws e.1 (e.1 + e.2)) ws
theorem setAll_length : ∀ (es : List (Int × Int)) (ws : List (BitVec 64)), (setAll ws es).length = ws.length
  | [], _ => rfl
  | _ :: es, _ => (setAll_length es _).trans (chW_length _ _ _ _)
theorem setAll_bit : ∀ (es : List (Int × Int)) (ws : List (BitVec 64)) (i : Nat), i < 64 * ws.length → (bitN (setAll ws es) i = true ↔ cov es (i : Int) ∨ bitN ws i = true)
  | [], ws, i, _ => by simp [setAll, cov]
  | e :: es, ws, i, hi => by
    show bitN (setAll (chW true ws e.1 (e.1 + e.2)) es) i = true ↔ _
    rw [setAll_bit es _ i (by rw [chW_length]; exact hi), chW_bit true ws _ _ i hi]
    unfold cov
    simp only [List.mem_cons, exists_eq_or_imp]
    by_cases h : e.1 ≤ (i : Int) ∧ (i : Int) < e.1 + e.2
    · rw [if_pos h]; simp [h]
    · rw [if_neg h]
      constructor
      · rintro (h1 | h1)
        · exact .inl (.inr h1)
        · exact .inr h1
      · rintro ((h1 | h1) | h1)
        · exact absurd h1 h
        · exact .inl h1
        · exact .inr h1
theorem chk_set1 {n : Int} {ws : List (BitVec 64)} {s c : Int} (h : chk n ws = 0) (hf : fitsB s c n = true) : chk n (chW true ws s (s + c)) = 0 := by
  obtain ⟨a1, a2, a3, a4⟩ := chk_iff.1 h
  have hff := fitsB_iff.1 hf
  refine chk_iff.2 ⟨a1, a2, by rw [chW_length]; exact a3, fun i hi hn => ?_⟩
  rw [chW_length] at hi
  rw [chW_bit true ws _ _ i hi, if_neg (by omega)]
  exact a4 i hi hn
theorem fromR_all {n : Int} : ∀ (es : List (Int × Int)) (ws : List (BitVec 64)), chk n ws = 0 → fromR ⟨n, ws, 0⟩ es = if (es.all fun e => fitsB e.1 e.2 n) = true then ⟨n, setAll ws es, 0⟩ else ⟨0, [], 2⟩
  | [], ws, _ => by simp [fromR, setAll]
  | e :: es, ws, h => by
    show fromR ⟨n, ws, 0⟩ (e :: es) = _
    have h1 : fromR ⟨n, ws, 0⟩ (e :: es) = fromR (chR true n ws e.1 e.2) es := by
      have := fromR_drop (r := ⟨n, ws, 0⟩) (es := e :: es) (k := 0) rfl (by simp)
      simpa using this
    rw [h1]
    by_cases hf : fitsB e.1 e.2 n = true
    · rw [chR_ok (fun hc => hc h) hf, fromR_all es _ (chk_set1 h hf)]
      simp only [List.all_cons, hf, Bool.true_and]
      rfl
    · rw [chR_range (fun hc => hc h) hf, fromR_err (by decide)]
      rw [if_neg]
      simp only [List.all_cons, Bool.and_eq_true]
      exact fun h2 => hf h2.1
theorem chk_new {n : Int} (h1 : 0 ≤ n) (h2 : n ≤ 4096) : chk n (List.replicate ((n + 63) / 64).toNat 0#64) = 0 := by
  refine chk_iff.2 ⟨h1, h2, by rw [List.length_replicate]; omega, fun i hi _ => ?_⟩
  rw [List.length_replicate] at hi
  unfold bitN
  rw [List.getD_eq_getElem?_getD, List.getElem?_replicate]
  split <;> simp
theorem bit_new {m i : Nat} : bitN (List.replicate m 0#64) i = false := by
  unfold bitN
  rw [List.getD_eq_getElem?_getD, List.getElem?_replicate]
  split <;> simp
theorem fromR_new {n : Int} (h1 : 0 ≤ n) (h2 : n ≤ 4096) (es : List (Int × Int)) : fromR (newR n) es = if (es.all fun e => fitsB e.1 e.2 n) = true then ⟨n, setAll (List.replicate ((n + 63) / 64).toNat 0#64) es, 0⟩ else ⟨0, [], 2⟩ := by
  rw [newR_ok h1 h2, fromR_all es _ (chk_new h1 h2)]
theorem exts_back {n : Int} {ws : List (BitVec 64)} (h : chk n ws = 0) : fromR (newR n) (extR n ws) = ⟨n, ws, 0⟩ := by
  obtain ⟨a1, a2, a3, a4⟩ := chk_iff.1 h
  rw [extR_ok (fun hc => hc h) rfl, fromR_new a1 a2]
  obtain ⟨⟨h1, h2⟩, h3⟩ := extsK_ok ws n.toNat
  have hall : ((extsK ws n.toNat).all fun e => fitsB e.1 e.2 n) = true := by
    rw [List.all_eq_true]
    intro e he
    have := h1 e he
    exact fitsB_iff.2 ⟨by omega, by omega, by omega, by omega⟩
  rw [if_pos hall]
  have hl : (setAll (List.replicate ((n + 63) / 64).toNat 0#64) (extsK ws n.toNat)).length = ws.length := by
    rw [setAll_length, List.length_replicate]; omega
  have : setAll (List.replicate ((n + 63) / 64).toNat 0#64) (extsK ws n.toNat) = ws := by
    refine words_ext hl fun i hi => ?_
    rw [hl] at hi
    have hb := setAll_bit (extsK ws n.toNat) (List.replicate ((n + 63) / 64).toNat 0#64) i (by rw [List.length_replicate]; omega)
    rw [h3, bit_new] at hb
    rw [Bool.eq_iff_iff, hb]
    constructor
    · rintro (h5 | h5)
      · exact h5.2
      · cases h5
    · intro h5
      refine .inl ⟨?_, h5⟩
      by_cases hn : n ≤ (i : Int)
      · rw [a4 i hi hn] at h5; cases h5
      · omega
  rw [this]
end Go.Proofs.YtahlanamngfkcaaDoor

namespace Go.Proofs.YtahlanamngfkcaaDoor
open Go.RowKit
def bmOf (r : BR) : api_Bitmap × Int := (⟨r.n, r.ws⟩, r.e)
def orB (a b : api_Bitmap) : api_Bitmap × Int := bmOf (bothR (fun x y => x ||| y) a.Size a.Words b.Size b.Words)
theorem mixStep {op : BitVec 64 → BitVec 64 → BitVec 64} {ws vs : List (BitVec 64)} {k : Nat} (h : k < ws.length) (h2 : k < vs.length) : put (mixK (List.zipWith op ws vs) (List.replicate ws.length 0#64) k) (k : Int) (op (ix ws (k : Int)) (ix vs (k : Int))) = mixK (List.zipWith op ws vs) (List.replicate ws.length 0#64) (k + 1) ∨ ws.length ≠ vs.length := by
  by_cases hl : ws.length = vs.length
  · left
    exact mixK_step (by rw [List.length_zipWith, List.length_replicate]; omega) (zip_get h h2)
  · exact .inr hl
theorem bitmap_Or_ok {a b : api_Bitmap} {Φ : api_Bitmap × Int → Prop} (hΦ : Φ (orB a b)) : bitmap_Or_W a b Φ := by
  unfold orB at hΦ
  unfold bitmap_Or_W bitmap_both__bitmap_Or_1_W
  refine bitmap_Check_ok ⟨fun h => ?_, fun h => bitmap_Check_ok ⟨fun h2 => ?_, fun h2 => ⟨fun h3 => ?_, fun h3 => ?_⟩⟩⟩
  · rw [bothR_bad (bothE_1 h) (by omega)] at hΦ; unfold chkB at *; rw [chk_ne h]; exact hΦ
  · rw [bothR_bad (bothE_2 h h2) (by omega)] at hΦ; unfold chkB at *; rw [chk_ne h2]; exact hΦ
  · rw [bothR_bad (bothE_3 h h2 h3) (by omega)] at hΦ; exact hΦ
  · have hw := chkB_len h
    have hw2 := chkB_len h2
    rw [bothR_ok (bothE_4 h h2 h3)] at hΦ
    have hl : a.Words.length = b.Words.length := by omega
    refine ⟨by omega, iL (by omega) (by omega), ?_⟩
    have hr : (List.replicate (a.Words.length : Int).toNat (0#64)).length = a.Words.length := by simp
    refine LoopW.up2 a.Words.length (fun k acc => acc = mixK (List.zipWith (fun x y => x ||| y) a.Words b.Words) (List.replicate a.Words.length 0#64) k) ?_ rfl (Nat.zero_le _) (by rw [mixK_zero]; rfl)
    rintro k _ rec hk rfl hrec
    have hml := mixK_length (new := List.zipWith (fun x y => x ||| y) a.Words b.Words) (old := List.replicate a.Words.length 0#64) (by rw [List.length_zipWith, List.length_replicate]; omega) k
    rw [List.length_replicate] at hml
    refine ⟨fun hlt => ?_, fun hge => ?_⟩
    · rw [hr] at hlt
      refine ⟨iX (by omega) (by omega), iX (by omega) (by omega), _, rfl, iX (by omega) (by omega), iI (by omega) (by omega), hrec _ (by omega) ?_⟩
      exact (mixStep (op := fun x y => x ||| y) (by omega) (by omega)).resolve_right (fun q => q hl)
    · rw [hr] at hge
      rw [mixK_full (by rw [List.length_zipWith, List.length_replicate]; omega) (by rw [List.length_replicate]; omega)]
      exact hΦ
def getBm (b : api_Bitmap) (i : Int) : Bool := getB b.Size b.Words i
theorem ref02_Get_ok {b : api_Bitmap} {i : Int} {Φ : Bool → Prop} (hΦ : Φ (getBm b i)) : ref02_Get_W b i Φ := by
  unfold getBm at hΦ
  refine ref02_Check_ok ⟨fun h => ⟨fun h1 => ⟨fun h2 => ?_, fun h2 => ?_⟩, fun h1 => ?_⟩, fun h => ?_⟩
  · have hw := chkB_len (b := b) (by simpa using h)
    obtain ⟨k, rfl⟩ := Int.eq_ofNat_of_zero_le h1
    refine ref02_bit_ok (by omega) (by omega) ?_
    have e : getB b.Size b.Words (k : Int) = bitN b.Words k := by
      rw [Bool.eq_iff_iff, getB_iff]
      exact ⟨fun q => q.2.2.2, fun q => ⟨h, h1, h2, q⟩⟩
    rw [e] at hΦ; exact hΦ
  · have e : getB b.Size b.Words i = false := by
      cases hx : getB b.Size b.Words i with
      | false => rfl
      | true => exact absurd (getB_iff.1 hx).2.2.1 h2
    rw [e] at hΦ; exact hΦ
  · have e : getB b.Size b.Words i = false := by
      cases hx : getB b.Size b.Words i with
      | false => rfl
      | true => exact absurd (getB_iff.1 hx).2.1 h1
    rw [e] at hΦ; exact hΦ
  · have e : getB b.Size b.Words i = false := by
      cases hx : getB b.Size b.Words i with
      | false => rfl
      | true => exact absurd (getB_iff.1 hx).1 h
    rw [e] at hΦ; exact hΦ
end Go.Proofs.YtahlanamngfkcaaDoor

namespace Go.Proofs.YtahlanamngfkcaaDoor
open Go.RowKit
def sizesE (l : List Int) : Int := if (l.length : Int) < 1 ∨ 8 < (l.length : Int) then 6 else firstN (fun k => if ix l (k : Int) < 1 ∨ 4096 < ix l (k : Int) then 2 else 0) l.length
def szs (im : List (List Sec)) : List Int := im.map fun v => (v.length : Int)
def imgE (im : List (List Sec)) : Int := sizesE (szs im)
theorem ref07_Sizes_ok {l : List Int} {Φ : Int → Prop} (hΦ : Φ (sizesE l)) : ref07_Sizes_W l Φ := by
  unfold sizesE at hΦ
  refine ⟨fun h => by rw [if_pos h] at hΦ; exact hΦ, fun h => ?_⟩
  rw [if_neg h] at hΦ
  refine LoopW.firstL _ _ hΦ (fun k rec hk _ h1 h2 => ⟨fun _ => ⟨iX (by omega) (by omega), fun q => ?_, fun q => ⟨iI (by omega) (by omega), h2 (if_neg q)⟩⟩, fun q => absurd (by omega) q⟩) fun rec h1 _ => ⟨fun q => absurd q (by omega), fun _ => h1⟩
  have := h1 (by rw [if_pos q]; omega)
  rw [if_pos q] at this; exact this
theorem ref07_SizesOf_ok {im : List (List Sec)} {Φ : List Int → Prop} (hl : im.length ≤ 100000) (hΦ : Φ (szs im)) : ref07_SizesOf_W im Φ := by
  refine LoopW.mapL im (fun v => (v.length : Int)) (fun k acc rec hk hal _ hrec => ⟨fun _ => ⟨iX (by omega) (by omega), iL (by simp only [List.length_append, List.length_cons, List.length_nil]; omega) (by omega), iI (by omega) (by omega), hrec⟩, fun q => absurd (by omega) q⟩) fun rec => ⟨fun q => absurd q (by omega), fun _ => hΦ⟩
theorem ref07_Check_ok {im : List (List Sec)} {Φ : Int → Prop} (hl : im.length ≤ 100000) (hΦ : Φ (imgE im)) : ref07_Check_W im Φ := ref07_SizesOf_ok hl (ref07_Sizes_ok hΦ)
theorem image_sizes_ok {im : List (List Sec)} {Φ : List Int → Prop} (hl : im.length ≤ 100000) (hΦ : Φ (szs im)) : image_sizes_W im Φ := by
  refine ⟨by omega, iL (by omega) (by omega), ?_⟩
  refine LoopW.mapL im (fun v => (v.length : Int)) (fun k acc rec hk hal _ hrec => ⟨fun _ => ⟨iX (by omega) (by omega), iL (by simp only [List.length_append, List.length_cons, List.length_nil]; omega) (by omega), iI (by omega) (by omega), hrec⟩, fun q => absurd (by omega) q⟩) fun rec => ⟨fun q => absurd q (by omega), fun _ => hΦ⟩
def idxN (p : Nat → Bool) (n : Nat) : Int := match (List.range n).find? p with
  | some k => (k : Int)
  | none => -1
theorem idxN_hit {p : Nat → Bool} {n k : Nat} (hk : k < n) (h0 : ∀ j, j < k → p j = false) (h1 : p k = true) : idxN p n = (k : Int) := by
  unfold idxN
  have : (List.range n).find? p = some k := by
    rw [List.find?_range_eq_some]
    exact ⟨h1, List.mem_range.2 hk, fun j hj => by rw [h0 j hj]; rfl⟩
  rw [this]
theorem idxN_none {p : Nat → Bool} {n : Nat} (h0 : ∀ j, j < n → p j = false) : idxN p n = -1 := by
  unfold idxN
  have : (List.range n).find? p = none := by
    rw [List.find?_eq_none]
    intro j hj
    rw [h0 j (List.mem_range.1 hj)]; simp
  rw [this]
theorem LoopW.idxL {step : Int → (Int → Prop) → Prop} (n : Nat) (p : Nat → Bool) {Φ : Int → Prop} (hΦ : Φ (idxN p n)) (h : ∀ (k : Nat) rec, k < n → (p k = true → Φ (k : Int)) → (p k = false → rec ((k : Int) + 1)) → step (k : Int) rec)
    (he : ∀ rec, Φ (-1) → step (n : Int) rec) : LoopW step 0 := by
  refine LoopW.up n (fun k => ∀ j, j < k → p j = false) ?_ rfl (Nat.zero_le _) (fun j hj => absurd hj (Nat.not_lt_zero j))
  intro k rec hk hI hrec
  rcases Nat.lt_or_ge k n with hlt | hge
  · refine h k rec hlt (fun h1 => by rw [idxN_hit hlt hI h1] at hΦ; exact hΦ) fun h0 => hrec hlt fun j hj => ?_
    rcases Nat.lt_or_ge j k with h2 | h2
    · exact hI j h2
    · have : j = k := by omega
      subst this; exact h0
  · have e : k = n := by omega
    subst e
    exact he rec (by rw [idxN_none hI] at hΦ; exact hΦ)
theorem idxN_nonneg {p : Nat → Bool} {n : Nat} : 0 ≤ idxN p n ↔ ∃ k, k < n ∧ p k = true := by
  unfold idxN
  cases h : (List.range n).find? p with
  | some k => exact ⟨fun _ => ⟨k, List.mem_range.1 (List.mem_of_find?_eq_some h), List.find?_some h⟩, fun _ => by simp⟩
  | none =>
    rw [List.find?_eq_none] at h
    exact ⟨fun q => absurd q (by simp), fun ⟨k, hk, hp⟩ => absurd hp (h k (List.mem_range.2 hk))⟩
theorem image_checkSizes_ok {l : List Int} {Φ : Int → Prop} (hΦ : Φ (sizesE l)) : image_checkSizes_W l Φ := by
  unfold sizesE at hΦ
  refine ⟨fun h => by rw [if_pos h] at hΦ; exact hΦ, fun h => ?_⟩
  rw [if_neg h] at hΦ
  have hz : ∀ v : Int, v = idxN (fun k => decide ((ix l (k : Int) < 1) ∨ (4096 < ix l (k : Int)))) l.length → (decide (0 ≤ v) = true → Φ 2) ∧ (¬ (decide (0 ≤ v) = true) → Φ 0) := by
    rintro _ rfl
    rw [decide_eq_true_iff, idxN_nonneg]
    refine ⟨fun ⟨k, hk, hp⟩ => ?_, fun q => ?_⟩
    · have hne : firstN (fun k => if ix l (k : Int) < 1 ∨ 4096 < ix l (k : Int) then 2 else 0) l.length ≠ 0 := fun q0 => by
        have := firstN_zero.1 q0 k hk
        rw [if_pos (of_decide_eq_true hp)] at this; omega
      have h2 : ∀ n, firstN (fun k => if ix l (k : Int) < 1 ∨ 4096 < ix l (k : Int) then 2 else 0) n = 0 ∨ firstN (fun k => if ix l (k : Int) < 1 ∨ 4096 < ix l (k : Int) then 2 else 0) n = 2 := by
        intro n
        induction n with
        | zero => exact .inl rfl
        | succ n ih => unfold firstN; split
                       · exact ih
                       · split <;> simp
      rw [(h2 _).resolve_left hne] at hΦ; exact hΦ
    · rw [firstN_zero.2 fun k hk => if_neg fun hp => q ⟨k, hk, decide_eq_true hp⟩] at hΦ; exact hΦ
  exact LoopW.idxL (Φ := fun v => (decide (0 ≤ v) = true → Φ 2) ∧ (¬ (decide (0 ≤ v) = true) → Φ 0)) _ _ (hz _ rfl)
    (fun k rec hk h1 h2 => ⟨fun _ => ⟨iX (by omega) (by omega), h1, fun q => ⟨iI (by omega) (by omega), h2 (by simpa using q)⟩⟩, fun q => absurd (by omega) q⟩) fun rec h1 => ⟨fun q => absurd q (by omega), fun _ => h1⟩
theorem image_Check_ok {im : List (List Sec)} {Φ : Int → Prop} (hl : im.length ≤ 100000) (hΦ : Φ (imgE im)) : image_Check_W im Φ := image_sizes_ok hl (image_checkSizes_ok hΦ)
def spanP (l : List api_Span) (k : Nat) : Bool :=
  decide ((ix l (k : Int)).From = (if k = 0 then 0 else (ix l ((k : Int) - 1)).To) + 1 ∧ (ix l (k : Int)).From ≤ (ix l (k : Int)).To ∧ (ix l (k : Int)).To ≤ 1073741824 ∧ (if k = 0 then 0 else (ix l ((k : Int) - 1)).Epoch) < (ix l (k : Int)).Epoch ∧ (ix l (k : Int)).Epoch ≤ 1073741824)
def linB (l : List api_Span) : Bool := allN (spanP l) l.length
theorem span_bounds {l : List api_Span} : ∀ {k : Nat}, (∀ j, j < k → spanP l j = true) → ∀ j, j < k → 1 ≤ (ix l (j : Int)).To ∧ (ix l (j : Int)).To ≤ 1073741824 ∧ 1 ≤ (ix l (j : Int)).Epoch ∧ (ix l (j : Int)).Epoch ≤ 1073741824 ∧ 1 ≤ (ix l (j : Int)).From := by
  intro k h j
  induction j with
  | zero =>
    intro hj
    have := of_decide_eq_true (h 0 hj)
    rw [if_pos rfl, if_pos rfl] at this
    omega
  | succ j ih =>
    intro hj
    have h1 := ih (by omega)
    have := of_decide_eq_true (h (j + 1) hj)
    rw [if_neg (Nat.succ_ne_zero j), if_neg (Nat.succ_ne_zero j), show ((j + 1 : Nat) : Int) - 1 = (j : Int) by omega] at this
    omega
theorem delta_correct_ok {l : List api_Span} {Φ : Bool → Prop} (hl : l.length ≤ 1000000) (hΦ : Φ (linB l)) : delta_correct_W l Φ := by
  refine LoopW.upS l.length (fun s : Int × Int × Int × Int => s.2.2.2) (fun k s => (∀ j, j < k → spanP l j = true) ∧ s.1 = (if k = 0 then 0 else (ix l ((k : Int) - 1)).Epoch) ∧ s.2.2.1 = (if k = 0 then 0 else (ix l ((k : Int) - 1)).To)) ?_ 0 rfl (Nat.zero_le _) ⟨fun j hj => absurd hj (Nat.not_lt_zero j), rfl, rfl⟩
  rintro k ⟨ep, fr, to, i⟩ rec hk hi ⟨hz, he, ht⟩ hrec
  simp only at hi he ht
  subst hi
  have hb : 0 ≤ to ∧ to ≤ 1073741824 := by
    rw [ht]
    by_cases h0 : k = 0
    · rw [if_pos h0]; omega
    · rw [if_neg h0]
      have := span_bounds hz (k - 1) (by omega)
      rw [show (k : Int) - 1 = ((k - 1 : Nat) : Int) by omega]
      omega
  have no : k < l.length → ¬ ((ix l (k : Int)).From = to + 1 ∧ (ix l (k : Int)).From ≤ (ix l (k : Int)).To ∧ (ix l (k : Int)).To ≤ 1073741824 ∧ ep < (ix l (k : Int)).Epoch ∧ (ix l (k : Int)).Epoch ≤ 1073741824) → Φ false := by
    intro hlt h
    rw [he, ht] at h
    unfold linB at hΦ
    rw [allN_false hlt (decide_eq_false h)] at hΦ; exact hΦ
  have hep : 0 ≤ ep := by
    rw [he]
    by_cases h0 : k = 0
    · rw [if_pos h0]; omega
    · rw [if_neg h0]
      have := span_bounds hz (k - 1) (by omega)
      rw [show (k : Int) - 1 = ((k - 1 : Nat) : Int) by omega]
      omega
  refine ⟨fun hlt => ⟨iX (by omega) (by omega), iI (by omega) (by omega), fun q => no (by omega) (by omega), fun q => ⟨fun q2 => no (by omega) (by omega), fun q2 => ⟨fun q3 => no (by omega) (by omega), fun q3 => ⟨fun q4 => no (by omega) ?_, fun q4 => ⟨fun q5 => no (by omega) (by omega), fun q5 => ⟨iI (by omega) (by omega), hrec _ (by omega) rfl ⟨?_, ?_, ?_⟩⟩⟩⟩⟩⟩⟩, fun hge => ?_⟩
  · rw [decide_eq_true_iff] at q4; omega
  · rw [decide_eq_true_iff] at q4
    intro j hj
    rcases Nat.lt_or_ge j k with h2 | h2
    · exact hz j h2
    · have : j = k := by omega
      subst this
      unfold spanP
      rw [← he, ← ht]
      exact decide_eq_true (by omega)
  · simp only [Nat.succ_ne_zero, if_false]; rw [show ((k + 1 : Nat) : Int) - 1 = (k : Int) by omega]
  · simp only [Nat.succ_ne_zero, if_false]; rw [show ((k + 1 : Nat) : Int) - 1 = (k : Int) by omega]
  · have e : k = l.length := by omega
    unfold linB at hΦ
    rw [allN_true.2 (by rw [← e]; exact hz)] at hΦ; exact hΦ
def dirtyE (p : api_Point) (k : Nat) : Int := if chkB (ix p.Dirty (k : Int)) ≠ 0 then chkB (ix p.Dirty (k : Int)) else if (ix p.Dirty (k : Int)).Size ≠ ((ix p.Image (k : Int)).length : Int) then 22 else 0
def ptE (p : api_Point) : Int :=
  if p.Site < 0 ∨ 1073741824 < p.Site then 2 else if ¬ (linB p.Lineage = true) then 3 else if imgE p.Image ≠ 0 then imgE p.Image else if (p.Dirty.length : Int) ≠ (p.Image.length : Int) then 6 else firstN (dirtyE p) p.Dirty.length
theorem delta_Check_ok {p : api_Point} {Φ : Int → Prop} (hl : p.Lineage.length ≤ 1000000) (hi : p.Image.length ≤ 100000) (hΦ : Φ (ptE p)) : delta_Check_W p Φ := by
  unfold ptE at hΦ
  have hd : (decide ((0 ≤ p.Site) ∧ (p.Site ≤ 1073741824)) = true) ↔ ¬ (p.Site < 0 ∨ 1073741824 < p.Site) := by rw [decide_eq_true_iff]; omega
  refine ⟨fun h => by rw [if_pos (by rw [hd] at h; exact Classical.not_not.1 h)] at hΦ; exact hΦ, fun h => ?_⟩
  rw [if_neg (hd.1 (Classical.not_not.1 h))] at hΦ
  refine delta_correct_ok hl ⟨fun h => by rw [if_pos h] at hΦ; exact hΦ, fun h => ?_⟩
  rw [if_neg h] at hΦ
  refine image_Check_ok hi ⟨fun h => by rw [if_pos h] at hΦ; exact hΦ, fun h => ?_⟩
  rw [if_neg h] at hΦ
  refine ⟨fun h => by rw [if_pos h] at hΦ; exact hΦ, fun h => ?_⟩
  rw [if_neg h] at hΦ
  refine LoopW.firstL _ _ hΦ (fun k rec hk _ h1 h2 => ⟨fun _ => ⟨iX (by omega) (by omega), bitmap_Check_ok ⟨fun q => ?_, fun q => ⟨iX (by omega) (by omega), fun q2 => ?_, fun q2 => ⟨iI (by omega) (by omega), h2 ?_⟩⟩⟩⟩, fun q => absurd (by omega) q⟩) fun rec h1 _ => ⟨fun q => absurd q (by omega), fun _ => h1⟩
  · have e : dirtyE p k = chkB (ix p.Dirty (k : Int)) := if_pos q
    rw [e] at h1; exact h1 q
  · have e : dirtyE p k = 22 := by unfold dirtyE; rw [if_neg q, if_pos q2]
    rw [e] at h1; exact h1 (by omega)
  · unfold dirtyE; rw [if_neg q, if_neg q2]
end Go.Proofs.YtahlanamngfkcaaDoor

namespace Go.Proofs.YtahlanamngfkcaaDoor
open Go.RowKit
theorem mixK_get' {α : Type} {n k : Nat} {f : Nat → α} {old : List α} (ho : old.length = n) (hk : k < n) : mixK ((List.range n).map f) old (k + 1) = (mixK ((List.range n).map f) old k).set k (f k) :=
  (mixK_step (by rw [List.length_map, List.length_range, ho]) (by rw [List.getElem?_map, List.getElem?_range hk]; rfl)).symm
def sameSz (a b : List (List Sec)) : Bool := decide (szs a = szs b)
theorem szs_len (a : List (List Sec)) : (szs a).length = a.length := List.length_map _
theorem ix_szs {a : List (List Sec)} {k : Nat} (h : k < a.length) : ix (szs a) (k : Int) = ((ix a (k : Int)).length : Int) := by
  rw [ix_get (by rw [szs_len]; exact h), ix_get h]
  simp [szs]
theorem sameSz_allN {a b : List (List Sec)} (hl : a.length = b.length) : sameSz a b = allN (fun k => decide (((ix a (k : Int)).length : Int) = ((ix b (k : Int)).length : Int))) a.length := by
  unfold sameSz
  rw [Bool.eq_iff_iff, allN_true, decide_eq_true_iff]
  constructor
  · intro h k hk
    refine decide_eq_true ?_
    rw [← ix_szs hk, ← ix_szs (by omega), h]
  · intro h
    refine ext_ix (by rw [szs_len, szs_len, hl]) fun k hk => ?_
    rw [szs_len] at hk
    rw [ix_szs hk, ix_szs (by omega)]
    exact of_decide_eq_true (h k hk)
theorem sameSz_len {a b : List (List Sec)} (h : (a.length : Int) ≠ (b.length : Int)) : sameSz a b = false := by
  refine decide_eq_false fun e => h ?_
  rw [← szs_len a, ← szs_len b, e]
theorem delta_alike_ok {a b : List (List Sec)} {Φ : Bool → Prop} (hl : a.length ≤ 100000) (hΦ : Φ (sameSz a b)) : delta_alike_W a b Φ := by
  refine ⟨fun h => by rw [sameSz_len h] at hΦ; exact hΦ, fun h => ?_⟩
  rw [sameSz_allN (by omega)] at hΦ
  exact LoopW.allL _ _ hΦ (fun k rec hk _ h1 h2 => ⟨fun _ => ⟨iX (by omega) (by omega), iX (by omega) (by omega), fun q => h1 (by simpa using q), fun q => ⟨iI (by omega) (by omega), h2 (Classical.not_not.1 q)⟩⟩, fun q => absurd (by omega) q⟩) fun rec h1 _ => ⟨fun q => absurd q (by omega), fun _ => h1⟩
def markK (a b : api_Point) (k : Nat) : List api_Extent := exts (orB (ix a.Dirty (k : Int)) (ix b.Dirty (k : Int))).1
def marks (a b : api_Point) : List (List api_Extent) := (List.range a.Dirty.length).map (markK a b)
theorem delta_marked_ok {a b : api_Point} {Φ : List (List api_Extent) → Prop} (hl : a.Dirty.length ≤ 100000) (hb : a.Dirty.length = b.Dirty.length) (hΦ : Φ (marks a b)) : delta_marked_W a b Φ := by
  refine ⟨by omega, iL (by omega) (by omega), ?_⟩
  have hr : (List.replicate (a.Dirty.length : Int).toNat ([] : List api_Extent)).length = a.Dirty.length := by simp
  refine LoopW.up2 a.Dirty.length (fun k acc => acc = mixK (marks a b) (List.replicate (a.Dirty.length : Int).toNat ([] : List api_Extent)) k) ?_ rfl (Nat.zero_le _) (mixK_zero _ _).symm
  rintro k _ rec hk rfl hrec
  have hml := mixK_length (new := marks a b) (old := List.replicate (a.Dirty.length : Int).toNat ([] : List api_Extent)) (by rw [hr]; simp [marks]) k
  refine ⟨fun hlt => ?_, fun hge => ?_⟩
  · rw [hr] at hlt hml
    refine ⟨iX (by omega) (by omega), iX (by omega) (by omega), _, bitmap_Or_ok rfl, iX (by omega) (by rw [hml]; omega), iI (by omega) (by omega), hrec _ (by omega) ?_⟩
    exact (mixK_get' hr (by omega)).symm
  · rw [hr] at hge
    rw [mixK_full (by rw [hr]; simp [marks]) (by rw [hr]; omega)]
    exact hΦ
structure Fit (a b : api_Point) : Prop where
  da : a.Dirty.length = a.Image.length
  db : b.Dirty.length = a.Image.length
  n8 : a.Image.length ≤ 8
  ca : ∀ k : Nat, k < a.Image.length → chkB (ix a.Dirty (k : Int)) = 0 ∧ (ix a.Dirty (k : Int)).Size = ((ix a.Image (k : Int)).length : Int)
  cb : ∀ k : Nat, k < a.Image.length → chkB (ix b.Dirty (k : Int)) = 0 ∧ (ix b.Dirty (k : Int)).Size = ((ix a.Image (k : Int)).length : Int)
theorem ptE_zero {p : api_Point} (h : ptE p = 0) : p.Dirty.length = p.Image.length ∧ p.Image.length ≤ 8 ∧ ∀ k : Nat, k < p.Image.length → chkB (ix p.Dirty (k : Int)) = 0 ∧ (ix p.Dirty (k : Int)).Size = ((ix p.Image (k : Int)).length : Int) := by
  unfold ptE at h
  split at h
  · omega
  split at h
  · omega
  split at h
  · omega
  rename_i hi
  split at h
  · omega
  rename_i hd
  have hz := firstN_zero.1 h
  have h8 : p.Image.length ≤ 8 := by
    unfold imgE sizesE at hi
    rw [szs_len] at hi
    by_cases hq : (p.Image.length : Int) < 1 ∨ 8 < (p.Image.length : Int)
    · rw [if_pos hq] at hi; omega
    · omega
  refine ⟨by omega, h8, fun k hk => ?_⟩
  have := hz k (by omega)
  unfold dirtyE at this
  split at this
  · rename_i hq; exact absurd this hq
  · rename_i hq
    split at this
    · omega
    · rename_i hs; exact ⟨Classical.not_not.1 hq, Classical.not_not.1 hs⟩
theorem fit_of {a b : api_Point} (ha : ptE a = 0) (hb : ptE b = 0) (hs : sameSz a.Image b.Image = true) : Fit a b := by
  obtain ⟨a1, a2, a3⟩ := ptE_zero ha
  obtain ⟨b1, b2, b3⟩ := ptE_zero hb
  have hl : a.Image.length = b.Image.length := by
    have := congrArg List.length (of_decide_eq_true hs)
    rwa [szs_len, szs_len] at this
  rw [sameSz_allN hl, allN_true] at hs
  exact ⟨a1, by omega, a2, a3, fun k hk => by rw [of_decide_eq_true (hs k hk)]; exact b3 k (by omega)⟩
theorem Fit.or {a b : api_Point} (h : Fit a b) {k : Nat} (hk : k < a.Image.length) : (orB (ix a.Dirty (k : Int)) (ix b.Dirty (k : Int))).1 = ⟨(ix a.Dirty (k : Int)).Size, List.zipWith (fun x y => x ||| y) (ix a.Dirty (k : Int)).Words (ix b.Dirty (k : Int)).Words⟩ ∧
    chk (ix a.Dirty (k : Int)).Size (List.zipWith (fun x y => x ||| y) (ix a.Dirty (k : Int)).Words (ix b.Dirty (k : Int)).Words) = 0 := by
  obtain ⟨c1, c2⟩ := h.ca k hk
  obtain ⟨d1, d2⟩ := h.cb k hk
  have hs : (ix b.Dirty (k : Int)).Size = (ix a.Dirty (k : Int)).Size := by omega
  unfold chkB at c1 d1
  refine ⟨?_, ?_⟩
  · unfold orB
    rw [bothR_ok (bothE_4 (by simpa using c1) (by simpa using d1) (by omega))]; rfl
  · rw [hs] at d1
    exact chk_zip (· || ·) rfl (fun _ _ _ _ => BitVec.getLsbD_or) c1 d1
theorem Fit.len {a b : api_Point} (hf : Fit a b) {k : Nat} (hk : k < a.Image.length) : (ix a.Image (k : Int)).length ≤ 4096 := by
  have h := hf.ca k hk
  have := chkB_len (b := ix a.Dirty (k : Int)) (by rw [h.1]; simp)
  omega
def betR (a b : api_Point) : List (List api_Extent) × Int := if ptE a ≠ 0 then ([], ptE a) else if ptE b ≠ 0 then ([], ptE b) else if ¬ (sameSz a.Image b.Image = true) then ([], 22) else (marks a b, 0)
theorem delta_Between_ok {a b : api_Point} {Φ : List (List api_Extent) × Int → Prop} (ha : a.Lineage.length ≤ 1000000) (hb : b.Lineage.length ≤ 1000000) (ha2 : a.Image.length ≤ 100000) (hb2 : b.Image.length ≤ 100000) (hΦ : Φ (betR a b)) : delta_Between_W a b Φ := by
  unfold betR at hΦ
  refine LoopW.up 2 (fun k => (0 < k → ptE a = 0) ∧ (1 < k → ptE b = 0)) ?_ (k0 := 0) rfl (by decide) ⟨fun h => absurd h (by decide), fun h => absurd h (by decide)⟩
  intro k rec hk hI hrec
  refine ⟨fun hlt => ⟨iX (by omega) hlt, ?_⟩, fun hge => ?_⟩
  · have hlt2 : k < 2 := by simp only [List.length_cons, List.length_nil] at hlt; omega
    have hcase : k = 0 ∨ k = 1 := by omega
    rcases hcase with rfl | rfl
    · refine delta_Check_ok ha ha2 ⟨fun q => ?_, fun q => ⟨iI (by omega) (by omega), hrec (by omega) ⟨fun _ => Classical.not_not.1 q, by omega⟩⟩⟩
      have q' : ptE a ≠ 0 := q
      rw [if_pos q'] at hΦ; exact hΦ
    · refine delta_Check_ok hb hb2 ⟨fun q => ?_, fun q => ⟨iI (by omega) (by omega), hrec (by omega) ⟨fun _ => hI.1 (by omega), fun _ => Classical.not_not.1 q⟩⟩⟩
      have q' : ptE b ≠ 0 := q
      rw [if_neg (by rw [hI.1 (by omega)]; simp), if_pos q'] at hΦ; exact hΦ
  · have hk2 : k = 2 := by simp only [List.length_cons, List.length_nil] at hge; omega
    subst hk2
    have h1 := hI.1 (by omega)
    have h2 := hI.2 (by omega)
    rw [if_neg (by rw [h1]; simp), if_neg (by rw [h2]; simp)] at hΦ
    refine delta_alike_ok ha2 ⟨fun q => by rw [if_pos q] at hΦ; exact hΦ, fun q => ?_⟩
    rw [if_neg q] at hΦ
    have hf := fit_of h1 h2 (Classical.not_not.1 q)
    have := hf.n8
    exact delta_marked_ok (by rw [hf.da]; omega) (by rw [hf.da, hf.db]) hΦ
end Go.Proofs.YtahlanamngfkcaaDoor

namespace Go.Proofs.YtahlanamngfkcaaDoor
open Go.RowKit
def orK {S R : Type} (a : S → Prop) (b : R → Prop) : S ⊕ R → Prop
  | .inl s => a s
  | .inr r => b r
def loopS {S R : Type} (step : S → Option (S ⊕ R)) : Nat → S → Option R
  | 0, _ => none
  | n + 1, s => match step s with
    | none => none
    | some (.inl s') => loopS step n s'
    | some (.inr r) => some r
theorem LoopW.of_S {S R : Type} {step : S → (S → Prop) → Prop} {stepS : S → Option (S ⊕ R)} {K : R → Prop} (hs : ∀ s q rec, stepS s = some q → orK rec K q → step s rec) : ∀ (n : Nat) (s : S) {o : R}, loopS stepS n s = some o → K o → LoopW step s := by
  intro n s o h hK
  refine ⟨n, ?_⟩
  induction n generalizing s with
  | zero => cases h
  | succ n ih =>
    unfold loopS at h
    split at h
    · cases h
    · rename_i s' e
      exact hs s _ _ e (ih s' h)
    · rename_i r e
      cases h
      exact hs s _ _ e hK
theorem ofBind {α β : Type} {x : Option α} {f : α → Option β} {o : β} (h : Option.bind x f = some o) : ∃ v, x = some v ∧ f v = some o := Option.bind_eq_some_iff.1 h
theorem ofIf {α : Type} {p : Prop} [Decidable p] {x : Option α} {o : α} (h : (if p then x else none) = some o) : p ∧ x = some o := by
  by_cases hp : p
  · rw [if_pos hp] at h; exact ⟨hp, h⟩
  · rw [if_neg hp] at h; cases h
theorem ofT {α : Type} {p : Prop} [Decidable p] {x y : Option α} {o : α} (hp : p) (h : (if p then x else y) = some o) : x = some o := by rw [if_pos hp] at h; exact h
theorem ofF {α : Type} {p : Prop} [Decidable p] {x y : Option α} {o : α} (hp : ¬ p) (h : (if p then x else y) = some o) : y = some o := by rw [if_neg hp] at h; exact h
def bothS {α : Type} [DecidableEq α] (b : Bool) (x y : Option α) : Option α := if b = true then (if x = y then x else none) else y
theorem ofBoth {α : Type} [DecidableEq α] {b : Bool} {x y : Option α} {o : α} (h : bothS b x y = some o) : (b = true → x = some o) ∧ y = some o := by
  unfold bothS at h
  by_cases hb : b = true
  · rw [if_pos hb] at h
    by_cases he : x = y
    · rw [if_pos he] at h; exact ⟨fun _ => h, he ▸ h⟩
    · rw [if_neg he] at h; cases h
  · rw [if_neg hb] at h; exact ⟨fun q => absurd q hb, h⟩
theorem lfS {α : Type} {K : α → Prop} {a o : α} (h : some a = some o) (hK : K o) : K a := by
  cases h; exact hK
theorem mgS {α : Type} {x : Option Unit} {f : Unit → Option α} {o : α} {A B : Prop} (h : Option.bind x f = some o) (a : x = some () → True → A) (b : f () = some o → B) : A ∧ B := by
  obtain ⟨_, h1, h2⟩ := ofBind h
  exact ⟨a h1 trivial, b h2⟩
theorem adS {α : Type} {p : Prop} [Decidable p] {x : Option α} {o : α} {B : Prop} (h : (if p then x else none) = some o) (b : x = some o → B) : p ∧ B := ⟨(ofIf h).1, b (ofIf h).2⟩
theorem ifS {α : Type} {p : Prop} [Decidable p] {x y : Option α} {o : α} {A B : Prop} (h : (if p then x else y) = some o) (a : x = some o → A) (b : y = some o → B) : (p → A) ∧ (¬ p → B) := ⟨fun c => a (ofT c h), fun c => b (ofF c h)⟩
theorem imS {α : Type} {p : Prop} [Decidable p] {x y : Option α} {o : α} {A : Prop} (h : (if p then x else y) = some o) (a : x = some o → A) : p → A := fun c => a (ofT c h)
theorem nlS {α β : Type} [DecidableEq α] {l : List β} {x y : Option α} {o : α} {A B : Prop} (h : bothS l.isEmpty x y = some o) (a : x = some o → A) (b : y = some o → B) : (l = [] → A) ∧ B := ⟨fun c => a ((ofBoth h).1 (List.isEmpty_iff.2 c)), b (ofBoth h).2⟩
theorem blS {α β : Type} {x : Option α} {f : α → Option β} {o : β} {G : Prop} (h : Option.bind x f = some o) (k : ∀ v, x = some v → f v = some o → G) : G := by
  obtain ⟨v, h1, h2⟩ := ofBind h
  exact k v h1 h2
instance decI (x : Int) : Decidable (inI x) := inferInstanceAs (Decidable (_ ∧ _))
instance decX (i : Int) (n : Nat) : Decidable (inX i n) := inferInstanceAs (Decidable (_ ∧ _))
instance decS (a b : Int) (n : Nat) : Decidable (inS a b n) := inferInstanceAs (Decidable (_ ∧ _))
instance decL (n b : Nat) : Decidable (lenOk n b) := inferInstanceAs (Decidable (_ ∧ _))
def bitmap_Extents_S (x0 : api_Bitmap) : Option (List api_Extent) := some ((extR x0.Size x0.Words).map fun e => ⟨e.1, e.2⟩)
theorem bitmap_Extents_sound (x0 : api_Bitmap) {Φ : List api_Extent → Prop} {o} (h : bitmap_Extents_S x0 = some o) (hK : Φ o) : bitmap_Extents_W x0 Φ := by
  cases h; exact hK
def law47_one_S (x0 : Int) (x1 : BitVec 8) : Option (api_Write) :=
 some ((api_Write.mk 0 x0 ([(Sec.mk x1 (0#8) (0#8) (0#8) (0#8) (0#8) (0#8) (0#8))] : List Sec)))
theorem law47_one_sound (x0 : Int) (x1 : BitVec 8) {Φ : api_Write → Prop} {o} (h : law47_one_S x0 x1 = some o) (hK : Φ o) : law47_one_W x0 x1 Φ := by
 unfold law47_one_S at h
 unfold law47_one_W
 exact have t := lfS h hK; t
def ref07_SizesOf_L1_S (x0 : List (List Sec)) : (List Int × Int) → Option ((List Int × Int) ⊕ (List Int))
 | (v4, v11) =>
  if v11 < (x0.length : Int) then
   if inX v11 x0.length then
   if lenOk (v4 ++ ([((ix x0 v11).length : Int)] : List Int)).length 8 then
   if inI (v11 + 1) then
   some (.inl ((v4 ++ ([((ix x0 v11).length : Int)] : List Int)), v11 + 1))
   else none
   else none
   else none
  else
   some (.inr v4)
theorem ref07_SizesOf_L1_sound (x0 : List (List Sec)) (s : List Int × Int) {Φ : List Int → Prop} {rec1 : (List Int × Int) → Prop} {o} (h : ref07_SizesOf_L1_S x0 s = some o) (hK : (orK rec1 Φ) o) : ref07_SizesOf_L1 x0 Φ s rec1 := by
 obtain ⟨v4, v11⟩ := s
 unfold ref07_SizesOf_L1_S at h
 unfold ref07_SizesOf_L1
 exact ifS h (fun h => adS h fun h => adS h fun h => adS h fun h => have t := lfS h hK; t) fun h => have t := lfS h hK; t
def ref07_SizesOf_S (x0 : List (List Sec)) : Option (List Int) :=
 loopS (ref07_SizesOf_L1_S x0) 100000 (([] : List Int), 0)
theorem ref07_SizesOf_sound (x0 : List (List Sec)) {Φ : List Int → Prop} {o} (h : ref07_SizesOf_S x0 = some o) (hK : Φ o) : ref07_SizesOf_W x0 Φ := by
 unfold ref07_SizesOf_S at h
 unfold ref07_SizesOf_W
 exact LoopW.of_S (fun s q rec hs hq => ref07_SizesOf_L1_sound _ s hs hq) _ _ h hK
def ref07_Sizes_L1_S (x0 : List Int) : (Int) → Option ((Int) ⊕ (Int))
 | (v6) =>
  if v6 < (x0.length : Int) then
   Option.bind (
    if inX v6 x0.length then some () else none : Option Unit) fun _ =>
   if ((ix x0 v6) < 1) ∨ (4096 < (ix x0 v6)) then
    some (.inr 2)
   else
    if inI (v6 + 1) then
    some (.inl (v6 + 1))
    else none
  else
   some (.inr 0)
theorem ref07_Sizes_L1_sound (x0 : List Int) (s : Int) {Φ : Int → Prop} {rec1 : (Int) → Prop} {o} (h : ref07_Sizes_L1_S x0 s = some o) (hK : (orK rec1 Φ) o) : ref07_Sizes_L1 x0 Φ s rec1 := by
 unfold ref07_Sizes_L1_S at h
 unfold ref07_Sizes_L1
 exact ifS h (fun h => mgS h (fun h hK => (ofIf h).1) fun h => ifS h (fun h => have t := lfS h hK; t) fun h => adS h fun h => have t := lfS h hK; t) fun h => have t := lfS h hK; t
def ref07_Sizes_S (x0 : List Int) : Option (Int) :=
 if ((x0.length : Int) < 1) ∨ (8 < (x0.length : Int)) then
  some (6)
 else
  loopS (ref07_Sizes_L1_S x0) 100000 (0)
theorem ref07_Sizes_sound (x0 : List Int) {Φ : Int → Prop} {o} (h : ref07_Sizes_S x0 = some o) (hK : Φ o) : ref07_Sizes_W x0 Φ := by
 unfold ref07_Sizes_S at h
 unfold ref07_Sizes_W
 exact ifS h (fun h => have t := lfS h hK; t) fun h => LoopW.of_S (fun s q rec hs hq => ref07_Sizes_L1_sound _ s hs hq) _ _ h hK
def ref07_Check_S (x0 : List (List Sec)) : Option (Int) :=
 Option.bind (ref07_SizesOf_S x0) fun v2 =>
 Option.bind (ref07_Sizes_S v2) fun v11 =>
 some (v11)
theorem ref07_Check_sound (x0 : List (List Sec)) {Φ : Int → Prop} {o} (h : ref07_Check_S x0 = some o) (hK : Φ o) : ref07_Check_W x0 Φ := by
 unfold ref07_Check_S at h
 unfold ref07_Check_W
 exact blS h fun _ hv h => ref07_SizesOf_sound _ hv (blS h fun _ hv h => ref07_Sizes_sound _ hv (have t := lfS h hK; t))
def ref07_Copy_L1_S (x0 : List (List Sec)) : (List (List Sec) × Int) → Option ((List (List Sec) × Int) ⊕ (List (List Sec)))
 | (v4, v12) =>
  if v12 < (x0.length : Int) then
   if inX v12 x0.length then
   if lenOk (([] : List Sec) ++ (ix x0 v12)).length 8 then
   if lenOk (v4 ++ [(([] : List Sec) ++ (ix x0 v12))]).length 24 then
   if inI (v12 + 1) then
   some (.inl ((v4 ++ [(([] : List Sec) ++ (ix x0 v12))]), v12 + 1))
   else none
   else none
   else none
   else none
  else
   some (.inr v4)
theorem ref07_Copy_L1_sound (x0 : List (List Sec)) (s : List (List Sec) × Int) {Φ : List (List Sec) → Prop} {rec1 : (List (List Sec) × Int) → Prop} {o} (h : ref07_Copy_L1_S x0 s = some o) (hK : (orK rec1 Φ) o) : ref07_Copy_L1 x0 Φ s rec1 := by
 obtain ⟨v4, v12⟩ := s
 unfold ref07_Copy_L1_S at h
 unfold ref07_Copy_L1
 exact ifS h (fun h => adS h fun h => adS h fun h => adS h fun h => adS h fun h => have t := lfS h hK; t) fun h => have t := lfS h hK; t
def ref07_Copy_S (x0 : List (List Sec)) : Option (List (List Sec)) :=
 loopS (ref07_Copy_L1_S x0) 100000 (([] : List (List Sec)), 0)
theorem ref07_Copy_sound (x0 : List (List Sec)) {Φ : List (List Sec) → Prop} {o} (h : ref07_Copy_S x0 = some o) (hK : Φ o) : ref07_Copy_W x0 Φ := by
 unfold ref07_Copy_S at h
 unfold ref07_Copy_W
 exact LoopW.of_S (fun s q rec hs hq => ref07_Copy_L1_sound _ s hs hq) _ _ h hK
def ref07_FitsSizes_S (x0 : List Int) (x1 : api_Write) : Option (Int) :=
 if (x1.Volume < 0) ∨ ((x0.length : Int) ≤ x1.Volume) then
  some (7)
 else
  if (x1.Data.length : Int) = 0 then
   some (1)
  else
   Option.bind (
    if ¬ (x1.Start < 0) then
     if inX x1.Volume x0.length then
     if ¬ ((ix x0 x1.Volume) ≤ x1.Start) then
      if inI ((ix x0 x1.Volume) - x1.Start) then some () else none
     else some ()
     else none
    else some () : Option Unit) fun _ =>
   if (x1.Start < 0) ∨ (((ix x0 x1.Volume) ≤ x1.Start) ∨ (((ix x0 x1.Volume) - x1.Start) < (x1.Data.length : Int))) then
    some (2)
   else
    some (0)
theorem ref07_FitsSizes_sound (x0 : List Int) (x1 : api_Write) {Φ : Int → Prop} {o} (h : ref07_FitsSizes_S x0 x1 = some o) (hK : Φ o) : ref07_FitsSizes_W x0 x1 Φ := by
 unfold ref07_FitsSizes_S at h
 unfold ref07_FitsSizes_W
 exact ifS h (fun h => have t := lfS h hK; t) fun h => ifS h (fun h => have t := lfS h hK; t) fun h => mgS h (fun h hK => imS h fun h => adS h fun h => imS h fun h => (ofIf h).1) fun h => ifS h (fun h => have t := lfS h hK; t) fun h => have t := lfS h hK; t
def ref07_Fits_S (x0 : List (List Sec)) (x1 : api_Write) : Option (Int) :=
 Option.bind (ref07_Check_S x0) fun v4 =>
 if v4 ≠ 0 then
  some (v4)
 else
  Option.bind (ref07_SizesOf_S x0) fun v8 =>
  Option.bind (ref07_FitsSizes_S v8 x1) fun v14 =>
  some (v14)
theorem ref07_Fits_sound (x0 : List (List Sec)) (x1 : api_Write) {Φ : Int → Prop} {o} (h : ref07_Fits_S x0 x1 = some o) (hK : Φ o) : ref07_Fits_W x0 x1 Φ := by
 unfold ref07_Fits_S at h
 unfold ref07_Fits_W
 exact blS h fun _ hv h => ref07_Check_sound _ hv (ifS h (fun h => have t := lfS h hK; t) fun h => blS h fun v hv h => ⟨v, ref07_SizesOf_sound _ hv rfl, blS h fun v hv h => ⟨v, ref07_FitsSizes_sound _ _ hv rfl, have t := lfS h hK; t⟩⟩)
def ref07_Apply_L2_S (x1 : List api_Write) (v24 : Int) : (List (List Sec) × Int) → Option ((List (List Sec) × Int) ⊕ ((List (List Sec) × Int) ⊕ (List (List Sec) × Int × Int)))
 | (v37, v45) =>
  if v45 < (((ix x1 v24).Data).length : Int) then
   if inX ((ix x1 v24).Volume) v37.length then
   if inI (((ix x1 v24).Start) + v45) then
   if inX v45 ((ix x1 v24).Data).length then
   if inX (((ix x1 v24).Start) + v45) (ix v37 ((ix x1 v24).Volume)).length then
   if inI (v45 + 1) then
   some (.inl ((put v37 ((ix x1 v24).Volume) (put (ix v37 ((ix x1 v24).Volume)) (((ix x1 v24).Start) + v45) (ix ((ix x1 v24).Data) v45))), v45 + 1))
   else none
   else none
   else none
   else none
   else none
  else
   if inI (v24 + 1) then
   some (.inr (.inl (v37, v24 + 1)))
   else none
theorem ref07_Apply_L2_sound (x1 : List api_Write) (v24 : Int) (s : List (List Sec) × Int) {Φ : List (List Sec) × Int × Int → Prop} {rec1 : (List (List Sec) × Int) → Prop} {rec2 : (List (List Sec) × Int) → Prop} {o} (h : ref07_Apply_L2_S x1 v24 s = some o) (hK : (orK rec2 (orK rec1 Φ)) o) : ref07_Apply_L2 x1 v24 rec1 Φ s rec2 := by
 obtain ⟨v37, v45⟩ := s
 unfold ref07_Apply_L2_S at h
 unfold ref07_Apply_L2
 exact ifS h (fun h => adS h fun h => adS h fun h => adS h fun h => adS h fun h => adS h fun h => have t := lfS h hK; t) fun h => adS h fun h => have t := lfS h hK; t
def ref07_Apply_L1_S (x0 : List (List Sec)) (x1 : List api_Write) : (List (List Sec) × Int) → Option ((List (List Sec) × Int) ⊕ (List (List Sec) × Int × Int))
 | (v16, v24) =>
  if v24 < (x1.length : Int) then
   if inX v24 x1.length then
   Option.bind (ref07_Fits_S x0 (ix x1 v24)) fun v31 =>
   if v31 ≠ 0 then
    some (.inr (([] : List (List Sec)), v24, v31))
   else
    loopS (ref07_Apply_L2_S x1 v24) 100000 (v16, 0)
   else none
  else
   some (.inr (v16, 0, 0))
theorem ref07_Apply_L1_sound (x0 : List (List Sec)) (x1 : List api_Write) (s : List (List Sec) × Int) {Φ : List (List Sec) × Int × Int → Prop} {rec1 : (List (List Sec) × Int) → Prop} {o} (h : ref07_Apply_L1_S x0 x1 s = some o) (hK : (orK rec1 Φ) o) : ref07_Apply_L1 x0 x1 Φ s rec1 := by
 obtain ⟨v16, v24⟩ := s
 unfold ref07_Apply_L1_S at h
 unfold ref07_Apply_L1
 exact ifS h (fun h => adS h fun h => blS h fun _ hv h => ref07_Fits_sound _ _ hv (ifS h (fun h => have t := lfS h hK; t) fun h => LoopW.of_S (fun s q rec hs hq => ref07_Apply_L2_sound _ _ s hs hq) _ _ h hK)) fun h => have t := lfS h hK; t
def ref07_Apply_S (x0 : List (List Sec)) (x1 : List api_Write) : Option (List (List Sec) × Int × Int) :=
 Option.bind (ref07_Check_S x0) fun v3 =>
 if v3 ≠ 0 then
  some ((([] : List (List Sec)), 0, v3))
 else
  Option.bind (ref07_Copy_S x0) fun v7 =>
  loopS (ref07_Apply_L1_S x0 x1) 100000 (v7, 0)
theorem ref07_Apply_sound (x0 : List (List Sec)) (x1 : List api_Write) {Φ : List (List Sec) × Int × Int → Prop} {o} (h : ref07_Apply_S x0 x1 = some o) (hK : Φ o) : ref07_Apply_W x0 x1 Φ := by
 unfold ref07_Apply_S at h
 unfold ref07_Apply_W
 exact blS h fun _ hv h => ref07_Check_sound _ hv (ifS h (fun h => have t := lfS h hK; t) fun h => blS h fun _ hv h => ref07_Copy_sound _ hv (LoopW.of_S (fun s q rec hs hq => ref07_Apply_L1_sound _ _ s hs hq) _ _ h hK))
def ref02_New_S (x0 : Int) : Option (api_Bitmap × Int) :=
 if (x0 < 0) ∨ (4096 < x0) then
  some (((api_Bitmap.mk 0 ([] : List (BitVec 64))), 2))
 else
  if inI (x0 + 63) then
  if 0 ≤ (x0 + 63) ∧ inI (x0 + 63) then
  if 0 ≤ ((x0 + 63) / 64) then
  if lenOk ((x0 + 63) / 64).toNat 8 then
  some (((api_Bitmap.mk x0 (List.replicate ((x0 + 63) / 64).toNat (0#64))), 0))
  else none
  else none
  else none
  else none
theorem ref02_New_sound (x0 : Int) {Φ : api_Bitmap × Int → Prop} {o} (h : ref02_New_S x0 = some o) (hK : Φ o) : ref02_New_W x0 Φ := by
 unfold ref02_New_S at h
 unfold ref02_New_W
 exact ifS h (fun h => have t := lfS h hK; t) fun h => adS h fun h => adS h fun h => adS h fun h => adS h fun h => have t := lfS h hK; t
def ref43_Clean_L1_S (x0 : List Int) : (List api_Bitmap × Int) → Option ((List api_Bitmap × Int) ⊕ (List api_Bitmap))
 | (v4, v11) =>
  if v11 < (x0.length : Int) then
   if inX v11 x0.length then
   Option.bind (ref02_New_S (ix x0 v11)) fun v17 =>
   if lenOk (v4 ++ ([v17.1] : List api_Bitmap)).length 32 then
   if inI (v11 + 1) then
   some (.inl ((v4 ++ ([v17.1] : List api_Bitmap)), v11 + 1))
   else none
   else none
   else none
  else
   some (.inr v4)
theorem ref43_Clean_L1_sound (x0 : List Int) (s : List api_Bitmap × Int) {Φ : List api_Bitmap → Prop} {rec1 : (List api_Bitmap × Int) → Prop} {o} (h : ref43_Clean_L1_S x0 s = some o) (hK : (orK rec1 Φ) o) : ref43_Clean_L1 x0 Φ s rec1 := by
 obtain ⟨v4, v11⟩ := s
 unfold ref43_Clean_L1_S at h
 unfold ref43_Clean_L1
 exact ifS h (fun h => adS h fun h => blS h fun _ hv h => ref02_New_sound _ hv (adS h fun h => adS h fun h => have t := lfS h hK; t)) fun h => have t := lfS h hK; t
def ref43_Clean_S (x0 : List Int) : Option (List api_Bitmap) :=
 loopS (ref43_Clean_L1_S x0) 100000 (([] : List api_Bitmap), 0)
theorem ref43_Clean_sound (x0 : List Int) {Φ : List api_Bitmap → Prop} {o} (h : ref43_Clean_S x0 = some o) (hK : Φ o) : ref43_Clean_W x0 Φ := by
 unfold ref43_Clean_S at h
 unfold ref43_Clean_W
 exact LoopW.of_S (fun s q rec hs hq => ref43_Clean_L1_sound _ s hs hq) _ _ h hK
def ref02_Copy_S (x0 : api_Bitmap) : Option (api_Bitmap) :=
 if lenOk (([] : List (BitVec 64)) ++ x0.Words).length 8 then
 some ((api_Bitmap.mk x0.Size (([] : List (BitVec 64)) ++ x0.Words)))
 else none
theorem ref02_Copy_sound (x0 : api_Bitmap) {Φ : api_Bitmap → Prop} {o} (h : ref02_Copy_S x0 = some o) (hK : Φ o) : ref02_Copy_W x0 Φ := by
 unfold ref02_Copy_S at h
 unfold ref02_Copy_W
 exact adS h fun h => have t := lfS h hK; t
def ref02_bit_S (x0 : api_Bitmap) (x1 : Int) : Option (Bool) :=
 if 0 ≤ x1 ∧ inI x1 then
 if inX (x1 / 64) x0.Words.length then
 if 0 ≤ x1 then
 some (decide ((((ix x0.Words (x1 / 64)) >>> ((BitVec.ofInt 64 (x1 % 64)).toNat : Int).toNat) &&& (1#64)) = (1#64)))
 else none
 else none
 else none
theorem ref02_bit_sound (x0 : api_Bitmap) (x1 : Int) {Φ : Bool → Prop} {o} (h : ref02_bit_S x0 x1 = some o) (hK : Φ o) : ref02_bit_W x0 x1 Φ := by
 unfold ref02_bit_S at h
 unfold ref02_bit_W
 exact adS h fun h => adS h fun h => adS h fun h => have t := lfS h hK; t
def ref02_Check_L1_S (x0 : api_Bitmap) : (Int) → Option ((Int) ⊕ (Int))
 | (v10) =>
  if inI (64 * (x0.Words.length : Int)) then
  if v10 < (64 * (x0.Words.length : Int)) then
   Option.bind (ref02_bit_S x0 v10) fun v15 =>
   if v15 = true then
    some (.inr 3)
   else
    if inI (v10 + 1) then
    some (.inl (v10 + 1))
    else none
  else
   some (.inr 0)
  else none
theorem ref02_Check_L1_sound (x0 : api_Bitmap) (s : Int) {Φ : Int → Prop} {rec1 : (Int) → Prop} {o} (h : ref02_Check_L1_S x0 s = some o) (hK : (orK rec1 Φ) o) : ref02_Check_L1 x0 Φ s rec1 := by
 unfold ref02_Check_L1_S at h
 unfold ref02_Check_L1
 exact adS h fun h => ifS h (fun h => blS h fun _ hv h => ref02_bit_sound _ _ hv (ifS h (fun h => have t := lfS h hK; t) fun h => adS h fun h => have t := lfS h hK; t)) fun h => have t := lfS h hK; t
def ref02_Check_S (x0 : api_Bitmap) : Option (Int) :=
 Option.bind (
  if ¬ (x0.Size < 0) then
   if ¬ (4096 < x0.Size) then
    if inI (x0.Size + 63) then
    if 0 ≤ (x0.Size + 63) ∧ inI (x0.Size + 63) then some () else none
    else none
   else some ()
  else some () : Option Unit) fun _ =>
 if (x0.Size < 0) ∨ ((4096 < x0.Size) ∨ ((x0.Words.length : Int) ≠ ((x0.Size + 63) / 64))) then
  some (3)
 else
  loopS (ref02_Check_L1_S x0) 100000 (x0.Size)
theorem ref02_Check_sound (x0 : api_Bitmap) {Φ : Int → Prop} {o} (h : ref02_Check_S x0 = some o) (hK : Φ o) : ref02_Check_W x0 Φ := by
 unfold ref02_Check_S at h
 unfold ref02_Check_W
 exact mgS h (fun h hK => imS h fun h => imS h fun h => adS h fun h => (ofIf h).1) fun h => ifS h (fun h => have t := lfS h hK; t) fun h => LoopW.of_S (fun s q rec hs hq => ref02_Check_L1_sound _ s hs hq) _ _ h hK
def ref02_Fits_S (x0 : api_Extent) (x1 : Int) : Option (Bool) :=
 Option.bind (
  if 0 ≤ x0.Start then
   if 0 ≤ x0.Count then
    if x0.Start ≤ x1 then
     if inI (x1 - x0.Start) then some () else none
    else some ()
   else some ()
  else some () : Option Unit) fun _ =>
 some (decide ((0 ≤ x0.Start) ∧ ((0 ≤ x0.Count) ∧ ((x0.Start ≤ x1) ∧ (x0.Count ≤ (x1 - x0.Start))))))
theorem ref02_Fits_sound (x0 : api_Extent) (x1 : Int) {Φ : Bool → Prop} {o} (h : ref02_Fits_S x0 x1 = some o) (hK : Φ o) : ref02_Fits_W x0 x1 Φ := by
 unfold ref02_Fits_S at h
 unfold ref02_Fits_W
 exact mgS h (fun h hK => imS h fun h => imS h fun h => imS h fun h => (ofIf h).1) fun h => have t := lfS h hK; t
def ref02_change_L1_S (x1 : api_Extent) (x2 : Bool) (v13 : api_Bitmap) : (List (BitVec 64) × Int) → Option ((List (BitVec 64) × Int) ⊕ (api_Bitmap × Int))
 | (v22, v29) =>
  if inI (x1.Start + x1.Count) then
  if v29 < (x1.Start + x1.Count) then
   if x2 = true then
    if 0 ≤ v29 ∧ inI v29 then
    if inX (v29 / 64) v22.length then
    if 0 ≤ v29 then
    if inI (v29 + 1) then
    some (.inl ((put v22 (v29 / 64) ((ix v22 (v29 / 64)) ||| ((1#64) <<< ((BitVec.ofInt 64 (v29 % 64)).toNat : Int).toNat))), v29 + 1))
    else none
    else none
    else none
    else none
   else
    if 0 ≤ v29 ∧ inI v29 then
    if inX (v29 / 64) v22.length then
    if 0 ≤ v29 then
    if inI (v29 + 1) then
    some (.inl ((put v22 (v29 / 64) ((ix v22 (v29 / 64)) &&& ~~~((1#64) <<< ((BitVec.ofInt 64 (v29 % 64)).toNat : Int).toNat))), v29 + 1))
    else none
    else none
    else none
    else none
  else
   some (.inr ((api_Bitmap.mk v13.Size v22), 0))
  else none
theorem ref02_change_L1_sound (x1 : api_Extent) (x2 : Bool) (v13 : api_Bitmap) (s : List (BitVec 64) × Int) {Φ : api_Bitmap × Int → Prop} {rec1 : (List (BitVec 64) × Int) → Prop} {o} (h : ref02_change_L1_S x1 x2 v13 s = some o) (hK : (orK rec1 Φ) o) : ref02_change_L1 x1 x2 v13 Φ s rec1 := by
 obtain ⟨v22, v29⟩ := s
 unfold ref02_change_L1_S at h
 unfold ref02_change_L1
 exact adS h fun h => ifS h (fun h => ifS h (fun h => adS h fun h => adS h fun h => adS h fun h => adS h fun h => have t := lfS h hK; t) fun h => adS h fun h => adS h fun h => adS h fun h => adS h fun h => have t := lfS h hK; t) fun h => have t := lfS h hK; t
def ref02_change_S (x0 : api_Bitmap) (x1 : api_Extent) (x2 : Bool) : Option (api_Bitmap × Int) :=
 Option.bind (ref02_Check_S x0) fun v5 =>
 if v5 ≠ 0 then
  some (((api_Bitmap.mk 0 ([] : List (BitVec 64))), 3))
 else
  Option.bind (ref02_Fits_S x1 x0.Size) fun v9 =>
  if ¬ (v9 = true) then
   some (((api_Bitmap.mk 0 ([] : List (BitVec 64))), 2))
  else
   Option.bind (ref02_Copy_S x0) fun v13 =>
   loopS (ref02_change_L1_S x1 x2 v13) 100000 (v13.Words, x1.Start)
theorem ref02_change_sound (x0 : api_Bitmap) (x1 : api_Extent) (x2 : Bool) {Φ : api_Bitmap × Int → Prop} {o} (h : ref02_change_S x0 x1 x2 = some o) (hK : Φ o) : ref02_change_W x0 x1 x2 Φ := by
 unfold ref02_change_S at h
 unfold ref02_change_W
 exact blS h fun _ hv h => ref02_Check_sound _ hv (ifS h (fun h => have t := lfS h hK; t) fun h => blS h fun _ hv h => ref02_Fits_sound _ _ hv (ifS h (fun h => have t := lfS h hK; t) fun h => blS h fun _ hv h => ref02_Copy_sound _ hv (LoopW.of_S (fun s q rec hs hq => ref02_change_L1_sound _ _ _ s hs hq) _ _ h hK)))
def ref02_Set_S (x0 : api_Bitmap) (x1 : api_Extent) : Option (api_Bitmap × Int) :=
 Option.bind (ref02_change_S x0 x1 true) fun v5 =>
 some ((v5.1, v5.2))
theorem ref02_Set_sound (x0 : api_Bitmap) (x1 : api_Extent) {Φ : api_Bitmap × Int → Prop} {o} (h : ref02_Set_S x0 x1 = some o) (hK : Φ o) : ref02_Set_W x0 x1 Φ := by
 unfold ref02_Set_S at h
 unfold ref02_Set_W
 exact blS h fun _ hv h => ref02_change_sound _ _ _ hv (have t := lfS h hK; t)
def ref43_Mark_L2_S (x1 : List api_Write) : (List api_Bitmap × Int) → Option ((List api_Bitmap × Int) ⊕ ((List api_Bitmap × Int) ⊕ (List api_Bitmap)))
 | (v40, v47) =>
  if v47 < (x1.length : Int) then
   if inX v47 x1.length then
   if inX ((ix x1 v47).Volume) v40.length then
   Option.bind (ref02_Set_S (ix v40 ((ix x1 v47).Volume)) (api_Extent.mk ((ix x1 v47).Start) (((ix x1 v47).Data).length : Int))) fun v77 =>
   if inI (v47 + 1) then
   some (.inl ((put v40 ((ix x1 v47).Volume) v77.1), v47 + 1))
   else none
   else none
   else none
  else
   some (.inr (.inr v40))
theorem ref43_Mark_L2_sound (x1 : List api_Write) (s : List api_Bitmap × Int) {Φ : List api_Bitmap → Prop} {rec1 : (List api_Bitmap × Int) → Prop} {rec2 : (List api_Bitmap × Int) → Prop} {o} (h : ref43_Mark_L2_S x1 s = some o) (hK : (orK rec2 (orK rec1 Φ)) o) : ref43_Mark_L2 x1 Φ s rec2 := by
 obtain ⟨v40, v47⟩ := s
 unfold ref43_Mark_L2_S at h
 unfold ref43_Mark_L2
 exact ifS h (fun h => adS h fun h => adS h fun h => blS h fun v hv h => ⟨v, ref02_Set_sound _ _ hv rfl, adS h fun h => have t := lfS h hK; t⟩) fun h => have t := lfS h hK; t
def ref43_Mark_L1_S (x0 : List api_Bitmap) (x1 : List api_Write) : (List api_Bitmap × Int) → Option ((List api_Bitmap × Int) ⊕ (List api_Bitmap))
 | (v5, v12) =>
  if v12 < (x0.length : Int) then
   if inX v12 x0.length then
   Option.bind (ref02_Copy_S (ix x0 v12)) fun v19 =>
   if lenOk (v5 ++ ([v19] : List api_Bitmap)).length 32 then
   if inI (v12 + 1) then
   some (.inl ((v5 ++ ([v19] : List api_Bitmap)), v12 + 1))
   else none
   else none
   else none
  else
   loopS (ref43_Mark_L2_S x1) 100000 (v5, 0)
theorem ref43_Mark_L1_sound (x0 : List api_Bitmap) (x1 : List api_Write) (s : List api_Bitmap × Int) {Φ : List api_Bitmap → Prop} {rec1 : (List api_Bitmap × Int) → Prop} {o} (h : ref43_Mark_L1_S x0 x1 s = some o) (hK : (orK rec1 Φ) o) : ref43_Mark_L1 x0 x1 Φ s rec1 := by
 obtain ⟨v5, v12⟩ := s
 unfold ref43_Mark_L1_S at h
 unfold ref43_Mark_L1
 exact ifS h (fun h => adS h fun h => blS h fun _ hv h => ref02_Copy_sound _ hv (adS h fun h => adS h fun h => have t := lfS h hK; t)) fun h => LoopW.of_S (fun s q rec hs hq => ref43_Mark_L2_sound _ s hs hq) _ _ h hK
def ref43_Mark_S (x0 : List api_Bitmap) (x1 : List api_Write) : Option (List api_Bitmap) :=
 loopS (ref43_Mark_L1_S x0 x1) 100000 (([] : List api_Bitmap), 0)
theorem ref43_Mark_sound (x0 : List api_Bitmap) (x1 : List api_Write) {Φ : List api_Bitmap → Prop} {o} (h : ref43_Mark_S x0 x1 = some o) (hK : Φ o) : ref43_Mark_W x0 x1 Φ := by
 unfold ref43_Mark_S at h
 unfold ref43_Mark_W
 exact LoopW.of_S (fun s q rec hs hq => ref43_Mark_L1_sound _ _ s hs hq) _ _ h hK
def law47_point_S (x0 : Int) (x1 : List (List Sec)) (x2 : List api_Span) (x3 : List api_Write) : Option (api_Point) :=
 Option.bind (ref07_Apply_S x1 x3) fun v5 =>
 Option.bind (ref07_SizesOf_S x1) fun v12 =>
 Option.bind (ref43_Clean_S v12) fun v21 =>
 Option.bind (ref43_Mark_S v21 x3) fun v30 =>
 some ((api_Point.mk x0 x2 v30 v5.1))
theorem law47_point_sound (x0 : Int) (x1 : List (List Sec)) (x2 : List api_Span) (x3 : List api_Write) {Φ : api_Point → Prop} {o} (h : law47_point_S x0 x1 x2 x3 = some o) (hK : Φ o) : law47_point_W x0 x1 x2 x3 Φ := by
 unfold law47_point_S at h
 unfold law47_point_W
 exact blS h fun _ hv h => ref07_Apply_sound _ _ hv (blS h fun _ hv h => ref07_SizesOf_sound _ hv (blS h fun _ hv h => ref43_Clean_sound _ hv (blS h fun _ hv h => ref43_Mark_sound _ _ hv (have t := lfS h hK; t))))
def delta_in_S (x0 : Int) (x1 : Int) : Option (Bool) :=
 some (decide ((x1 ≤ x0) ∧ (x0 ≤ 1073741824)))
theorem delta_in_sound (x0 : Int) (x1 : Int) {Φ : Bool → Prop} {o} (h : delta_in_S x0 x1 = some o) (hK : Φ o) : delta_in_W x0 x1 Φ := by
 unfold delta_in_S at h
 unfold delta_in_W
 exact have t := lfS h hK; t
def delta_correct_L1_S (x0 : List api_Span) : (Int × Int × Int × Int) → Option ((Int × Int × Int × Int) ⊕ (Bool))
 | (v5, _, v7, v8) =>
  if v8 < (x0.length : Int) then
   if inX v8 x0.length then
   if inI (v7 + 1) then
   if ((ix x0 v8).From) ≠ (v7 + 1) then
    some (.inr false)
   else
    if ((ix x0 v8).To) < ((ix x0 v8).From) then
     some (.inr false)
    else
     if 1073741824 < ((ix x0 v8).To) then
      some (.inr false)
     else
      Option.bind (delta_in_S ((ix x0 v8).Epoch) 1) fun v30 =>
      if ¬ (v30 = true) then
       some (.inr false)
      else
       if ((ix x0 v8).Epoch) ≤ v5 then
        some (.inr false)
       else
        if inI (v8 + 1) then
        some (.inl ((ix x0 v8).Epoch, (ix x0 v8).From, (ix x0 v8).To, v8 + 1))
        else none
   else none
   else none
  else
   some (.inr true)
theorem delta_correct_L1_sound (x0 : List api_Span) (s : Int × Int × Int × Int) {Φ : Bool → Prop} {rec1 : (Int × Int × Int × Int) → Prop} {o} (h : delta_correct_L1_S x0 s = some o) (hK : (orK rec1 Φ) o) : delta_correct_L1 x0 Φ s rec1 := by
 obtain ⟨v5, v6, v7, v8⟩ := s
 unfold delta_correct_L1_S at h
 unfold delta_correct_L1
 exact ifS h (fun h => adS h fun h => adS h fun h => ifS h (fun h => have t := lfS h hK; t) fun h => ifS h (fun h => have t := lfS h hK; t) fun h => ifS h (fun h => have t := lfS h hK; t) fun h => blS h fun _ hv h => delta_in_sound _ _ hv (ifS h (fun h => have t := lfS h hK; t) fun h => ifS h (fun h => have t := lfS h hK; t) fun h => adS h fun h => have t := lfS h hK; t)) fun h => have t := lfS h hK; t
def delta_correct_S (x0 : List api_Span) : Option (Bool) :=
 loopS (delta_correct_L1_S x0) 100000 (0, 0, 0, 0)
theorem delta_correct_sound (x0 : List api_Span) {Φ : Bool → Prop} {o} (h : delta_correct_S x0 = some o) (hK : Φ o) : delta_correct_W x0 Φ := by
 unfold delta_correct_S at h
 unfold delta_correct_W
 exact LoopW.of_S (fun s q rec hs hq => delta_correct_L1_sound _ s hs hq) _ _ h hK
def image_sizes_1_S (x0 : List Sec) : Option (Int) :=
 some ((x0.length : Int))
theorem image_sizes_1_sound (x0 : List Sec) {Φ : Int → Prop} {o} (h : image_sizes_1_S x0 = some o) (hK : Φ o) : image_sizes_1_W x0 Φ := by
 unfold image_sizes_1_S at h
 unfold image_sizes_1_W
 exact have t := lfS h hK; t
def image_mapped_api_Sector_int__image_sizes_1_L1_S (x0 : List (List Sec)) : (List Int × Int) → Option ((List Int × Int) ⊕ (List Int))
 | (v12, v19) =>
  if v19 < (x0.length : Int) then
   if inX v19 x0.length then
   Option.bind (image_sizes_1_S (ix x0 v19)) fun v26 =>
   if lenOk (v12 ++ ([v26] : List Int)).length 8 then
   if inI (v19 + 1) then
   some (.inl ((v12 ++ ([v26] : List Int)), v19 + 1))
   else none
   else none
   else none
  else
   some (.inr v12)
theorem image_mapped_api_Sector_int__image_sizes_1_L1_sound (x0 : List (List Sec)) (s : List Int × Int) {Φ : List Int → Prop} {rec1 : (List Int × Int) → Prop} {o} (h : image_mapped_api_Sector_int__image_sizes_1_L1_S x0 s = some o) (hK : (orK rec1 Φ) o) : image_mapped_api_Sector_int__image_sizes_1_L1 x0 Φ s rec1 := by
 obtain ⟨v12, v19⟩ := s
 unfold image_mapped_api_Sector_int__image_sizes_1_L1_S at h
 unfold image_mapped_api_Sector_int__image_sizes_1_L1
 exact ifS h (fun h => adS h fun h => blS h fun _ hv h => image_sizes_1_sound _ hv (adS h fun h => adS h fun h => have t := lfS h hK; t)) fun h => have t := lfS h hK; t
def image_mapped_api_Sector_int__image_sizes_1_S (x0 : List (List Sec)) : Option (List Int) :=
 if 0 ≤ (x0.length : Int) then
 if lenOk (x0.length : Int).toNat 8 then
 loopS (image_mapped_api_Sector_int__image_sizes_1_L1_S x0) 100000 (([] : List Int), 0)
 else none
 else none
theorem image_mapped_api_Sector_int__image_sizes_1_sound (x0 : List (List Sec)) {Φ : List Int → Prop} {o} (h : image_mapped_api_Sector_int__image_sizes_1_S x0 = some o) (hK : Φ o) : image_mapped_api_Sector_int__image_sizes_1_W x0 Φ := by
 unfold image_mapped_api_Sector_int__image_sizes_1_S at h
 unfold image_mapped_api_Sector_int__image_sizes_1_W
 exact adS h fun h => adS h fun h => LoopW.of_S (fun s q rec hs hq => image_mapped_api_Sector_int__image_sizes_1_L1_sound _ s hs hq) _ _ h hK
def image_sizes_S (x0 : List (List Sec)) : Option (List Int) :=
 Option.bind (image_mapped_api_Sector_int__image_sizes_1_S x0) fun v2 =>
 some (v2)
theorem image_sizes_sound (x0 : List (List Sec)) {Φ : List Int → Prop} {o} (h : image_sizes_S x0 = some o) (hK : Φ o) : image_sizes_W x0 Φ := by
 unfold image_sizes_S at h
 unfold image_sizes_W
 exact blS h fun _ hv h => image_mapped_api_Sector_int__image_sizes_1_sound _ hv (have t := lfS h hK; t)
def image_checkSizes_1_S (x0 : Int) : Option (Bool) :=
 some (decide ((x0 < 1) ∨ (4096 < x0)))
theorem image_checkSizes_1_sound (x0 : Int) {Φ : Bool → Prop} {o} (h : image_checkSizes_1_S x0 = some o) (hK : Φ o) : image_checkSizes_1_W x0 Φ := by
 unfold image_checkSizes_1_S at h
 unfold image_checkSizes_1_W
 exact have t := lfS h hK; t
def slices_IndexFunc_int_int__image_checkSizes_1_L1_S (x0 : List Int) : (Int) → Option ((Int) ⊕ (Int))
 | (v4) =>
  if v4 < (x0.length : Int) then
   if inX v4 x0.length then
   Option.bind (image_checkSizes_1_S (ix x0 v4)) fun v10 =>
   if v10 = true then
    some (.inr v4)
   else
    if inI (v4 + 1) then
    some (.inl (v4 + 1))
    else none
   else none
  else
   some (.inr (-1))
theorem slices_IndexFunc_int_int__image_checkSizes_1_L1_sound (x0 : List Int) (s : Int) {Φ : Int → Prop} {rec1 : (Int) → Prop} {o} (h : slices_IndexFunc_int_int__image_checkSizes_1_L1_S x0 s = some o) (hK : (orK rec1 Φ) o) : slices_IndexFunc_int_int__image_checkSizes_1_L1 x0 Φ s rec1 := by
 unfold slices_IndexFunc_int_int__image_checkSizes_1_L1_S at h
 unfold slices_IndexFunc_int_int__image_checkSizes_1_L1
 exact ifS h (fun h => adS h fun h => blS h fun _ hv h => image_checkSizes_1_sound _ hv (ifS h (fun h => have t := lfS h hK; t) fun h => adS h fun h => have t := lfS h hK; t)) fun h => have t := lfS h hK; t
def slices_IndexFunc_int_int__image_checkSizes_1_S (x0 : List Int) : Option (Int) :=
 loopS (slices_IndexFunc_int_int__image_checkSizes_1_L1_S x0) 100000 (0)
theorem slices_IndexFunc_int_int__image_checkSizes_1_sound (x0 : List Int) {Φ : Int → Prop} {o} (h : slices_IndexFunc_int_int__image_checkSizes_1_S x0 = some o) (hK : Φ o) : slices_IndexFunc_int_int__image_checkSizes_1_W x0 Φ := by
 unfold slices_IndexFunc_int_int__image_checkSizes_1_S at h
 unfold slices_IndexFunc_int_int__image_checkSizes_1_W
 exact LoopW.of_S (fun s q rec hs hq => slices_IndexFunc_int_int__image_checkSizes_1_L1_sound _ s hs hq) _ _ h hK
def slices_ContainsFunc_int_int__image_checkSizes_1_S (x0 : List Int) : Option (Bool) :=
 Option.bind (slices_IndexFunc_int_int__image_checkSizes_1_S x0) fun v2 =>
 some (decide (0 ≤ v2))
theorem slices_ContainsFunc_int_int__image_checkSizes_1_sound (x0 : List Int) {Φ : Bool → Prop} {o} (h : slices_ContainsFunc_int_int__image_checkSizes_1_S x0 = some o) (hK : Φ o) : slices_ContainsFunc_int_int__image_checkSizes_1_W x0 Φ := by
 unfold slices_ContainsFunc_int_int__image_checkSizes_1_S at h
 unfold slices_ContainsFunc_int_int__image_checkSizes_1_W
 exact blS h fun _ hv h => slices_IndexFunc_int_int__image_checkSizes_1_sound _ hv (have t := lfS h hK; t)
def image_checkSizes_S (x0 : List Int) : Option (Int) :=
 if ((x0.length : Int) < 1) ∨ (8 < (x0.length : Int)) then
  some (6)
 else
  Option.bind (slices_ContainsFunc_int_int__image_checkSizes_1_S x0) fun v4 =>
  if v4 = true then
   some (2)
  else
   some (0)
theorem image_checkSizes_sound (x0 : List Int) {Φ : Int → Prop} {o} (h : image_checkSizes_S x0 = some o) (hK : Φ o) : image_checkSizes_W x0 Φ := by
 unfold image_checkSizes_S at h
 unfold image_checkSizes_W
 exact ifS h (fun h => have t := lfS h hK; t) fun h => blS h fun _ hv h => slices_ContainsFunc_int_int__image_checkSizes_1_sound _ hv (ifS h (fun h => have t := lfS h hK; t) fun h => have t := lfS h hK; t)
def image_Check_S (x0 : List (List Sec)) : Option (Int) :=
 Option.bind (image_sizes_S x0) fun v2 =>
 Option.bind (image_checkSizes_S v2) fun v11 =>
 some (v11)
theorem image_Check_sound (x0 : List (List Sec)) {Φ : Int → Prop} {o} (h : image_Check_S x0 = some o) (hK : Φ o) : image_Check_W x0 Φ := by
 unfold image_Check_S at h
 unfold image_Check_W
 exact blS h fun _ hv h => image_sizes_sound _ hv (blS h fun _ hv h => image_checkSizes_sound _ hv (have t := lfS h hK; t))
def bitmap_words_S (x0 : Int) : Option (Int) :=
 if inI (x0 + 64) then
 if inI ((x0 + 64) - 1) then
 if 0 ≤ ((x0 + 64) - 1) ∧ inI ((x0 + 64) - 1) then
 some (((x0 + 64) - 1) / 64)
 else none
 else none
 else none
theorem bitmap_words_sound (x0 : Int) {Φ : Int → Prop} {o} (h : bitmap_words_S x0 = some o) (hK : Φ o) : bitmap_words_W x0 Φ := by
 unfold bitmap_words_S at h
 unfold bitmap_words_W
 exact adS h fun h => adS h fun h => adS h fun h => have t := lfS h hK; t
def bitmap_Check_J1_S (x0 : api_Bitmap) : Option (Int) :=
 if 0 ≤ x0.Size then
 Option.bind (
  if 0 < (x0.Size % 64) then
   if inI ((x0.Words.length : Int) - 1) then
   if inX ((x0.Words.length : Int) - 1) x0.Words.length then
   if 0 ≤ (x0.Size % 64) then some () else none
   else none
   else none
  else some () : Option Unit) fun _ =>
 if (0 < (x0.Size % 64)) ∧ (((ix x0.Words ((x0.Words.length : Int) - 1)) >>> (x0.Size % 64 : Int).toNat) ≠ (0#64)) then
  some (3)
 else
  some (0)
 else none
theorem bitmap_Check_J1_sound (x0 : api_Bitmap) {Φ : Int → Prop} {o} (h : bitmap_Check_J1_S x0 = some o) (hK : Φ o) : bitmap_Check_J1 x0 Φ := by
 unfold bitmap_Check_J1_S at h
 unfold bitmap_Check_J1
 exact adS h fun h => mgS h (fun h hK => imS h fun h => adS h fun h => adS h fun h => (ofIf h).1) fun h => ifS h (fun h => have t := lfS h hK; t) fun h => have t := lfS h hK; t
def bitmap_Check_S (x0 : api_Bitmap) : Option (Int) :=
 if x0.Size < 0 then
  some (3)
 else
  if 4096 < x0.Size then
   some (3)
  else
   Option.bind (bitmap_words_S x0.Size) fun v19 =>
   if (x0.Words.length : Int) ≠ v19 then
    some (3)
   else
    bitmap_Check_J1_S x0
theorem bitmap_Check_sound (x0 : api_Bitmap) {Φ : Int → Prop} {o} (h : bitmap_Check_S x0 = some o) (hK : Φ o) : bitmap_Check_W x0 Φ := by
 unfold bitmap_Check_S at h
 unfold bitmap_Check_W
 exact ifS h (fun h => have t := lfS h hK; t) fun h => ifS h (fun h => have t := lfS h hK; t) fun h => blS h fun v hv h => ⟨v, bitmap_words_sound _ hv rfl, ifS h (fun h => have t := lfS h hK; t) fun h => bitmap_Check_J1_sound _ h hK⟩
def delta_Check_L1_S (x0 : api_Point) : (Int) → Option ((Int) ⊕ (Int))
 | (v20) =>
  if v20 < (x0.Dirty.length : Int) then
   if inX v20 x0.Dirty.length then
   Option.bind (bitmap_Check_S (ix x0.Dirty v20)) fun v28 =>
   if v28 ≠ 0 then
    some (.inr v28)
   else
    if inX v20 x0.Image.length then
    if ((ix x0.Dirty v20).Size) ≠ ((ix x0.Image v20).length : Int) then
     some (.inr 22)
    else
     if inI (v20 + 1) then
     some (.inl (v20 + 1))
     else none
    else none
   else none
  else
   some (.inr 0)
theorem delta_Check_L1_sound (x0 : api_Point) (s : Int) {Φ : Int → Prop} {rec1 : (Int) → Prop} {o} (h : delta_Check_L1_S x0 s = some o) (hK : (orK rec1 Φ) o) : delta_Check_L1 x0 Φ s rec1 := by
 unfold delta_Check_L1_S at h
 unfold delta_Check_L1
 exact ifS h (fun h => adS h fun h => blS h fun _ hv h => bitmap_Check_sound _ hv (ifS h (fun h => have t := lfS h hK; t) fun h => adS h fun h => ifS h (fun h => have t := lfS h hK; t) fun h => adS h fun h => have t := lfS h hK; t)) fun h => have t := lfS h hK; t
def delta_Check_S (x0 : api_Point) : Option (Int) :=
 Option.bind (delta_in_S x0.Site 0) fun v5 =>
 if ¬ (v5 = true) then
  some (2)
 else
  Option.bind (delta_correct_S x0.Lineage) fun v9 =>
  if ¬ (v9 = true) then
   some (3)
  else
   Option.bind (image_Check_S x0.Image) fun v13 =>
   if v13 ≠ 0 then
    some (v13)
   else
    if (x0.Dirty.length : Int) ≠ (x0.Image.length : Int) then
     some (6)
    else
     loopS (delta_Check_L1_S x0) 100000 (0)
theorem delta_Check_sound (x0 : api_Point) {Φ : Int → Prop} {o} (h : delta_Check_S x0 = some o) (hK : Φ o) : delta_Check_W x0 Φ := by
 unfold delta_Check_S at h
 unfold delta_Check_W
 exact blS h fun _ hv h => delta_in_sound _ _ hv (ifS h (fun h => have t := lfS h hK; t) fun h => blS h fun _ hv h => delta_correct_sound _ hv (ifS h (fun h => have t := lfS h hK; t) fun h => blS h fun _ hv h => image_Check_sound _ hv (ifS h (fun h => have t := lfS h hK; t) fun h => ifS h (fun h => have t := lfS h hK; t) fun h => LoopW.of_S (fun s q rec hs hq => delta_Check_L1_sound _ s hs hq) _ _ h hK)))
def reverse_last_S (x0 : List api_Span) : Option (Int) :=
 if (x0.length : Int) = 0 then
  some (0)
 else
  if inI ((x0.length : Int) - 1) then
  if inX ((x0.length : Int) - 1) x0.length then
  some ((ix x0 ((x0.length : Int) - 1)).To)
  else none
  else none
theorem reverse_last_sound (x0 : List api_Span) {Φ : Int → Prop} {o} (h : reverse_last_S x0 = some o) (hK : Φ o) : reverse_last_W x0 Φ := by
 unfold reverse_last_S at h
 unfold reverse_last_W
 exact ifS h (fun h => have t := lfS h hK; t) fun h => adS h fun h => adS h fun h => have t := lfS h hK; t
def reverse_Undo_1_S (_ : Int) (x1 : api_Bitmap) : Option (List api_Extent) :=
 Option.bind (bitmap_Extents_S x1) fun v3 =>
 some (v3)
theorem reverse_Undo_1_sound (x0 : Int) (x1 : api_Bitmap) {Φ : List api_Extent → Prop} {o} (h : reverse_Undo_1_S x0 x1 = some o) (hK : Φ o) : reverse_Undo_1_W x0 x1 Φ := by
 unfold reverse_Undo_1_S at h
 unfold reverse_Undo_1_W
 exact blS h fun _ hv h => bitmap_Extents_sound _ hv (have t := lfS h hK; t)
def reverse_volumes_api_Extent__reverse_Undo_1_L1_S (x0 : List api_Bitmap) : (List (List api_Extent) × Int) → Option ((List (List api_Extent) × Int) ⊕ (List (List api_Extent)))
 | (v4, v11) =>
  if v11 < (x0.length : Int) then
   if inX v11 x0.length then
   Option.bind (reverse_Undo_1_S v11 (ix x0 v11)) fun v19 =>
   if lenOk (v4 ++ ([v19] : List (List api_Extent))).length 24 then
   if inI (v11 + 1) then
   some (.inl ((v4 ++ ([v19] : List (List api_Extent))), v11 + 1))
   else none
   else none
   else none
  else
   some (.inr v4)
theorem reverse_volumes_api_Extent__reverse_Undo_1_L1_sound (x0 : List api_Bitmap) (s : List (List api_Extent) × Int) {Φ : List (List api_Extent) → Prop} {rec1 : (List (List api_Extent) × Int) → Prop} {o} (h : reverse_volumes_api_Extent__reverse_Undo_1_L1_S x0 s = some o) (hK : (orK rec1 Φ) o) : reverse_volumes_api_Extent__reverse_Undo_1_L1 x0 Φ s rec1 := by
 obtain ⟨v4, v11⟩ := s
 unfold reverse_volumes_api_Extent__reverse_Undo_1_L1_S at h
 unfold reverse_volumes_api_Extent__reverse_Undo_1_L1
 exact ifS h (fun h => adS h fun h => blS h fun _ hv h => reverse_Undo_1_sound _ _ hv (adS h fun h => adS h fun h => have t := lfS h hK; t)) fun h => have t := lfS h hK; t
def reverse_volumes_api_Extent__reverse_Undo_1_S (x0 : List api_Bitmap) : Option (List (List api_Extent)) :=
 loopS (reverse_volumes_api_Extent__reverse_Undo_1_L1_S x0) 100000 (([] : List (List api_Extent)), 0)
theorem reverse_volumes_api_Extent__reverse_Undo_1_sound (x0 : List api_Bitmap) {Φ : List (List api_Extent) → Prop} {o} (h : reverse_volumes_api_Extent__reverse_Undo_1_S x0 = some o) (hK : Φ o) : reverse_volumes_api_Extent__reverse_Undo_1_W x0 Φ := by
 unfold reverse_volumes_api_Extent__reverse_Undo_1_S at h
 unfold reverse_volumes_api_Extent__reverse_Undo_1_W
 exact LoopW.of_S (fun s q rec hs hq => reverse_volumes_api_Extent__reverse_Undo_1_L1_sound _ s hs hq) _ _ h hK
def reverse_Undo_S (x0 : api_Point) (x1 : Int) : Option (List (List api_Extent) × Int) :=
 Option.bind (delta_Check_S x0) fun v5 =>
 if v5 ≠ 0 then
  some ((([] : List (List api_Extent)), v5))
 else
  if x1 < 0 then
   some ((([] : List (List api_Extent)), 2))
  else
   Option.bind (reverse_last_S x0.Lineage) fun v28 =>
   if v28 < x1 then
    some ((([] : List (List api_Extent)), 2))
   else
    Option.bind (reverse_volumes_api_Extent__reverse_Undo_1_S x0.Dirty) fun v32 =>
    some ((v32, 0))
theorem reverse_Undo_sound (x0 : api_Point) (x1 : Int) {Φ : List (List api_Extent) × Int → Prop} {o} (h : reverse_Undo_S x0 x1 = some o) (hK : Φ o) : reverse_Undo_W x0 x1 Φ := by
 unfold reverse_Undo_S at h
 unfold reverse_Undo_W
 exact blS h fun _ hv h => delta_Check_sound _ hv (ifS h (fun h => have t := lfS h hK; t) fun h => ifS h (fun h => have t := lfS h hK; t) fun h => blS h fun _ hv h => reverse_last_sound _ hv (ifS h (fun h => have t := lfS h hK; t) fun h => blS h fun _ hv h => reverse_volumes_api_Extent__reverse_Undo_1_sound _ hv (have t := lfS h hK; t)))
def delta_alike_1_S (x0 : List Sec) (x1 : List Sec) : Option (Bool) :=
 some (decide ((x0.length : Int) = (x1.length : Int)))
theorem delta_alike_1_sound (x0 : List Sec) (x1 : List Sec) {Φ : Bool → Prop} {o} (h : delta_alike_1_S x0 x1 = some o) (hK : Φ o) : delta_alike_1_W x0 x1 Φ := by
 unfold delta_alike_1_S at h
 unfold delta_alike_1_W
 exact have t := lfS h hK; t
def slices_EqualFunc_api_Image_api_Image_api_Sector_api_Sector__delta_alike_1_L1_S (x0 : List (List Sec)) (x1 : List (List Sec)) : (Int) → Option ((Int) ⊕ (Bool))
 | (v6) =>
  if v6 < (x0.length : Int) then
   if inX v6 x0.length then
   if inX v6 x1.length then
   Option.bind (delta_alike_1_S (ix x0 v6) (ix x1 v6)) fun v16 =>
   if ¬ (v16 = true) then
    some (.inr false)
   else
    if inI (v6 + 1) then
    some (.inl (v6 + 1))
    else none
   else none
   else none
  else
   some (.inr true)
theorem slices_EqualFunc_api_Image_api_Image_api_Sector_api_Sector__delta_alike_1_L1_sound (x0 : List (List Sec)) (x1 : List (List Sec)) (s : Int) {Φ : Bool → Prop} {rec1 : (Int) → Prop} {o} (h : slices_EqualFunc_api_Image_api_Image_api_Sector_api_Sector__delta_alike_1_L1_S x0 x1 s = some o) (hK : (orK rec1 Φ) o) : slices_EqualFunc_api_Image_api_Image_api_Sector_api_Sector__delta_alike_1_L1 x0 x1 Φ s rec1 := by
 unfold slices_EqualFunc_api_Image_api_Image_api_Sector_api_Sector__delta_alike_1_L1_S at h
 unfold slices_EqualFunc_api_Image_api_Image_api_Sector_api_Sector__delta_alike_1_L1
 exact ifS h (fun h => adS h fun h => adS h fun h => blS h fun _ hv h => delta_alike_1_sound _ _ hv (ifS h (fun h => have t := lfS h hK; t) fun h => adS h fun h => have t := lfS h hK; t)) fun h => have t := lfS h hK; t
def slices_EqualFunc_api_Image_api_Image_api_Sector_api_Sector__delta_alike_1_S (x0 : List (List Sec)) (x1 : List (List Sec)) : Option (Bool) :=
 if (x0.length : Int) ≠ (x1.length : Int) then
  some (false)
 else
  loopS (slices_EqualFunc_api_Image_api_Image_api_Sector_api_Sector__delta_alike_1_L1_S x0 x1) 100000 (0)
theorem slices_EqualFunc_api_Image_api_Image_api_Sector_api_Sector__delta_alike_1_sound (x0 : List (List Sec)) (x1 : List (List Sec)) {Φ : Bool → Prop} {o} (h : slices_EqualFunc_api_Image_api_Image_api_Sector_api_Sector__delta_alike_1_S x0 x1 = some o) (hK : Φ o) : slices_EqualFunc_api_Image_api_Image_api_Sector_api_Sector__delta_alike_1_W x0 x1 Φ := by
 unfold slices_EqualFunc_api_Image_api_Image_api_Sector_api_Sector__delta_alike_1_S at h
 unfold slices_EqualFunc_api_Image_api_Image_api_Sector_api_Sector__delta_alike_1_W
 exact ifS h (fun h => have t := lfS h hK; t) fun h => LoopW.of_S (fun s q rec hs hq => slices_EqualFunc_api_Image_api_Image_api_Sector_api_Sector__delta_alike_1_L1_sound _ _ s hs hq) _ _ h hK
def delta_alike_S (x0 : List (List Sec)) (x1 : List (List Sec)) : Option (Bool) :=
 Option.bind (slices_EqualFunc_api_Image_api_Image_api_Sector_api_Sector__delta_alike_1_S x0 x1) fun v3 =>
 some (v3)
theorem delta_alike_sound (x0 : List (List Sec)) (x1 : List (List Sec)) {Φ : Bool → Prop} {o} (h : delta_alike_S x0 x1 = some o) (hK : Φ o) : delta_alike_W x0 x1 Φ := by
 unfold delta_alike_S at h
 unfold delta_alike_W
 exact blS h fun _ hv h => slices_EqualFunc_api_Image_api_Image_api_Sector_api_Sector__delta_alike_1_sound _ _ hv (have t := lfS h hK; t)
def bitmap_Or_1_S (x0 : BitVec 64) (x1 : BitVec 64) : Option (BitVec 64) :=
 some (x0 ||| x1)
theorem bitmap_Or_1_sound (x0 : BitVec 64) (x1 : BitVec 64) {Φ : BitVec 64 → Prop} {o} (h : bitmap_Or_1_S x0 x1 = some o) (hK : Φ o) : bitmap_Or_1_W x0 x1 Φ := by
 unfold bitmap_Or_1_S at h
 unfold bitmap_Or_1_W
 exact have t := lfS h hK; t
def bitmap_both__bitmap_Or_1_L1_S (x0 : api_Bitmap) (x1 : api_Bitmap) : (List (BitVec 64) × Int) → Option ((List (BitVec 64) × Int) ⊕ (api_Bitmap × Int))
 | (v25, v32) =>
  if v32 < ((List.replicate (x0.Words.length : Int).toNat (0#64)).length : Int) then
   if inX v32 x0.Words.length then
   if inX v32 x1.Words.length then
   Option.bind (bitmap_Or_1_S (ix x0.Words v32) (ix x1.Words v32)) fun v40 =>
   if inX v32 v25.length then
   if inI (v32 + 1) then
   some (.inl ((put v25 v32 v40), v32 + 1))
   else none
   else none
   else none
   else none
  else
   some (.inr ((api_Bitmap.mk x0.Size v25), 0))
theorem bitmap_both__bitmap_Or_1_L1_sound (x0 : api_Bitmap) (x1 : api_Bitmap) (s : List (BitVec 64) × Int) {Φ : api_Bitmap × Int → Prop} {rec1 : (List (BitVec 64) × Int) → Prop} {o} (h : bitmap_both__bitmap_Or_1_L1_S x0 x1 s = some o) (hK : (orK rec1 Φ) o) : bitmap_both__bitmap_Or_1_L1 x0 x1 Φ s rec1 := by
 obtain ⟨v25, v32⟩ := s
 unfold bitmap_both__bitmap_Or_1_L1_S at h
 unfold bitmap_both__bitmap_Or_1_L1
 exact ifS h (fun h => adS h fun h => adS h fun h => blS h fun v hv h => ⟨v, bitmap_Or_1_sound _ _ hv rfl, adS h fun h => adS h fun h => have t := lfS h hK; t⟩) fun h => have t := lfS h hK; t
def bitmap_both__bitmap_Or_1_S (x0 : api_Bitmap) (x1 : api_Bitmap) : Option (api_Bitmap × Int) :=
 Option.bind (bitmap_Check_S x0) fun v6 =>
 if v6 ≠ 0 then
  some (((api_Bitmap.mk 0 ([] : List (BitVec 64))), v6))
 else
  Option.bind (bitmap_Check_S x1) fun v10 =>
  if v10 ≠ 0 then
   some (((api_Bitmap.mk 0 ([] : List (BitVec 64))), v10))
  else
   if x0.Size ≠ x1.Size then
    some (((api_Bitmap.mk 0 ([] : List (BitVec 64))), 22))
   else
    if 0 ≤ (x0.Words.length : Int) then
    if lenOk (x0.Words.length : Int).toNat 8 then
    loopS (bitmap_both__bitmap_Or_1_L1_S x0 x1) 100000 ((List.replicate (x0.Words.length : Int).toNat (0#64)), 0)
    else none
    else none
theorem bitmap_both__bitmap_Or_1_sound (x0 : api_Bitmap) (x1 : api_Bitmap) {Φ : api_Bitmap × Int → Prop} {o} (h : bitmap_both__bitmap_Or_1_S x0 x1 = some o) (hK : Φ o) : bitmap_both__bitmap_Or_1_W x0 x1 Φ := by
 unfold bitmap_both__bitmap_Or_1_S at h
 unfold bitmap_both__bitmap_Or_1_W
 exact blS h fun _ hv h => bitmap_Check_sound _ hv (ifS h (fun h => have t := lfS h hK; t) fun h => blS h fun _ hv h => bitmap_Check_sound _ hv (ifS h (fun h => have t := lfS h hK; t) fun h => ifS h (fun h => have t := lfS h hK; t) fun h => adS h fun h => adS h fun h => LoopW.of_S (fun s q rec hs hq => bitmap_both__bitmap_Or_1_L1_sound _ _ s hs hq) _ _ h hK))
def bitmap_Or_S (x0 : api_Bitmap) (x1 : api_Bitmap) : Option (api_Bitmap × Int) :=
 Option.bind (bitmap_both__bitmap_Or_1_S x0 x1) fun v6 =>
 some ((v6.1, v6.2))
theorem bitmap_Or_sound (x0 : api_Bitmap) (x1 : api_Bitmap) {Φ : api_Bitmap × Int → Prop} {o} (h : bitmap_Or_S x0 x1 = some o) (hK : Φ o) : bitmap_Or_W x0 x1 Φ := by
 unfold bitmap_Or_S at h
 unfold bitmap_Or_W
 exact blS h fun _ hv h => bitmap_both__bitmap_Or_1_sound _ _ hv (have t := lfS h hK; t)
def delta_marked_L1_S (x0 : api_Point) (x1 : api_Point) : (List (List api_Extent) × Int) → Option ((List (List api_Extent) × Int) ⊕ (List (List api_Extent)))
 | (v19, v26) =>
  if v26 < ((List.replicate (x0.Dirty.length : Int).toNat ([] : List api_Extent)).length : Int) then
   if inX v26 x0.Dirty.length then
   if inX v26 x1.Dirty.length then
   Option.bind (bitmap_Or_S (ix x0.Dirty v26) (ix x1.Dirty v26)) fun v36 =>
   Option.bind (bitmap_Extents_S v36.1) fun v100 =>
   if inX v26 v19.length then
   if inI (v26 + 1) then
   some (.inl ((put v19 v26 v100), v26 + 1))
   else none
   else none
   else none
   else none
  else
   some (.inr v19)
theorem delta_marked_L1_sound (x0 : api_Point) (x1 : api_Point) (s : List (List api_Extent) × Int) {Φ : List (List api_Extent) → Prop} {rec1 : (List (List api_Extent) × Int) → Prop} {o} (h : delta_marked_L1_S x0 x1 s = some o) (hK : (orK rec1 Φ) o) : delta_marked_L1 x0 x1 Φ s rec1 := by
 obtain ⟨v19, v26⟩ := s
 unfold delta_marked_L1_S at h
 unfold delta_marked_L1
 exact ifS h (fun h => adS h fun h => adS h fun h => blS h fun v hv h => ⟨v, bitmap_Or_sound _ _ hv rfl, blS h fun _ hv h => bitmap_Extents_sound _ hv (adS h fun h => adS h fun h => have t := lfS h hK; t)⟩) fun h => have t := lfS h hK; t
def delta_marked_S (x0 : api_Point) (x1 : api_Point) : Option (List (List api_Extent)) :=
 if 0 ≤ (x0.Dirty.length : Int) then
 if lenOk (x0.Dirty.length : Int).toNat 24 then
 loopS (delta_marked_L1_S x0 x1) 100000 ((List.replicate (x0.Dirty.length : Int).toNat ([] : List api_Extent)), 0)
 else none
 else none
theorem delta_marked_sound (x0 : api_Point) (x1 : api_Point) {Φ : List (List api_Extent) → Prop} {o} (h : delta_marked_S x0 x1 = some o) (hK : Φ o) : delta_marked_W x0 x1 Φ := by
 unfold delta_marked_S at h
 unfold delta_marked_W
 exact adS h fun h => adS h fun h => LoopW.of_S (fun s q rec hs hq => delta_marked_L1_sound _ _ s hs hq) _ _ h hK
def delta_Between_L1_S (x0 : api_Point) (x1 : api_Point) : (Int) → Option ((Int) ⊕ (List (List api_Extent) × Int))
 | (v13) =>
  if v13 < (([x0, x1] : List api_Point).length : Int) then
   if inX v13 ([x0, x1] : List api_Point).length then
   Option.bind (delta_Check_S (ix ([x0, x1] : List api_Point) v13)) fun v23 =>
   if v23 ≠ 0 then
    some (.inr (([] : List (List api_Extent)), v23))
   else
    if inI (v13 + 1) then
    some (.inl (v13 + 1))
    else none
   else none
  else
   Option.bind (delta_alike_S x0.Image x1.Image) fun v28 =>
   if ¬ (v28 = true) then
    some (.inr (([] : List (List api_Extent)), 22))
   else
    Option.bind (delta_marked_S x0 x1) fun v32 =>
    some (.inr (v32, 0))
theorem delta_Between_L1_sound (x0 : api_Point) (x1 : api_Point) (s : Int) {Φ : List (List api_Extent) × Int → Prop} {rec1 : (Int) → Prop} {o} (h : delta_Between_L1_S x0 x1 s = some o) (hK : (orK rec1 Φ) o) : delta_Between_L1 x0 x1 Φ s rec1 := by
 unfold delta_Between_L1_S at h
 unfold delta_Between_L1
 exact ifS h (fun h => adS h fun h => blS h fun _ hv h => delta_Check_sound _ hv (ifS h (fun h => have t := lfS h hK; t) fun h => adS h fun h => have t := lfS h hK; t)) fun h => blS h fun _ hv h => delta_alike_sound _ _ hv (ifS h (fun h => have t := lfS h hK; t) fun h => blS h fun _ hv h => delta_marked_sound _ _ hv (have t := lfS h hK; t))
def delta_Between_S (x0 : api_Point) (x1 : api_Point) : Option (List (List api_Extent) × Int) :=
 loopS (delta_Between_L1_S x0 x1) 100000 (0)
theorem delta_Between_sound (x0 : api_Point) (x1 : api_Point) {Φ : List (List api_Extent) × Int → Prop} {o} (h : delta_Between_S x0 x1 = some o) (hK : Φ o) : delta_Between_W x0 x1 Φ := by
 unfold delta_Between_S at h
 unfold delta_Between_W
 exact LoopW.of_S (fun s q rec hs hq => delta_Between_L1_sound _ _ s hs hq) _ _ h hK
def reverse_Extents_S (x0 : api_Point) (x1 : api_Point) : Option (List (List api_Extent) × Int) :=
 Option.bind (delta_Between_S x0 x1) fun v9 =>
 some ((v9.1, v9.2))
theorem reverse_Extents_sound (x0 : api_Point) (x1 : api_Point) {Φ : List (List api_Extent) × Int → Prop} {o} (h : reverse_Extents_S x0 x1 = some o) (hK : Φ o) : reverse_Extents_W x0 x1 Φ := by
 unfold reverse_Extents_S at h
 unfold reverse_Extents_W
 exact blS h fun _ hv h => delta_Between_sound _ _ hv (have t := lfS h hK; t)
def delta_Ancestor_L3_S (x0 : List api_Span) (x1 : List api_Span) : (Int × Int × Int) → Option ((Int × Int × Int) ⊕ (Int × Int))
 | (v11, v12, v13) =>
  Option.bind (
   if v13 < (if (x1.length : Int) < (x0.length : Int) then (x1.length : Int) else (x0.length : Int)) then
    if inX v13 x0.length then
    if inX v13 x1.length then some () else none
    else none
   else some () : Option Unit) fun _ =>
  if (v13 < (if (x1.length : Int) < (x0.length : Int) then (x1.length : Int) else (x0.length : Int))) ∧ (((ix x0 v13).Epoch) = ((ix x1 v13).Epoch)) then
   if inX v13 x0.length then
   if inX v13 x1.length then
   if ((ix x0 v13).To) ≠ ((ix x1 v13).To) then
    some (.inr (if ((ix x1 v13).To) < ((ix x0 v13).To) then ((ix x1 v13).To) else ((ix x0 v13).To), (ix x0 v13).Epoch))
   else
    if inI (v13 + 1) then
    some (.inl (if ((ix x1 v13).To) < ((ix x0 v13).To) then ((ix x1 v13).To) else ((ix x0 v13).To), (ix x0 v13).Epoch, v13 + 1))
    else none
   else none
   else none
  else
   some (.inr (v11, v12))
theorem delta_Ancestor_L3_sound (x0 : List api_Span) (x1 : List api_Span) (s : Int × Int × Int) {Φ : Int × Int → Prop} {rec3 : (Int × Int × Int) → Prop} {o} (h : delta_Ancestor_L3_S x0 x1 s = some o) (hK : (orK rec3 Φ) o) : delta_Ancestor_L3 x0 x1 Φ s rec3 := by
 obtain ⟨v11, v12, v13⟩ := s
 unfold delta_Ancestor_L3_S at h
 unfold delta_Ancestor_L3
 exact mgS h (fun h hK => imS h fun h => adS h fun h => (ofIf h).1) fun h => ifS h (fun h => adS h fun h => adS h fun h => ifS h (fun h => have t := lfS h hK; t) fun h => adS h fun h => have t := lfS h hK; t) fun h => have t := lfS h hK; t
def delta_Ancestor_J1_S (x0 : List api_Span) (x1 : List api_Span) : Option (Int × Int) :=
 loopS (delta_Ancestor_L3_S x0 x1) 100000 (0, 0, 0)
theorem delta_Ancestor_J1_sound (x0 : List api_Span) (x1 : List api_Span) {Φ : Int × Int → Prop} {o} (h : delta_Ancestor_J1_S x0 x1 = some o) (hK : Φ o) : delta_Ancestor_J1 x0 x1 Φ := by
 unfold delta_Ancestor_J1_S at h
 unfold delta_Ancestor_J1
 exact LoopW.of_S (fun s q rec hs hq => delta_Ancestor_L3_sound _ _ s hs hq) _ _ h hK
def delta_Ancestor_S (x0 : List api_Span) (x1 : List api_Span) : Option (Int × Int) :=
 Option.bind (delta_correct_S x0) fun v72 =>
 if ¬ (v72 = true) then
  some ((0, 0))
 else
  Option.bind (delta_correct_S x1) fun v76 =>
  if ¬ (v76 = true) then
   some ((0, 0))
  else
   delta_Ancestor_J1_S x0 x1
theorem delta_Ancestor_sound (x0 : List api_Span) (x1 : List api_Span) {Φ : Int × Int → Prop} {o} (h : delta_Ancestor_S x0 x1 = some o) (hK : Φ o) : delta_Ancestor_W x0 x1 Φ := by
 unfold delta_Ancestor_S at h
 unfold delta_Ancestor_W
 exact blS h fun _ hv h => delta_correct_sound _ hv (ifS h (fun h => have t := lfS h hK; t) fun h => blS h fun _ hv h => delta_correct_sound _ hv (ifS h (fun h => have t := lfS h hK; t) fun h => delta_Ancestor_J1_sound _ _ h hK))
def slices_Clone_int_int_S (x0 : List Int) : Option (List Int) :=
 bothS (x0).isEmpty (
  some (([] : List Int))) (
  if lenOk (([] : List Int) ++ x0).length 8 then
  some ((([] : List Int) ++ x0))
  else none)
theorem slices_Clone_int_int_sound (x0 : List Int) {Φ : List Int → Prop} {o} (h : slices_Clone_int_int_S x0 = some o) (hK : Φ o) : slices_Clone_int_int_W x0 Φ := by
 unfold slices_Clone_int_int_S at h
 unfold slices_Clone_int_int_W
 exact nlS h (fun h => have t := lfS h hK; t) fun h => adS h fun h => have t := lfS h hK; t
def slices_Clone_api_Sector_api_Sector_S (x0 : List Sec) : Option (List Sec) :=
 bothS (x0).isEmpty (
  some (([] : List Sec))) (
  if lenOk (([] : List Sec) ++ x0).length 8 then
  some ((([] : List Sec) ++ x0))
  else none)
theorem slices_Clone_api_Sector_api_Sector_sound (x0 : List Sec) {Φ : List Sec → Prop} {o} (h : slices_Clone_api_Sector_api_Sector_S x0 = some o) (hK : Φ o) : slices_Clone_api_Sector_api_Sector_W x0 Φ := by
 unfold slices_Clone_api_Sector_api_Sector_S at h
 unfold slices_Clone_api_Sector_api_Sector_W
 exact nlS h (fun h => have t := lfS h hK; t) fun h => adS h fun h => have t := lfS h hK; t
def image_New_1_S (x0 : Int) : Option (List Sec) :=
 if 0 ≤ x0 then
 if lenOk x0.toNat 8 then
 some ((List.replicate x0.toNat sec0))
 else none
 else none
theorem image_New_1_sound (x0 : Int) {Φ : List Sec → Prop} {o} (h : image_New_1_S x0 = some o) (hK : Φ o) : image_New_1_W x0 Φ := by
 unfold image_New_1_S at h
 unfold image_New_1_W
 exact adS h fun h => adS h fun h => have t := lfS h hK; t
def image_mapped_int_api_Sector__image_New_1_L1_S (x0 : List Int) : (List (List Sec) × Int) → Option ((List (List Sec) × Int) ⊕ (List (List Sec)))
 | (v12, v20) =>
  if v20 < (x0.length : Int) then
   if inX v20 x0.length then
   Option.bind (image_New_1_S (ix x0 v20)) fun v26 =>
   if lenOk (v12 ++ [v26]).length 24 then
   if inI (v20 + 1) then
   some (.inl ((v12 ++ [v26]), v20 + 1))
   else none
   else none
   else none
  else
   some (.inr v12)
theorem image_mapped_int_api_Sector__image_New_1_L1_sound (x0 : List Int) (s : List (List Sec) × Int) {Φ : List (List Sec) → Prop} {rec1 : (List (List Sec) × Int) → Prop} {o} (h : image_mapped_int_api_Sector__image_New_1_L1_S x0 s = some o) (hK : (orK rec1 Φ) o) : image_mapped_int_api_Sector__image_New_1_L1 x0 Φ s rec1 := by
 obtain ⟨v12, v20⟩ := s
 unfold image_mapped_int_api_Sector__image_New_1_L1_S at h
 unfold image_mapped_int_api_Sector__image_New_1_L1
 exact ifS h (fun h => adS h fun h => blS h fun _ hv h => image_New_1_sound _ hv (adS h fun h => adS h fun h => have t := lfS h hK; t)) fun h => have t := lfS h hK; t
def image_mapped_int_api_Sector__image_New_1_S (x0 : List Int) : Option (List (List Sec)) :=
 if 0 ≤ (x0.length : Int) then
 if lenOk (x0.length : Int).toNat 24 then
 loopS (image_mapped_int_api_Sector__image_New_1_L1_S x0) 100000 (([] : List (List Sec)), 0)
 else none
 else none
theorem image_mapped_int_api_Sector__image_New_1_sound (x0 : List Int) {Φ : List (List Sec) → Prop} {o} (h : image_mapped_int_api_Sector__image_New_1_S x0 = some o) (hK : Φ o) : image_mapped_int_api_Sector__image_New_1_W x0 Φ := by
 unfold image_mapped_int_api_Sector__image_New_1_S at h
 unfold image_mapped_int_api_Sector__image_New_1_W
 exact adS h fun h => adS h fun h => LoopW.of_S (fun s q rec hs hq => image_mapped_int_api_Sector__image_New_1_L1_sound _ s hs hq) _ _ h hK
def image_New_S (x0 : List Int) : Option (List (List Sec) × Int) :=
 Option.bind (image_checkSizes_S x0) fun v2 =>
 if v2 ≠ 0 then
  some ((([] : List (List Sec)), v2))
 else
  Option.bind (image_mapped_int_api_Sector__image_New_1_S x0) fun v6 =>
  some ((v6, 0))
theorem image_New_sound (x0 : List Int) {Φ : List (List Sec) × Int → Prop} {o} (h : image_New_S x0 = some o) (hK : Φ o) : image_New_W x0 Φ := by
 unfold image_New_S at h
 unfold image_New_W
 exact blS h fun _ hv h => image_checkSizes_sound _ hv (ifS h (fun h => have t := lfS h hK; t) fun h => blS h fun _ hv h => image_mapped_int_api_Sector__image_New_1_sound _ hv (have t := lfS h hK; t))
def cycle_in_S (x0 : Int) (x1 : Int) (x2 : Int) : Option (Bool) :=
 some (decide ((x1 ≤ x0) ∧ (x0 ≤ x2)))
theorem cycle_in_sound (x0 : Int) (x1 : Int) (x2 : Int) {Φ : Bool → Prop} {o} (h : cycle_in_S x0 x1 x2 = some o) (hK : Φ o) : cycle_in_W x0 x1 x2 Φ := by
 unfold cycle_in_S at h
 unfold cycle_in_W
 exact have t := lfS h hK; t
def cycle_positions_1_S (x0 : Int) : Option (Bool) :=
 Option.bind (cycle_in_S x0 0 1073741824) fun v1 =>
 some (decide (¬ (v1 = true)))
theorem cycle_positions_1_sound (x0 : Int) {Φ : Bool → Prop} {o} (h : cycle_positions_1_S x0 = some o) (hK : Φ o) : cycle_positions_1_W x0 Φ := by
 unfold cycle_positions_1_S at h
 unfold cycle_positions_1_W
 exact blS h fun _ hv h => cycle_in_sound _ _ _ hv (have t := lfS h hK; t)
def slices_IndexFunc_int_int__cycle_positions_1_L1_S (x0 : List Int) : (Int) → Option ((Int) ⊕ (Int))
 | (v4) =>
  if v4 < (x0.length : Int) then
   if inX v4 x0.length then
   Option.bind (cycle_positions_1_S (ix x0 v4)) fun v10 =>
   if v10 = true then
    some (.inr v4)
   else
    if inI (v4 + 1) then
    some (.inl (v4 + 1))
    else none
   else none
  else
   some (.inr (-1))
theorem slices_IndexFunc_int_int__cycle_positions_1_L1_sound (x0 : List Int) (s : Int) {Φ : Int → Prop} {rec1 : (Int) → Prop} {o} (h : slices_IndexFunc_int_int__cycle_positions_1_L1_S x0 s = some o) (hK : (orK rec1 Φ) o) : slices_IndexFunc_int_int__cycle_positions_1_L1 x0 Φ s rec1 := by
 unfold slices_IndexFunc_int_int__cycle_positions_1_L1_S at h
 unfold slices_IndexFunc_int_int__cycle_positions_1_L1
 exact ifS h (fun h => adS h fun h => blS h fun _ hv h => cycle_positions_1_sound _ hv (ifS h (fun h => have t := lfS h hK; t) fun h => adS h fun h => have t := lfS h hK; t)) fun h => have t := lfS h hK; t
def slices_IndexFunc_int_int__cycle_positions_1_S (x0 : List Int) : Option (Int) :=
 loopS (slices_IndexFunc_int_int__cycle_positions_1_L1_S x0) 100000 (0)
theorem slices_IndexFunc_int_int__cycle_positions_1_sound (x0 : List Int) {Φ : Int → Prop} {o} (h : slices_IndexFunc_int_int__cycle_positions_1_S x0 = some o) (hK : Φ o) : slices_IndexFunc_int_int__cycle_positions_1_W x0 Φ := by
 unfold slices_IndexFunc_int_int__cycle_positions_1_S at h
 unfold slices_IndexFunc_int_int__cycle_positions_1_W
 exact LoopW.of_S (fun s q rec hs hq => slices_IndexFunc_int_int__cycle_positions_1_L1_sound _ s hs hq) _ _ h hK
def slices_ContainsFunc_int_int__cycle_positions_1_S (x0 : List Int) : Option (Bool) :=
 Option.bind (slices_IndexFunc_int_int__cycle_positions_1_S x0) fun v2 =>
 some (decide (0 ≤ v2))
theorem slices_ContainsFunc_int_int__cycle_positions_1_sound (x0 : List Int) {Φ : Bool → Prop} {o} (h : slices_ContainsFunc_int_int__cycle_positions_1_S x0 = some o) (hK : Φ o) : slices_ContainsFunc_int_int__cycle_positions_1_W x0 Φ := by
 unfold slices_ContainsFunc_int_int__cycle_positions_1_S at h
 unfold slices_ContainsFunc_int_int__cycle_positions_1_W
 exact blS h fun _ hv h => slices_IndexFunc_int_int__cycle_positions_1_sound _ hv (have t := lfS h hK; t)
def cycle_positions_S (x0 : List Int) (x1 : Int) : Option (Int) :=
 Option.bind (cycle_in_S (x0.length : Int) x1 8) fun v2 =>
 if ¬ (v2 = true) then
  some (6)
 else
  Option.bind (slices_ContainsFunc_int_int__cycle_positions_1_S x0) fun v6 =>
  if v6 = true then
   some (2)
  else
   some (0)
theorem cycle_positions_sound (x0 : List Int) (x1 : Int) {Φ : Int → Prop} {o} (h : cycle_positions_S x0 x1 = some o) (hK : Φ o) : cycle_positions_W x0 x1 Φ := by
 unfold cycle_positions_S at h
 unfold cycle_positions_W
 exact blS h fun _ hv h => cycle_in_sound _ _ _ hv (ifS h (fun h => have t := lfS h hK; t) fun h => blS h fun _ hv h => slices_ContainsFunc_int_int__cycle_positions_1_sound _ hv (ifS h (fun h => have t := lfS h hK; t) fun h => have t := lfS h hK; t))
def image_fits_S (x0 : List (List Sec)) (x1 : api_Write) : Option (Int) :=
 if (x1.Volume < 0) ∨ ((x0.length : Int) ≤ x1.Volume) then
  some (7)
 else
  if (x1.Data.length : Int) = 0 then
   some (1)
  else
   Option.bind (
    if ¬ (x1.Start < 0) then
     if inX x1.Volume x0.length then
     if inI (((ix x0 x1.Volume).length : Int) - (x1.Data.length : Int)) then some () else none
     else none
    else some () : Option Unit) fun _ =>
   if (x1.Start < 0) ∨ ((((ix x0 x1.Volume).length : Int) - (x1.Data.length : Int)) < x1.Start) then
    some (2)
   else
    some (0)
theorem image_fits_sound (x0 : List (List Sec)) (x1 : api_Write) {Φ : Int → Prop} {o} (h : image_fits_S x0 x1 = some o) (hK : Φ o) : image_fits_W x0 x1 Φ := by
 unfold image_fits_S at h
 unfold image_fits_W
 exact ifS h (fun h => have t := lfS h hK; t) fun h => ifS h (fun h => have t := lfS h hK; t) fun h => mgS h (fun h hK => imS h fun h => adS h fun h => (ofIf h).1) fun h => ifS h (fun h => have t := lfS h hK; t) fun h => have t := lfS h hK; t
def image_Fits_S (x0 : List (List Sec)) (x1 : api_Write) : Option (Int) :=
 Option.bind (image_Check_S x0) fun v4 =>
 if v4 ≠ 0 then
  some (v4)
 else
  Option.bind (image_fits_S x0 x1) fun v8 =>
  some (v8)
theorem image_Fits_sound (x0 : List (List Sec)) (x1 : api_Write) {Φ : Int → Prop} {o} (h : image_Fits_S x0 x1 = some o) (hK : Φ o) : image_Fits_W x0 x1 Φ := by
 unfold image_Fits_S at h
 unfold image_Fits_W
 exact blS h fun _ hv h => image_Check_sound _ hv (ifS h (fun h => have t := lfS h hK; t) fun h => blS h fun _ hv h => image_fits_sound _ _ hv (have t := lfS h hK; t))
def coalesce_Check_1_S (x0 : api_Write) (y800 : List (List Sec)) : Option (Int) :=
 Option.bind (image_Fits_S y800 x0) fun v4 =>
 some (v4)
theorem coalesce_Check_1_sound (x0 : api_Write) (y800 : List (List Sec)) {Φ : Int → Prop} {o} (h : coalesce_Check_1_S x0 y800 = some o) (hK : Φ o) : coalesce_Check_1_W x0 y800 Φ := by
 unfold coalesce_Check_1_S at h
 unfold coalesce_Check_1_W
 exact blS h fun _ hv h => image_Fits_sound _ _ hv (have t := lfS h hK; t)
def coalesce_check__coalesce_Check_1_L1_S (x0 : List api_Write) (y910 : List (List Sec)) : (Int) → Option ((Int) ⊕ (Int))
 | (v5) =>
  if v5 < (x0.length : Int) then
   if inX v5 x0.length then
   Option.bind (coalesce_Check_1_S (ix x0 v5) y910) fun v16 =>
   if v16 ≠ 0 then
    some (.inr v16)
   else
    if v5 = 0 then
     if inI (v5 + 1) then
     some (.inl (v5 + 1))
     else none
    else
     if inI (v5 - 1) then
     if inX (v5 - 1) x0.length then
     Option.bind (
      if ¬ (((ix x0 v5).Volume) < ((ix x0 (v5 - 1)).Volume)) then
       if ((ix x0 v5).Volume) = ((ix x0 (v5 - 1)).Volume) then
        if inI (((ix x0 (v5 - 1)).Start) + (((ix x0 (v5 - 1)).Data).length : Int)) then some () else none
       else some ()
      else some () : Option Unit) fun _ =>
     if (((ix x0 v5).Volume) < ((ix x0 (v5 - 1)).Volume)) ∨ ((((ix x0 v5).Volume) = ((ix x0 (v5 - 1)).Volume)) ∧ (((ix x0 v5).Start) ≤ (((ix x0 (v5 - 1)).Start) + (((ix x0 (v5 - 1)).Data).length : Int)))) then
      some (.inr 3)
     else
      if inI (v5 + 1) then
      some (.inl (v5 + 1))
      else none
     else none
     else none
   else none
  else
   some (.inr 0)
theorem coalesce_check__coalesce_Check_1_L1_sound (x0 : List api_Write) (y910 : List (List Sec)) (s : Int) {Φ : Int → Prop} {rec1 : (Int) → Prop} {o} (h : coalesce_check__coalesce_Check_1_L1_S x0 y910 s = some o) (hK : (orK rec1 Φ) o) : coalesce_check__coalesce_Check_1_L1 x0 y910 Φ s rec1 := by
 unfold coalesce_check__coalesce_Check_1_L1_S at h
 unfold coalesce_check__coalesce_Check_1_L1
 exact ifS h (fun h => adS h fun h => blS h fun _ hv h => coalesce_Check_1_sound _ _ hv (ifS h (fun h => have t := lfS h hK; t) fun h => ifS h (fun h => adS h fun h => have t := lfS h hK; t) fun h => adS h fun h => adS h fun h => mgS h (fun h hK => imS h fun h => imS h fun h => (ofIf h).1) fun h => ifS h (fun h => have t := lfS h hK; t) fun h => adS h fun h => have t := lfS h hK; t)) fun h => have t := lfS h hK; t
def coalesce_check__coalesce_Check_1_S (x0 : List api_Write) (y910 : List (List Sec)) : Option (Int) :=
 loopS (coalesce_check__coalesce_Check_1_L1_S x0 y910) 100000 (0)
theorem coalesce_check__coalesce_Check_1_sound (x0 : List api_Write) (y910 : List (List Sec)) {Φ : Int → Prop} {o} (h : coalesce_check__coalesce_Check_1_S x0 y910 = some o) (hK : Φ o) : coalesce_check__coalesce_Check_1_W x0 y910 Φ := by
 unfold coalesce_check__coalesce_Check_1_S at h
 unfold coalesce_check__coalesce_Check_1_W
 exact LoopW.of_S (fun s q rec hs hq => coalesce_check__coalesce_Check_1_L1_sound _ _ s hs hq) _ _ h hK
def coalesce_Check_S (x0 : List api_Write) (x1 : List Int) : Option (Int) :=
 Option.bind (image_New_S x1) fun v3 =>
 if v3.2 ≠ 0 then
  some (v3.2)
 else
  Option.bind (coalesce_check__coalesce_Check_1_S x0 v3.1) fun v12 =>
  some (v12)
theorem coalesce_Check_sound (x0 : List api_Write) (x1 : List Int) {Φ : Int → Prop} {o} (h : coalesce_Check_S x0 x1 = some o) (hK : Φ o) : coalesce_Check_W x0 x1 Φ := by
 unfold coalesce_Check_S at h
 unfold coalesce_Check_W
 exact blS h fun _ hv h => image_New_sound _ hv (ifS h (fun h => have t := lfS h hK; t) fun h => blS h fun _ hv h => coalesce_check__coalesce_Check_1_sound _ _ hv (have t := lfS h hK; t))
def cycle_Check_S (x0 : api_Cycle) (x1 : List Int) : Option (Int) :=
 Option.bind (image_New_S x1) fun v5 =>
 if v5.2 ≠ 0 then
  some (v5.2)
 else
  if (x0.Base < 0) ∨ ((x0.Number ≤ x0.Base) ∨ (1073741824 < x0.Number)) then
   some (2)
  else
   Option.bind (cycle_in_S x0.Time 0 1073741824) fun v13 =>
   if ¬ (v13 = true) then
    some (24)
   else
    Option.bind (cycle_positions_S x0.Positions 0) fun v17 =>
    if v17 ≠ 0 then
     some (v17)
    else
     Option.bind (coalesce_Check_S x0.Writes x1) fun v21 =>
     some (v21)
theorem cycle_Check_sound (x0 : api_Cycle) (x1 : List Int) {Φ : Int → Prop} {o} (h : cycle_Check_S x0 x1 = some o) (hK : Φ o) : cycle_Check_W x0 x1 Φ := by
 unfold cycle_Check_S at h
 unfold cycle_Check_W
 exact blS h fun _ hv h => image_New_sound _ hv (ifS h (fun h => have t := lfS h hK; t) fun h => ifS h (fun h => have t := lfS h hK; t) fun h => blS h fun _ hv h => cycle_in_sound _ _ _ hv (ifS h (fun h => have t := lfS h hK; t) fun h => blS h fun _ hv h => cycle_positions_sound _ _ hv (ifS h (fun h => have t := lfS h hK; t) fun h => blS h fun _ hv h => coalesce_Check_sound _ _ hv (have t := lfS h hK; t))))
def reverse_Cycle_L3_S (x1 : api_Point) (v11 : List (List api_Extent) × Int) (v39 : List Int) (v46 : Int) : (List api_Write × Int) → Option ((List api_Write × Int) ⊕ ((List api_Write × List Int × Int) ⊕ (api_Cycle × Int)))
 | (v67, v74) =>
  if v74 < ((ix v11.1 v46).length : Int) then
   if inX v74 (ix v11.1 v46).length then
   if inI (((ix (ix v11.1 v46) v74).Start) + ((ix (ix v11.1 v46) v74).Count)) then
   if inS ((ix (ix v11.1 v46) v74).Start) (((ix (ix v11.1 v46) v74).Start) + ((ix (ix v11.1 v46) v74).Count)) (ix x1.Image v46).length then
   Option.bind (slices_Clone_api_Sector_api_Sector_S (sub (ix x1.Image v46) ((ix (ix v11.1 v46) v74).Start) (((ix (ix v11.1 v46) v74).Start) + ((ix (ix v11.1 v46) v74).Count)))) fun v102 =>
   if lenOk (v67 ++ ([(api_Write.mk v46 ((ix (ix v11.1 v46) v74).Start) v102)] : List api_Write)).length 40 then
   if inI (v74 + 1) then
   some (.inl ((v67 ++ ([(api_Write.mk v46 ((ix (ix v11.1 v46) v74).Start) v102)] : List api_Write)), v74 + 1))
   else none
   else none
   else none
   else none
   else none
  else
   if inI (v46 + 1) then
   some (.inr (.inl (v67, (v39 ++ ([((ix x1.Image v46).length : Int)] : List Int)), v46 + 1)))
   else none
theorem reverse_Cycle_L3_sound (x1 : api_Point) (v11 : List (List api_Extent) × Int) (v39 : List Int) (v46 : Int) (s : List api_Write × Int) {Φ : api_Cycle × Int → Prop} {rec2 : (List api_Write × List Int × Int) → Prop} {rec3 : (List api_Write × Int) → Prop} {o} (h : reverse_Cycle_L3_S x1 v11 v39 v46 s = some o) (hK : (orK rec3 (orK rec2 Φ)) o) : reverse_Cycle_L3 x1 v11 v39 v46 rec2 Φ s rec3 := by
 obtain ⟨v67, v74⟩ := s
 unfold reverse_Cycle_L3_S at h
 unfold reverse_Cycle_L3
 exact ifS h (fun h => adS h fun h => adS h fun h => adS h fun h => blS h fun v hv h => ⟨v, slices_Clone_api_Sector_api_Sector_sound _ hv rfl, adS h fun h => adS h fun h => have t := lfS h hK; t⟩) fun h => adS h fun h => have t := lfS h hK; t
def reverse_Cycle_L2_S (x1 : api_Point) (x2 : Int) (x3 : Int) (v11 : List (List api_Extent) × Int) (v18 : Int × Int) (v23 : List Int) : (List api_Write × List Int × Int) → Option ((List api_Write × List Int × Int) ⊕ (api_Cycle × Int))
 | (v32, v39, v46) =>
  if v46 < (x1.Image.length : Int) then
   if inX v46 x1.Image.length then
   if lenOk (v39 ++ ([((ix x1.Image v46).length : Int)] : List Int)).length 8 then
   if inX v46 v11.1.length then
   loopS (reverse_Cycle_L3_S x1 v11 v39 v46) 100000 (v32, 0)
   else none
   else none
   else none
  else
   Option.bind (cycle_Check_S (api_Cycle.mk v18.1 x2 x3 v23 v32) v39) fun v176 =>
   if v176 ≠ 0 then
    some (.inr ((api_Cycle.mk 0 0 0 ([] : List Int) ([] : List api_Write)), v176))
   else
    some (.inr ((api_Cycle.mk v18.1 x2 x3 v23 v32), 0))
theorem reverse_Cycle_L2_sound (x1 : api_Point) (x2 : Int) (x3 : Int) (v11 : List (List api_Extent) × Int) (v18 : Int × Int) (v23 : List Int) (s : List api_Write × List Int × Int) {Φ : api_Cycle × Int → Prop} {rec2 : (List api_Write × List Int × Int) → Prop} {o} (h : reverse_Cycle_L2_S x1 x2 x3 v11 v18 v23 s = some o) (hK : (orK rec2 Φ) o) : reverse_Cycle_L2 x1 x2 x3 v11 v18 v23 Φ s rec2 := by
 obtain ⟨v32, v39, v46⟩ := s
 unfold reverse_Cycle_L2_S at h
 unfold reverse_Cycle_L2
 exact ifS h (fun h => adS h fun h => adS h fun h => adS h fun h => LoopW.of_S (fun s q rec hs hq => reverse_Cycle_L3_sound _ _ _ _ s hs hq) _ _ h hK) fun h => blS h fun _ hv h => cycle_Check_sound _ _ hv (ifS h (fun h => have t := lfS h hK; t) fun h => have t := lfS h hK; t)
def reverse_Cycle_J1_S (x1 : api_Point) (x2 : Int) (x3 : Int) (x4 : List Int) (v11 : List (List api_Extent) × Int) (v18 : Int × Int) : Option (api_Cycle × Int) :=
 Option.bind (slices_Clone_int_int_S x4) fun v23 =>
 loopS (reverse_Cycle_L2_S x1 x2 x3 v11 v18 v23) 100000 (([] : List api_Write), ([] : List Int), 0)
theorem reverse_Cycle_J1_sound (x1 : api_Point) (x2 : Int) (x3 : Int) (x4 : List Int) (v11 : List (List api_Extent) × Int) (v18 : Int × Int) {Φ : api_Cycle × Int → Prop} {o} (h : reverse_Cycle_J1_S x1 x2 x3 x4 v11 v18 = some o) (hK : Φ o) : reverse_Cycle_J1 x1 x2 x3 x4 v11 v18 Φ := by
 unfold reverse_Cycle_J1_S at h
 unfold reverse_Cycle_J1
 exact blS h fun _ hv h => slices_Clone_int_int_sound _ hv (LoopW.of_S (fun s q rec hs hq => reverse_Cycle_L2_sound _ _ _ _ _ _ s hs hq) _ _ h hK)
def reverse_Cycle_S (x0 : api_Point) (x1 : api_Point) (x2 : Int) (x3 : Int) (x4 : List Int) : Option (api_Cycle × Int) :=
 Option.bind (delta_Between_S x0 x1) fun v11 =>
 if v11.2 ≠ 0 then
  some (((api_Cycle.mk 0 0 0 ([] : List Int) ([] : List api_Write)), v11.2))
 else
  Option.bind (delta_Ancestor_S x0.Lineage x1.Lineage) fun v18 =>
  if x2 ≤ v18.1 then
   some (((api_Cycle.mk 0 0 0 ([] : List Int) ([] : List api_Write)), 2))
  else
   Option.bind (reverse_last_S x1.Lineage) fun v186 =>
   if x2 < v186 then
    some (((api_Cycle.mk 0 0 0 ([] : List Int) ([] : List api_Write)), 2))
   else
    reverse_Cycle_J1_S x1 x2 x3 x4 v11 v18
theorem reverse_Cycle_sound (x0 : api_Point) (x1 : api_Point) (x2 : Int) (x3 : Int) (x4 : List Int) {Φ : api_Cycle × Int → Prop} {o} (h : reverse_Cycle_S x0 x1 x2 x3 x4 = some o) (hK : Φ o) : reverse_Cycle_W x0 x1 x2 x3 x4 Φ := by
 unfold reverse_Cycle_S at h
 unfold reverse_Cycle_W
 exact blS h fun _ hv h => delta_Between_sound _ _ hv (ifS h (fun h => have t := lfS h hK; t) fun h => blS h fun _ hv h => delta_Ancestor_sound _ _ hv (ifS h (fun h => have t := lfS h hK; t) fun h => blS h fun _ hv h => reverse_last_sound _ hv (ifS h (fun h => have t := lfS h hK; t) fun h => reverse_Cycle_J1_sound _ _ _ _ _ _ h hK)))
def ref02_SameExtents_L1_S (x0 : List api_Extent) (x1 : List api_Extent) : (Int) → Option ((Int) ⊕ (Bool))
 | (v6) =>
  if v6 < (x0.length : Int) then
   if inX v6 x0.length then
   if inX v6 x1.length then
   if (ix x0 v6) ≠ (ix x1 v6) then
    some (.inr false)
   else
    if inI (v6 + 1) then
    some (.inl (v6 + 1))
    else none
   else none
   else none
  else
   some (.inr true)
theorem ref02_SameExtents_L1_sound (x0 : List api_Extent) (x1 : List api_Extent) (s : Int) {Φ : Bool → Prop} {rec1 : (Int) → Prop} {o} (h : ref02_SameExtents_L1_S x0 x1 s = some o) (hK : (orK rec1 Φ) o) : ref02_SameExtents_L1 x0 x1 Φ s rec1 := by
 unfold ref02_SameExtents_L1_S at h
 unfold ref02_SameExtents_L1
 exact ifS h (fun h => adS h fun h => adS h fun h => ifS h (fun h => have t := lfS h hK; t) fun h => adS h fun h => have t := lfS h hK; t) fun h => have t := lfS h hK; t
def ref02_SameExtents_S (x0 : List api_Extent) (x1 : List api_Extent) : Option (Bool) :=
 if (x0.length : Int) ≠ (x1.length : Int) then
  some (false)
 else
  loopS (ref02_SameExtents_L1_S x0 x1) 100000 (0)
theorem ref02_SameExtents_sound (x0 : List api_Extent) (x1 : List api_Extent) {Φ : Bool → Prop} {o} (h : ref02_SameExtents_S x0 x1 = some o) (hK : Φ o) : ref02_SameExtents_W x0 x1 Φ := by
 unfold ref02_SameExtents_S at h
 unfold ref02_SameExtents_W
 exact ifS h (fun h => have t := lfS h hK; t) fun h => LoopW.of_S (fun s q rec hs hq => ref02_SameExtents_L1_sound _ _ s hs hq) _ _ h hK
def ref47_SameExtents_L1_S (x0 : List (List api_Extent)) (x1 : List (List api_Extent)) : (Int) → Option ((Int) ⊕ (Bool))
 | (v6) =>
  if v6 < (x0.length : Int) then
   if inX v6 x0.length then
   if inX v6 x1.length then
   Option.bind (ref02_SameExtents_S (ix x0 v6) (ix x1 v6)) fun v16 =>
   if ¬ (v16 = true) then
    some (.inr false)
   else
    if inI (v6 + 1) then
    some (.inl (v6 + 1))
    else none
   else none
   else none
  else
   some (.inr true)
theorem ref47_SameExtents_L1_sound (x0 : List (List api_Extent)) (x1 : List (List api_Extent)) (s : Int) {Φ : Bool → Prop} {rec1 : (Int) → Prop} {o} (h : ref47_SameExtents_L1_S x0 x1 s = some o) (hK : (orK rec1 Φ) o) : ref47_SameExtents_L1 x0 x1 Φ s rec1 := by
 unfold ref47_SameExtents_L1_S at h
 unfold ref47_SameExtents_L1
 exact ifS h (fun h => adS h fun h => adS h fun h => blS h fun v hv h => ⟨v, ref02_SameExtents_sound _ _ hv rfl, ifS h (fun h => have t := lfS h hK; t) fun h => adS h fun h => have t := lfS h hK; t⟩) fun h => have t := lfS h hK; t
def ref47_SameExtents_S (x0 : List (List api_Extent)) (x1 : List (List api_Extent)) : Option (Bool) :=
 if (x0.length : Int) ≠ (x1.length : Int) then
  some (false)
 else
  loopS (ref47_SameExtents_L1_S x0 x1) 100000 (0)
theorem ref47_SameExtents_sound (x0 : List (List api_Extent)) (x1 : List (List api_Extent)) {Φ : Bool → Prop} {o} (h : ref47_SameExtents_S x0 x1 = some o) (hK : Φ o) : ref47_SameExtents_W x0 x1 Φ := by
 unfold ref47_SameExtents_S at h
 unfold ref47_SameExtents_W
 exact ifS h (fun h => have t := lfS h hK; t) fun h => LoopW.of_S (fun s q rec hs hq => ref47_SameExtents_L1_sound _ _ s hs hq) _ _ h hK
def law47_awake_S : Option (Bool) :=
 Option.bind (law47_one_S 0 (8#8)) fun v10 =>
 Option.bind (law47_point_S 0 ([([(Sec.mk (1#8) (0#8) (0#8) (0#8) (0#8) (0#8) (0#8) (0#8)), (Sec.mk (2#8) (0#8) (0#8) (0#8) (0#8) (0#8) (0#8) (0#8)), (Sec.mk (3#8) (0#8) (0#8) (0#8) (0#8) (0#8) (0#8) (0#8))] : List Sec)] : List (List Sec)) ([(api_Span.mk 1 1 4)] : List api_Span) ([v10] : List api_Write)) fun v30 =>
 Option.bind (law47_one_S 2 (9#8)) fun v41 =>
 Option.bind (law47_point_S 1 ([([(Sec.mk (1#8) (0#8) (0#8) (0#8) (0#8) (0#8) (0#8) (0#8)), (Sec.mk (2#8) (0#8) (0#8) (0#8) (0#8) (0#8) (0#8) (0#8)), (Sec.mk (3#8) (0#8) (0#8) (0#8) (0#8) (0#8) (0#8) (0#8))] : List Sec)] : List (List Sec)) ([(api_Span.mk 1 1 4), (api_Span.mk 2 5 6)] : List api_Span) ([v41] : List api_Write)) fun v58 =>
 Option.bind (reverse_Undo_S v30 4) fun v70 =>
 Option.bind (reverse_Extents_S v30 v58) fun v79 =>
 Option.bind (reverse_Cycle_S v30 v58 6 7 ([] : List Int)) fun v85 =>
 if (v70.2 ≠ 0) ∨ ((v79.2 ≠ 0) ∨ ((v85.2 ≠ 0) ∨ ((v85.1.Base ≠ 4) ∨ ((v85.1.Writes.length : Int) ≠ 2)))) then
  some (false)
 else
  Option.bind (ref47_SameExtents_S v70.1 ([([(api_Extent.mk 0 1)] : List api_Extent)] : List (List api_Extent))) fun v116 =>
  if v116 = true then
   Option.bind (ref47_SameExtents_S v79.1 ([([(api_Extent.mk 0 1), (api_Extent.mk 2 1)] : List api_Extent)] : List (List api_Extent))) fun v133 =>
   if v133 = true then
    if inX 0 v85.1.Writes.length then
    if inX 0 ((ix v85.1.Writes 0).Data).length then
    if (ix ((ix v85.1.Writes 0).Data) 0) = (Sec.mk (1#8) (0#8) (0#8) (0#8) (0#8) (0#8) (0#8) (0#8)) then
     if inX 1 v85.1.Writes.length then
     if inX 0 ((ix v85.1.Writes 1).Data).length then
     some (decide ((ix ((ix v85.1.Writes 1).Data) 0) = (Sec.mk (9#8) (0#8) (0#8) (0#8) (0#8) (0#8) (0#8) (0#8))))
     else none
     else none
    else
     some (false)
    else none
    else none
   else
    some (false)
  else
   some (false)
theorem law47_awake_sound {Φ : Bool → Prop} {o} (h : law47_awake_S = some o) (hK : Φ o) : law47_awake_W Φ := by
 unfold law47_awake_S at h
 unfold law47_awake_W
 exact blS h fun _ hv h => law47_one_sound _ _ hv (blS h fun _ hv h => law47_point_sound _ _ _ _ hv (blS h fun _ hv h => law47_one_sound _ _ hv (blS h fun _ hv h => law47_point_sound _ _ _ _ hv (blS h fun _ hv h => reverse_Undo_sound _ _ hv (blS h fun _ hv h => reverse_Extents_sound _ _ hv (blS h fun _ hv h => reverse_Cycle_sound _ _ _ _ _ hv (ifS h (fun h => have t := lfS h hK; t) fun h => blS h fun _ hv h => ref47_SameExtents_sound _ _ hv (ifS h (fun h => blS h fun _ hv h => ref47_SameExtents_sound _ _ hv (ifS h (fun h => adS h fun h => adS h fun h => ifS h (fun h => adS h fun h => adS h fun h => have t := lfS h hK; t) fun h => have t := lfS h hK; t) fun h => have t := lfS h hK; t)) fun h => have t := lfS h hK; t))))))))
end Go.Proofs.YtahlanamngfkcaaDoor

namespace Go.Proofs.YtahlanamngfkcaaDoor
open Go.RowKit
def lastTo (l : List api_Span) : Int := if (l.length : Int) = 0 then 0 else (ix l ((l.length : Int) - 1)).To
theorem reverse_last_ok {l : List api_Span} {Φ : Int → Prop} (hl : l.length ≤ 1000000) (hΦ : Φ (lastTo l)) : reverse_last_W l Φ := by
  unfold lastTo at hΦ
  refine ⟨fun h => by rw [if_pos h] at hΦ; exact hΦ, fun h => ⟨iI (by omega) (by omega), iX (by omega) (by omega), by rw [if_neg h] at hΦ; exact hΦ⟩⟩
theorem marks_len (a b : api_Point) : (marks a b).length = a.Dirty.length ∧ ∀ x ∈ marks a b, x.length ≤ 1000000 := by
  refine ⟨by simp [marks], fun x hx => ?_⟩
  obtain ⟨y, _, rfl⟩ := List.mem_map.1 hx
  exact Nat.le_trans (exts_len _) (by decide)
theorem law47_awake_ok {Φ : Bool → Prop} (h : Φ true) : law47_awake_W Φ := law47_awake_sound (by kernel_rfl) h
end Go.Proofs.YtahlanamngfkcaaDoor
