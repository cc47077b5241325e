/- Part 6 of the proof of the statement TrackerExactCardSaid: lemmas. No condition of its own. -/
import Derived.Test.YtgojhiknicmopaaGreatDoorM5
namespace Go.Proofs.YtgojhiknicmopaaGreatDoor
open Go.RowKit
theorem mo : Tryz.prog.follows .mixedOrders = true := by kernel_rfl
theorem okU {cs : List (Ct DD)} {pl : List PE} {S : List (List Nat × Nat)} {K : List (Sk DD)} {c : Ct DD} (h : Eqn cs pl S K c) (hE : Env.Ok (⟨Tryz.prog, tab, cs, pl, [], gh, [], S, K⟩ : Env DD)) : c.Ok Tryz.prog tab gh := Ct.lift hE 9 c fun x Φ => by rw [h x Φ]; exact id
theorem ok146 : ct146.Ok Tryz.prog tab gh := okU eq146 ⟨tabOk, trivial, mo, trivial, ghUp, trivial, trivial⟩
theorem okT146 : ct146.Ok Tryz.prog tab ghT := Ct.lift (E := ⟨Tryz.prog, tab, [], pl146, [], ghT, [], [], []⟩) ⟨tabOk, trivial, mo, trivial, fun _ _ _ _ => trivial, trivial, trivial⟩ 9 ct146 fun x Φ => by
  have h : ct146.W x Φ = topF ⟨Tryz.prog, tab, [], pl146, [], ghT, [], [], []⟩ 9 ct146.f ct146.ps ct146.rs ct146.own x Φ := by kernel_rfl
  rw [h]; exact id
theorem ok85 : ct85.Ok Tryz.prog tab gh := okU eq85 ⟨tabOk, ⟨ok146, trivial⟩, mo, trivial, ghUp, trivial, trivial⟩
theorem okT85 : ct85.Ok Tryz.prog tab ghT := Ct.lift (E := ⟨Tryz.prog, tab, [ct146], pl85, [], ghT, [], [], []⟩) ⟨tabOk, ⟨okT146, trivial⟩, mo, trivial, fun _ _ _ _ => trivial, trivial, trivial⟩ 9 ct85 fun x Φ => by
  have h : ct85.W x Φ = topF ⟨Tryz.prog, tab, [ct146], pl85, [], ghT, [], [], []⟩ 9 ct85.f ct85.ps ct85.rs ct85.own x Φ := by kernel_rfl
  rw [h]; exact id
theorem ok87 : ct87.Ok Tryz.prog tab gh := okU eq87 ⟨tabOk, trivial, mo, trivial, ghUp, trivial, trivial⟩
theorem ok37 : ct37.Ok Tryz.prog tab gh := okU eq37 ⟨tabOk, ⟨ok85, ok87, trivial⟩, mo, trivial, ghUp, trivial, trivial⟩
theorem ok40 : ct40.Ok Tryz.prog tab gh := okU eq40 ⟨tabOk, trivial, mo, trivial, ghUp, trivial, trivial⟩
theorem ok38 : ct38.Ok Tryz.prog tab gh := okU eq38 ⟨tabOk, ⟨ok40, trivial⟩, mo, trivial, ghUp, trivial, trivial⟩
theorem ok144 : ct144.Ok Tryz.prog tab gh := okU eq144 ⟨tabOk, trivial, mo, trivial, ghUp, trivial, trivial⟩
theorem ok88 : ct88.Ok Tryz.prog tab gh := okU eq88 ⟨tabOk, ⟨ok144, trivial⟩, mo, trivial, ghUp, trivial, trivial⟩
theorem ok39 : ct39.Ok Tryz.prog tab gh := okU eq39 ⟨tabOk, ⟨ok88, trivial⟩, mo, trivial, ghUp, trivial, trivial⟩
theorem ok41 : ct41.Ok Tryz.prog tab gh := okU eq41 ⟨tabOk, trivial, mo, trivial, ghUp, trivial, trivial⟩
theorem ok13 : ct13.Ok Tryz.prog tab gh := okU eq13 ⟨tabOk, ⟨ok37, ok38, ok39, ok40, ok41, trivial⟩, mo, trivial, ghUp, trivial, ⟨q728, trivial⟩⟩
theorem ok83 : ct83.Ok Tryz.prog tab gh := okU eq83 ⟨tabOk, ⟨ok144, trivial⟩, mo, trivial, ghUp, trivial, trivial⟩
theorem ok93 : ct93.Ok Tryz.prog tab gh := okU eq93 ⟨tabOk, ⟨ok83, trivial⟩, mo, trivial, ghUp, trivial, trivial⟩
theorem ok47 : ct47.Ok Tryz.prog tab gh := okU eq47 ⟨tabOk, ⟨ok93, trivial⟩, mo, trivial, ghUp, trivial, trivial⟩
theorem ok16 : ct16.Ok Tryz.prog tab gh := okU eq16 ⟨tabOk, ⟨ok37, ok38, ok40, ok47, trivial⟩, mo, trivial, ghUp, trivial, trivial⟩
theorem ok179 : ct179.Ok Tryz.prog tab gh := okU eq179 ⟨tabOk, trivial, mo, trivial, ghUp, trivial, trivial⟩
theorem okT179 : ct179.Ok Tryz.prog tab ghT := Ct.lift (E := ⟨Tryz.prog, tab, [], pl179, [], ghT, [], [], []⟩) ⟨tabOk, trivial, mo, trivial, fun _ _ _ _ => trivial, trivial, trivial⟩ 9 ct179 fun x Φ => by
  have h : ct179.W x Φ = topF ⟨Tryz.prog, tab, [], pl179, [], ghT, [], [], []⟩ 9 ct179.f ct179.ps ct179.rs ct179.own x Φ := by kernel_rfl
  rw [h]; exact id
theorem ok150 : ct150.Ok Tryz.prog tab gh := okU eq150 ⟨tabOk, ⟨ok179, trivial⟩, mo, trivial, ghUp, trivial, trivial⟩
theorem okT150 : ct150.Ok Tryz.prog tab ghT := Ct.lift (E := ⟨Tryz.prog, tab, [ct179], pl150, [], ghT, [], [], []⟩) ⟨tabOk, ⟨okT179, trivial⟩, mo, trivial, fun _ _ _ _ => trivial, trivial, trivial⟩ 9 ct150 fun x Φ => by
  have h : ct150.W x Φ = topF ⟨Tryz.prog, tab, [ct179], pl150, [], ghT, [], [], []⟩ 9 ct150.f ct150.ps ct150.rs ct150.own x Φ := by kernel_rfl
  rw [h]; exact id
theorem ok95 : ct95.Ok Tryz.prog tab gh := okU eq95 ⟨tabOk, ⟨ok85, ok150, trivial⟩, mo, trivial, ghUp, trivial, trivial⟩
theorem okT95 : ct95.Ok Tryz.prog tab ghT := Ct.lift (E := ⟨Tryz.prog, tab, [ct85, ct150], pl95, [], ghT, [], [], []⟩) ⟨tabOk, ⟨okT85, okT150, trivial⟩, mo, trivial, fun _ _ _ _ => trivial, trivial, trivial⟩ 9 ct95 fun x Φ => by
  have h : ct95.W x Φ = topF ⟨Tryz.prog, tab, [ct85, ct150], pl95, [], ghT, [], [], []⟩ 9 ct95.f ct95.ps ct95.rs ct95.own x Φ := by kernel_rfl
  rw [h]; exact id
theorem ok96 : ct96.Ok Tryz.prog tab gh := okU eq96 ⟨tabOk, trivial, mo, trivial, ghUp, trivial, trivial⟩
theorem okT96 : ct96.Ok Tryz.prog tab ghT := Ct.lift (E := ⟨Tryz.prog, tab, [], pl96, [], ghT, [], [], []⟩) ⟨tabOk, trivial, mo, trivial, fun _ _ _ _ => trivial, trivial, trivial⟩ 9 ct96 fun x Φ => by
  have h : ct96.W x Φ = topF ⟨Tryz.prog, tab, [], pl96, [], ghT, [], [], []⟩ 9 ct96.f ct96.ps ct96.rs ct96.own x Φ := by kernel_rfl
  rw [h]; exact id
theorem ok49 : ct49.Ok Tryz.prog tab gh := okU eq49 ⟨tabOk, ⟨ok95, ok96, trivial⟩, mo, trivial, ghUp, trivial, trivial⟩
theorem ok180 : ct180.Ok Tryz.prog tab gh := okU eq180 ⟨tabOk, trivial, mo, trivial, ghUp, trivial, trivial⟩
theorem ok151 : ct151.Ok Tryz.prog tab gh := okU eq151 ⟨tabOk, ⟨ok180, trivial⟩, mo, trivial, ghUp, trivial, trivial⟩
theorem ok97 : ct97.Ok Tryz.prog tab gh := okU eq97 ⟨tabOk, ⟨ok151, trivial⟩, mo, trivial, ghUp, trivial, trivial⟩
theorem ok181 : ct181.Ok Tryz.prog tab gh := okU eq181 ⟨tabOk, trivial, mo, trivial, ghUp, trivial, trivial⟩
theorem ok165 : ct165.Ok Tryz.prog tab gh := okU eq165 ⟨tabOk, trivial, mo, trivial, ghUp, trivial, trivial⟩
theorem ok152 : ct152.Ok Tryz.prog tab gh := okU eq152 ⟨tabOk, trivial, mo, trivial, ghUp, trivial, trivial⟩
theorem ok98 : ct98.Ok Tryz.prog tab gh := okU eq98 ⟨tabOk, ⟨ok83, ok152, ok165, ok180, ok181, trivial⟩, mo, trivial, ghUp, trivial, trivial⟩
theorem ok18 : ct18.Ok Tryz.prog tab gh := okU eq18 ⟨tabOk, ⟨ok16, ok37, ok41, ok49, ok97, ok98, trivial⟩, mo, trivial, ghUp, trivial, ⟨q728, trivial⟩⟩
theorem ok23 : ct23.Ok Tryz.prog tab gh := okU eq23 ⟨tabOk, ⟨ok16, ok97, trivial⟩, mo, trivial, ghUp, trivial, trivial⟩
theorem ok101 : ct101.Ok Tryz.prog tab gh := okU eq101 ⟨tabOk, trivial, mo, trivial, ghUp, trivial, trivial⟩
theorem ok155 : ct155.Ok Tryz.prog tab gh := okU eq155 ⟨tabOk, ⟨ok101, trivial⟩, mo, trivial, ghUp, trivial, trivial⟩
theorem ok102 : ct102.Ok Tryz.prog tab gh := okU eq102 ⟨tabOk, ⟨ok101, ok155, trivial⟩, mo, trivial, ghUp, trivial, trivial⟩
theorem ok103 : ct103.Ok Tryz.prog tab gh := okU eq103 ⟨tabOk, ⟨ok37, ok49, trivial⟩, mo, trivial, ghUp, trivial, trivial⟩
theorem ok57 : ct57.Ok Tryz.prog tab gh := okU eq57 ⟨tabOk, ⟨ok37, ok101, ok102, ok103, trivial⟩, mo, trivial, ghUp, trivial, trivial⟩
theorem ok21 : ct21.Ok Tryz.prog tab gh := okU eq21 ⟨tabOk, ⟨ok16, ok39, ok40, ok41, ok57, ok97, ok98, trivial⟩, mo, trivial, ghUp, trivial, ⟨q728, trivial⟩⟩
theorem pk155 (v : Value) (cs : List Value) : PkR Tryz.prog 155 v cs = (cs = [v]) := by kernel_rfl
theorem Ret.toP {P : Program} {f : FuncId} {args : Array Value} {H : Hp} {Φ : Hp → Value → Prop} (h : Ret P f args H Φ) : RetP P f args H (fun H' v L => Φ H' v ∧ L = []) := fun w hw =>
  (h w hw).mono fun _ _ ⟨v, H', h1, h2, h3, h4, h5, h6⟩ => ⟨v, H', [], h1, ⟨h5, h2, h4, h3, by simp, List.Pairwise.nil, by simp⟩, h6, rfl⟩
theorem tz_ret (H : Hp) (x : BitVec 64) (hx : x ≠ 0#64) (hT : TabH H 0) : RetV Tryz.prog 166 #[u64 x] H (.int .i64 (Lib.ctz 64 x.toNat : Int)) := by
  obtain ⟨cs, T, fr, hb, hc⟩ := hT; obtain ⟨hi, htab, hk⟩ := tz_idx hx; refine Ret.of_code Tryz.func166 rfl (Nat.le_of_ble_eq_true rfl) fun w0 hM => ?_; refine CW.seq (CW.region (RW.step (Ex.assign (.int .i64 0) rfl) rfl rfl rfl (RW.nil ?_))); refine CW.seq (CW.seq (CW.region (RW.step (Ex.move (u64 x) rfl) rfl rfl rfl (RW.step (Ex.eql64 (a := x) (b := 0#64) rfl rfl) rfl rfl rfl (RW.nil ?_))))); refine CW.cond_dec rfl (fun h => absurd h hx) fun _ => CW.skip ?_; refine CW.seq (CW.region ?_); refine RW.step (Ex.move (u64 x) rfl) rfl rfl rfl ?_; refine RW.step (Ex.move (u64 x) rfl) rfl rfl rfl ?_; refine RW.step (Ex.neg64 (a := x) rfl) rfl rfl rfl ?_; refine RW.step (Ex.and64 (a := x) (b := -x) rfl rfl) rfl rfl rfl ?_; refine RW.step (Ex.mul64 (a := x &&& -x) (b := 285870213051353865#64) rfl rfl) rfl rfl rfl ?_; refine RW.step (Ex.shr64 (a := (x &&& -x) * 285870213051353865#64) (n := 58) rfl rfl (by omega)) rfl rfl rfl ?_; refine RW.step (Ex.indexArr (arrT_of (n := 64) (e := 5) (sz := 1) (by kernel_rfl)) rfl rfl (((x &&& -x) * 285870213051353865#64) >>> (58 : Int).toNat).toNat rfl hi) rfl rfl rfl ?_; refine RW.step (Ex.loadH hM (Hp.le.refl _) hb to5 rfl (by rw [Nat.zero_add, Nat.mul_one, hc _ hi, htab])) rfl rfl rfl ?_; refine RW.step (Ex.conv Tryz.underlying5 Tryz.underlying3 rfl (q87 (by omega) (by omega))) rfl rfl rfl ?_; refine RW.step (Ex.assign (.int .i64 (Lib.ctz 64 x.toNat : Int)) rfl) rfl rfl rfl (RW.nil ?_); refine CW.ret ?_
  refine q510 (.inl rfl) rfl (.int .i64 (Lib.ctz 64 x.toNat : Int)) rfl ?_; exact ⟨_, _, hM, rfl⟩
set_option maxRecDepth 100000 in
theorem ok166 : ct166.Ok Tryz.prog tab gh := by
  intro x Φ hW H vs hG hA; obtain ⟨v0, k0, q0, rfl, p0, r0, hq⟩ := hA; obtain rfl : q0 = [] := hq; rw [pk155] at p0; subst p0; have e0 : [v0] = [u64 x.1] := r0; cases e0; have hW : x.1 ≠ 0#64 ∧ Φ ((Lib.ctz 64 (x.1 : BitVec 64).toNat : Int), ()) := hW; refine RetP.mono (Ret.toP (tz_ret H x.1 hW.1 hG)) fun H' v L _ ⟨hv, hL⟩ => ⟨_, hW.2, fun nx ρ0 hn0 s b m hre => ?_⟩
  rw [show resE Tryz.prog tab ct166.rs ct166.own ((Lib.ctz 64 (x.1 : BitVec 64).toNat : Int), ()) nx = some (.i .i64 (Lib.ctz 64 (x.1 : BitVec 64).toNat : Int), [], nx) by kernel_rfl] at hre; cases hre; exact ⟨ρ0, RM.le.refl _, Nat.le_refl _, hn0, fun _ _ => rfl, hv, hL⟩
theorem itok164 : it164.Ok Tryz.prog gh := It.lift (E := ⟨Tryz.prog, tab, [ct83, ct165, ct166], pl164, [], gh, [], [], []⟩) ⟨tabOk, ⟨ok83, ok165, ok166, trivial⟩, mo, trivial, ghUp, trivial, trivial⟩ it164 fun x l => by rw [eqi164]; exact id
theorem ok73 : ct73.Ok Tryz.prog tab gh := Ct.lift (E := ⟨Tryz.prog, tab, [], pl73, [it164], gh, [], [], []⟩) ⟨tabOk, trivial, mo, ⟨itok164, trivial⟩, ghUp, trivial, trivial⟩ 9 ct73 fun x Φ => by rw [eq73]; exact id
theorem ok84 : ct84.Ok Tryz.prog tab gh := okU eq84 ⟨tabOk, trivial, mo, trivial, ghUp, trivial, trivial⟩
theorem ok36 : ct36.Ok Tryz.prog tab gh := okU eq36 ⟨tabOk, ⟨ok73, ok84, trivial⟩, mo, trivial, ghUp, trivial, trivial⟩
theorem ok124 : ct124.Ok Tryz.prog tab gh := okU eq124 ⟨tabOk, trivial, mo, trivial, ghUp, trivial, trivial⟩
theorem ok71 : ct71.Ok Tryz.prog tab gh := okU eq71 ⟨tabOk, ⟨ok124, trivial⟩, mo, trivial, ghUp, trivial, trivial⟩
theorem ok70 : ct70.Ok Tryz.prog tab gh := okU eq70 ⟨tabOk, ⟨ok124, trivial⟩, mo, trivial, ghUp, trivial, trivial⟩
theorem ok72 : ct72.Ok Tryz.prog tab gh := okU eq72 ⟨tabOk, ⟨ok124, trivial⟩, mo, trivial, ghUp, trivial, trivial⟩
theorem ok31 : ct31.Ok Tryz.prog tab gh := okU eq31 ⟨tabOk, ⟨ok16, ok70, ok71, ok72, ok73, trivial⟩, mo, trivial, ghUp, trivial, trivial⟩
theorem ok12 : ct12.Ok Tryz.prog tab gh := okU eq12 ⟨tabOk, ⟨ok13, ok18, ok21, ok23, ok31, ok36, trivial⟩, mo, trivial, ghUp, trivial, trivial⟩
theorem ok34 : ct34.Ok Tryz.prog tab gh := okU eq34 ⟨tabOk, trivial, mo, trivial, ghUp, trivial, trivial⟩
theorem ok78 : ct78.Ok Tryz.prog tab gh := okU eq78 ⟨tabOk, ⟨ok37, ok41, ok101, trivial⟩, mo, trivial, ghUp, trivial, trivial⟩
theorem ok79 : ct79.Ok Tryz.prog tab gh := okU eq79 ⟨tabOk, ⟨ok34, trivial⟩, mo, trivial, ghUp, trivial, trivial⟩
theorem ok168 : ct168.Ok Tryz.prog tab gh := okU eq168 ⟨tabOk, trivial, mo, trivial, ghUp, trivial, trivial⟩
theorem okT168 : ct168.Ok Tryz.prog tab ghT := Ct.lift (E := ⟨Tryz.prog, tab, [], pl168, [], ghT, [], [], []⟩) ⟨tabOk, trivial, mo, trivial, fun _ _ _ _ => trivial, trivial, trivial⟩ 9 ct168 fun x Φ => by
  have h : ct168.W x Φ = topF ⟨Tryz.prog, tab, [], pl168, [], ghT, [], [], []⟩ 9 ct168.f ct168.ps ct168.rs ct168.own x Φ := by kernel_rfl
  rw [h]; exact id
theorem pk73 (v : Value) (cs : List Value) : PkR Tryz.prog 73 v cs = (cs = [v]) := by kernel_rfl
theorem q304 {H : Hp} (x0 : List (List Sec)) {A1 : Option Addr} {n1 c1 : Nat} {s1 : List Value} (hF1 : Fz (α := List Sec) H A1 n1 c1 x0 s1) {Φ : Int → Prop} (hm : q94 x0 Φ) : RetP Tryz.prog 95 #[.slice A1 n1 c1] H (fun _ v L => ∃ y, Φ y ∧ v = .int .i64 (y) ∧ L = []) := by
  refine RetP.mono (okT95 (x0, ()) (fun y => Φ y.1) hm H [.slice A1 n1 c1] trivial ⟨_, [.slice A1 n1 c1], _, rfl, by rw [pk73], (show Dt.rd (α := List (List Sec)) H _ _ from ⟨A1, n1, c1, s1, rfl, hF1⟩), rfl⟩) fun H' v L _ ⟨y, hy, hr⟩ => ?_; obtain ⟨ρ, _, _, _, _, h1, h2⟩ := hr 0 (fun _ => none) (fun _ _ => rfl) _ _ _ (show resE Tryz.prog tab _ _ y 0 = some (.i .i64 y.1, [], 0) by kernel_rfl); exact ⟨y.1, hy, h1, h2⟩
theorem pk37 (v : Value) (cs : List Value) : PkR Tryz.prog 37 v cs = (cs = [v]) := by kernel_rfl
theorem q65 {H : Hp} (x0 : List Sec) {A1 : Option Addr} {n1 c1 : Nat} {s1 : List Value} (hF1 : Fz (α := Sec) H A1 n1 c1 x0 s1) {Φ : List Sec → Prop} (hm : Z73 x0 Φ) : RetP Tryz.prog 168 #[.slice A1 n1 c1] H (fun H' v L => ∃ y, Φ y ∧ ∃ A12, ∃ n12, ∃ c12, ∃ s12, v = .slice A12 n12 c12 ∧ DtL (α := Sec) H' s12 y ∧ n12 = y.length ∧ L = [.row (.slice A12 n12 c12) 82 8 n12 s12]) := by
  refine RetP.mono (okT168 (x0, ()) (fun y => Φ y.1) hm H [.slice A1 n1 c1] trivial ⟨_, [.slice A1 n1 c1], _, rfl, by rw [pk37], (show Dt.rd (α := List Sec) H _ _ from ⟨A1, n1, c1, s1, rfl, hF1⟩), rfl⟩) fun H' v L _ ⟨y, hy, hr⟩ => ?_; obtain ⟨ρ, _, _, _, _, h1, h2⟩ := hr 0 (fun _ => none) (fun _ _ => rfl) _ _ _ (show resE Tryz.prog tab _ _ y 0 = some (.own 0, [(0, .row 82 y.1)], 1) by kernel_rfl); obtain ⟨A, n, c, e1, rfl⟩ := h1; obtain ⟨S, L', rfl, ⟨A', n', c', s, e2, rfl, e3, e4⟩, e5⟩ := h2; obtain rfl : L' = [] := e5; rw [e1] at e2; cases e2; exact ⟨y.1, hy, A, n, c, s, rfl, e3, e4, rfl⟩
theorem q259 {H : Hp} (x0 : List (List Sec)) {A1 : Option Addr} {n1 c1 : Nat} {s1 : List Value} (hF1 : Fz (α := List Sec) H A1 n1 c1 x0 s1) {Φ : List (List Sec) → Prop} (hm : Z75 x0 Φ) : RetP Tryz.prog 167 #[.slice A1 n1 c1, .func (.func 168) #[] #[]] H (fun H' v L => ∃ y, Φ y ∧ ∃ A45, ∃ n45, ∃ c45, ∃ s45, ∃ rs46, v = .slice A45 n45 c45 ∧ DeepL (α := List Sec) [82] H' s45 y rs46 ∧ n45 = y.length ∧ L = .row (.slice A45 n45 c45) 37 1 n45 s45 :: rs46) := by
 refine RetP.of_code Tryz.func167 rfl (nb rfl) fun w0 hM => ?_
 refine CW.sr <| RW.st (Ex.assign (.slice none 0 0) rfl) rfl <| RW.nil <| CW.sr <| RW.st (Ex.move (.slice A1 n1 c1) rfl) rfl <| RW.st (Ex.lenN st72.1 rfl hF1.hn) rfl ?_
 obtain ⟨hg8, hm⟩ := hm
 obtain ⟨hg9, hm⟩ := hm
 refine RW.makeE (α := List Sec) hM st72 tz37 rfl rfl hg8 hg9 rfl rfl ?_; intro b2 n3 c4 s5 w hd6 hn7 hM
 refine RW.st (Ex.assign (.slice (some ⟨b2, 0, none⟩) n3 c4) rfl) rfl <| RW.nil <| CW.seq <| CW.sr <| RW.st (Ex.move (.slice A1 n1 c1) rfl) rfl <| RW.st (Ex.lenN st72.1 rfl hF1.hn) rfl <| RW.st (Ex.move (.int .i64 0) rfl) rfl <| RW.nil <| CW.block ?_
 obtain ⟨m44, hm⟩ := hm
 skip
 refine CW.loop (β := Nat) (fun n σ w => ∃ (v12 : List (List Sec)), ∃ (A13 : Option Addr), ∃ (n14 : Nat), ∃ (c15 : Nat), ∃ (s16 : List Value), ∃ (rs17 : List Ent), ∃ (v20 : Int), ∃ Hk10, H.le Hk10 ∧ (∃ τ, σ = sl [(1, .func (.func 168) #[] #[]), (5, .slice A13 n14 c15), (11, .slice A1 n1 c1), (12, .int .i64 ((x0.length : Int))), (13, .int .i64 v20)] τ) ∧ Mem w0 H w Hk10 (.row (.slice A13 n14 c15) 37 1 n14 s16 :: rs17) ∧ (DeepL (α := List Sec) [82] Hk10 s16 v12 rs17) ∧ (n14 = v12.length) ∧ LoopN (Z74 x0 Φ) n (v12, v20)) (fun n => n) m44 ⟨([] : List (List Sec)), (some ⟨b2, 0, none⟩), n3, c4, s5, [], 0, H, (Hp.le.refl _), q55 ⟨rfl, rfl, rfl, rfl, rfl, trivial⟩, hM, (DeepL.ofNil (Ts := [82]) hd6), hn7, hm⟩ ?_
 rintro k21 _ w ⟨v12, A13, n14, c15, s16, rs17, v20, Hk10, hle11, ⟨τ, rfl⟩, hM, hd18, hn19, hm⟩
 obtain _ | k21 := k21
 · exact hm.elim
 replace hm : (Z74 x0 Φ) (v12, v20) (LoopN (Z74 x0 Φ) k21) := hm
 generalize hrec22 : LoopN (Z74 x0 Φ) k21 = rec1 at hm
 refine CW.sr <| RW.st (Ex.lss rfl rfl) rfl <| RW.nil <| CW.seq ?_
 refine CW.cond_dec (p := v20 < (x0.length : Int)) rfl (fun hc23 => ?_) (fun hc23 => ?_)
 ·
  replace hm := And.left hm hc23
  refine CW.skip <| CW.seq <| CW.block <| CW.sr ?_
  obtain ⟨hg24, hm⟩ := hm; refine RW.st (Ex.index st72 rfl rfl v20.toNat (hF1.ne hg24) hg24.nat (hF1.lt hg24)) rfl ?_; obtain ⟨_, ⟨A25, n25, c25, s25, rfl, hF25⟩, hx26⟩ := DtL.getI (α := List Sec) (hF1.mono hle11).dat hg24; refine RW.st (Ex.loadE hM hle11 hF1.rdc to37 rfl (hx26 0 _ rfl)) rfl <| RW.st (Ex.assign (.slice A25 n25 c25) rfl) rfl <| RW.nil <| CW.region <| RW.st (Ex.move (.slice A13 n14 c15) rfl) rfl <| RW.st (Ex.move (.func (.func 168) #[] #[]) rfl) rfl <| RW.st (Ex.move (.slice A25 n25 c25) rfl) rfl ?_
  refine RW.callP hM (q65 (ix x0 v20) hF25 hm) en168 rfl rfl rfl rfl ?_; rintro _ w H28 _ hle29 ⟨v27, hm, A30, n30, c30, s30, rfl, hd31, hn32, rfl⟩ hM; refine RW.buildSlice hM st72 tz37 [(0, .slice A30 n30 c30)] [.slice A30 n30 c30] (by decide) rfl rfl rfl (by decide) rfl rfl ?_; intro b33 w hM; obtain ⟨hg39, hm⟩ := hm; refine RW.appendH (α := List Sec) (xs := v12) (x0 := v27) hM 2 st72 rfl rfl hn19 rfl (fun j u hj => hM.rowCell (k := 0) rfl rfl hj) rfl (q101 ⟨rfl, trivial⟩) hg39 rfl rfl ?_; intro A35 n36 c37 w hn38 hM; obtain ⟨s40, rs41, hd42, hM⟩ := Mem.adopt (α := List Sec) (Ts := [82]) (x := v27) [.row (.slice (some ⟨b33, 0, none⟩) 1 1) 37 1 1 [.slice A30 n30 c30], .row (.slice A35 n36 c37) 37 1 n36 (s16 ++ [.slice A30 n30 c30])] (Mem.pickT (L1 := [.row (.slice (some ⟨b33, 0, none⟩) 1 1) 37 1 1 [.slice A30 n30 c30], .row (.slice A30 n30 c30) 82 8 n30 s30, .row (.slice A35 n36 c37) 37 1 n36 (s16 ++ [.slice A30 n30 c30])]) (T := rs17) hM [1, 0, 2] rfl rfl) 1 rfl (hd18.mono hle29) ⟨A30, n30, c30, s30, rfl, rfl, hd31, hn32⟩
  replace hM : Mem w0 H w H28 (.row (.slice A35 n36 c37) 37 1 n36 s40 :: rs41) := Mem.pickT (L1 := [.row (.slice (some ⟨b33, 0, none⟩) 1 1) 37 1 1 [.slice A30 n30 c30], .row (.slice A35 n36 c37) 37 1 n36 s40]) (T := rs41) hM [1] rfl rfl
  refine RW.st (Ex.assign (.slice A35 n36 c37) rfl) rfl <| RW.nil <| CW.region ?_
  obtain ⟨hg43, hm⟩ := hm; refine RW.st (Ex.add rfl rfl hg43.1 hg43.2) rfl <| RW.st (Ex.move (.int .i64 (v20 + 1)) rfl) rfl <| RW.nil ?_
  exact And.intro rfl ⟨k21, ⟨(v12 ++ [v27]), A35, n36, c37, s40, rs41, v20 + 1, H28, hle11.trans hle29, q55 ⟨rfl, rfl, rfl, rfl, rfl, trivial⟩, hM, hd42, hn38, (by rw [hrec22]; exact hm)⟩, Nat.lt_succ_self _⟩
 ·
  replace hm := And.right hm hc23
  refine CW.exit ?_; refine CW.sr <| RW.st (Ex.move (.slice A13 n14 c15) rfl) rfl <| RW.st (Ex.assign (.slice A13 n14 c15) rfl) rfl <| RW.nil <| CW.ret ?_
  refine q510 (.inl rfl) rfl (.slice A13 n14 c15) rfl ?_; exact ⟨_, _, hM, v12, hm, A13, n14, c15, s16, rs17, rfl, hd18, hn19, rfl⟩
theorem q260 {H : Hp} (x0 : List (List Sec)) {A1 : Option Addr} {n1 c1 : Nat} {s1 : List Value} (hF1 : Fz (α := List Sec) H A1 n1 c1 x0 s1) {Φ : List (List Sec) → Prop} (hm : Z76 x0 Φ) : RetP Tryz.prog 130 #[.slice A1 n1 c1] H (fun H' v L => ∃ y, Φ y ∧ ∃ A9, ∃ n9, ∃ c9, ∃ s9, ∃ rs10, v = .slice A9 n9 c9 ∧ DeepL (α := List Sec) [82] H' s9 y rs10 ∧ n9 = y.length ∧ L = .row (.slice A9 n9 c9) 37 1 n9 s9 :: rs10) := by
 refine RetP.of_code Tryz.func130 rfl (nb rfl) fun w0 hM => ?_
 refine CW.sr <| RW.st (Ex.assign (.slice none 0 0) rfl) rfl <| RW.nil <| CW.sr <| RW.st (Ex.move (.slice A1 n1 c1) rfl) rfl ?_
 refine RW.callP hM (q259 x0 hF1 hm) en167 rfl rfl rfl rfl ?_; rintro _ w H3 _ hle4 ⟨v2, hm, A5, n5, c5, s5, rs6, rfl, hd7, hn8, rfl⟩ hM
 replace hM := Mem.toTail (a := [.row (.slice A5 n5 c5) 37 1 n5 s5]) (b := rs6) (c := []) hM
 refine RW.st (Ex.assign (.slice A5 n5 c5) rfl) rfl <| RW.nil <| CW.ret ?_
 refine q510 (.inl rfl) rfl (.slice A5 n5 c5) rfl ?_
 exact ⟨_, _, hM, v2, hm, A5, n5, c5, s5, rs6, rfl, hd7, hn8, rfl⟩
theorem pk39 (v : Value) (cs : List Value) : PkR Tryz.prog 39 v cs = (v = .agg cs.toArray) := by kernel_rfl
theorem q350 {H : Hp} (x0 : List (List Sec)) (x1 : q8) {A1 : Option Addr} {n1 c1 : Nat} {s1 : List Value} (hF1 : Fz (α := List Sec) H A1 n1 c1 x0 s1) {A2 : Option Addr} {n2 c2 : Nat} {s2 : List Value} (hF2 : Fz (α := Sec) H A2 n2 c2 x1.Data s2) {Φ : Int → Prop} (hm : q111 x0 x1 Φ) : RetP Tryz.prog 96 #[.slice A1 n1 c1, .agg #[.int .i64 (x1.Volume), .int .i64 (x1.Start), .slice A2 n2 c2]] H (fun _ v L => ∃ y, Φ y ∧ v = .int .i64 (y) ∧ L = []) := by
  refine RetP.mono (okT96 (x0, x1, ()) (fun y => Φ y.1) hm H [.slice A1 n1 c1, .agg #[.int .i64 (x1.Volume), .int .i64 (x1.Start), .slice A2 n2 c2]] trivial ⟨_, [.slice A1 n1 c1], _, rfl, by rw [pk73], (show Dt.rd (α := List (List Sec)) H _ _ from ⟨A1, n1, c1, s1, rfl, hF1⟩), ⟨_, [.int .i64 (x1.Volume), .int .i64 (x1.Start), .slice A2 n2 c2], _, rfl, by rw [pk39], (show Dt.rd (α := q8) H _ _ from ⟨A2, n2, c2, s2, rfl, hF2⟩), rfl⟩⟩) fun H' v L _ ⟨y, hy, hr⟩ => ?_; obtain ⟨ρ, _, _, _, _, h1, h2⟩ := hr 0 (fun _ => none) (fun _ _ => rfl) _ _ _ (show resE Tryz.prog tab _ _ y 0 = some (.i .i64 y.1, [], 0) by kernel_rfl); exact ⟨y.1, hy, h1, h2⟩
theorem q305 {H : Hp} (x0 : List (List Sec)) (x1 : List q8) {A1 : Option Addr} {n1 c1 : Nat} {s1 : List Value} (hF1 : Fz (α := List Sec) H A1 n1 c1 x0 s1) {A2 : Option Addr} {n2 c2 : Nat} {s2 : List Value} (hF2 : Fz (α := q8) H A2 n2 c2 x1 s2) {Φ : List (List Sec) × Int × Int → Prop} (hm : q96 x0 x1 Φ) : RetP Tryz.prog 80 #[.slice A1 n1 c1, .slice A2 n2 c2] H (fun H' v L => ∃ y, Φ y ∧ ∃ A89, ∃ n89, ∃ c89, ∃ s89, ∃ rs90, v = .tuple #[.slice A89 n89 c89, .int .i64 (y.2.1), .int .i64 (y.2.2)] ∧ DeepL (α := List Sec) [82] H' s89 y.1 rs90 ∧ n89 = y.1.length ∧ L = .row (.slice A89 n89 c89) 37 1 n89 s89 :: rs90) := by
 refine RetP.of_code Tryz.func80 rfl (nb rfl) fun w0 hM => ?_
 refine CW.sr <| RW.st (Ex.assign (.slice none 0 0) rfl) rfl <| RW.st (Ex.assign (.int .i64 0) rfl) rfl <| RW.st (Ex.assign (.int .i64 0) rfl) rfl <| RW.nil <| CW.seq <| CW.sr <| RW.st (Ex.move (.slice A1 n1 c1) rfl) rfl ?_
 refine RW.callP hM (q304 x0 hF1 hm) en95 rfl rfl rfl rfl ?_; rintro _ w H4 _ hle5 ⟨v3, hm, rfl, rfl⟩ hM
 refine RW.st (Ex.assign (.int .i64 v3) rfl) rfl <| RW.nil <| CW.sr <| RW.st (Ex.move (.int .i64 v3) rfl) rfl <| RW.st (Ex.neq rfl rfl) rfl <| RW.nil ?_
 refine CW.cond_dec (p := v3 ≠ 0) rfl (fun hc6 => ?_) (fun hc6 => ?_)
 ·
  replace hm := And.left hm hc6
  refine CW.sr <| RW.st (Ex.move (.int .i64 v3) rfl) rfl <| RW.st (Ex.assign (.slice none 0 0) rfl) rfl <| RW.st (Ex.assign (.int .i64 0) rfl) rfl <| RW.st (Ex.assign (.int .i64 v3) rfl) rfl <| RW.nil <| CW.ret ?_
  refine q180 ?_; refine q414 (.inl rfl) rfl (.slice none 0 0) (.int .i64 0) (.int .i64 v3) rfl rfl rfl ?_
  replace hM := hM.nilRow 37 1
  exact ⟨_, _, hM, (([] : List (List Sec)), 0, v3), hm, none, 0, 0, [], [], rfl, (DeepL.nil : DeepL (α := List Sec) [82] H4 [] [] []), rfl, rfl⟩
 ·
  replace hm := And.right hm hc6
  refine CW.skip <| CW.sr <| RW.st (Ex.move (.slice A1 n1 c1) rfl) rfl ?_
  refine RW.callP hM (q260 x0 (hF1.mono hle5) hm) en130 rfl rfl rfl rfl ?_; rintro _ w H8 _ hle9 ⟨v7, hm, A10, n10, c10, s10, rs11, rfl, hd12, hn13, rfl⟩ hM
  replace hM := Mem.toTail (a := [.row (.slice A10 n10 c10) 37 1 n10 s10]) (b := rs11) (c := []) hM
  refine RW.st (Ex.assign (.slice A10 n10 c10) rfl) rfl <| RW.nil <| CW.seq <| CW.sr <| RW.st (Ex.move (.slice A2 n2 c2) rfl) rfl <| RW.st (Ex.lenN st47.1 rfl hF2.hn) rfl <| RW.st (Ex.move (.int .i64 0) rfl) rfl <| RW.nil <| CW.block ?_
  obtain ⟨m88, hm⟩ := hm
  skip
  refine CW.loop (β := Nat) (fun n σ w => ∃ (v16 : List (List Sec)), ∃ (A17 : Option Addr), ∃ (n18 : Nat), ∃ (c19 : Nat), ∃ (s20 : List Value), ∃ (rs21 : List Ent), ∃ (v24 : Int), ∃ Hk14, H8.le Hk14 ∧ (∃ τ, σ = sl [(8, .slice A17 n18 c19), (19, .slice A2 n2 c2), (20, .int .i64 ((x1.length : Int))), (21, .int .i64 v24)] τ) ∧ Mem w0 H w Hk14 (.row (.slice A17 n18 c19) 37 1 n18 s20 :: rs21) ∧ (DeepL (α := List Sec) [82] Hk14 s20 v16 rs21) ∧ (n18 = v16.length) ∧ LoopN (Z77 x1 Φ) n (v16, v24)) (fun n => n) m88 ⟨v7, A10, n10, c10, s10, rs11, 0, H8, (Hp.le.refl _), q55 ⟨rfl, rfl, rfl, rfl, trivial⟩, hM, hd12, hn13, hm⟩ ?_
  rintro k25 _ w ⟨v16, A17, n18, c19, s20, rs21, v24, Hk14, hle15, ⟨τ, rfl⟩, hM, hd22, hn23, hm⟩
  obtain _ | k25 := k25
  · exact hm.elim
  replace hm : (Z77 x1 Φ) (v16, v24) (LoopN (Z77 x1 Φ) k25) := hm
  generalize hrec26 : LoopN (Z77 x1 Φ) k25 = rec1 at hm; refine CW.sr <| RW.st (Ex.lss rfl rfl) rfl <| RW.nil <| CW.seq ?_
  refine CW.cond_dec (p := v24 < (x1.length : Int)) rfl (fun hc27 => ?_) (fun hc27 => ?_)
  ·
   replace hm := And.left hm hc27
   refine CW.skip <| CW.seq <| CW.block <| CW.sr <| RW.st (Ex.move (.int .i64 v24) rfl) rfl ?_
   obtain ⟨hg28, hm⟩ := hm; refine RW.st (Ex.index st47 rfl rfl v24.toNat (hF2.ne hg28) hg28.nat (hF2.lt hg28)) rfl ?_; obtain ⟨_, ⟨A29, n29, c29, s29, rfl, hF29⟩, hx30⟩ := DtL.getI (α := q8) (hF2.mono ((hle5.trans hle9).trans hle15)).dat hg28; refine RW.st (Ex.loadEA hM ((hle5.trans hle9).trans hle15) hF2.rdc [.int .i64 ((ix x1 v24).Volume), .int .i64 ((ix x1 v24).Start), .slice A29 n29 c29] ta39 rfl (hF2.ne hg28) rfl (q90 (off := 0) (n := 3) hx30 rfl)) rfl ?_; refine RW.alloc hM tz39 [.int .i64 0, .int .i64 0, .slice none 0 0] rfl rfl rfl ?_; intro b31 w hM; refine RW.st (Ex.assign (.int .i64 v24) rfl) rfl ?_; refine RW.store hM 0 (.agg #[.int .i64 ((ix x1 v24).Volume), .int .i64 ((ix x1 v24).Start), .slice A29 n29 c29]) [.int .i64 ((ix x1 v24).Volume), .int .i64 ((ix x1 v24).Start), .slice A29 n29 c29] [.int .i64 ((ix x1 v24).Volume), .int .i64 ((ix x1 v24).Start), .slice A29 n29 c29] sz39 rfl rfl rfl (q101 ⟨rfl, rfl, rfl, trivial⟩) rfl (nb rfl) rfl (.box b31 39 [.int .i64 ((ix x1 v24).Volume), .int .i64 ((ix x1 v24).Start), .slice A29 n29 c29] :: .row (.slice A17 n18 c19) 37 1 n18 s20 :: rs21) rfl rfl rfl ?_; intro w hM; refine RW.nil <| CW.seq <| CW.sr <| RW.st (Ex.move (.slice A17 n18 c19) rfl) rfl <| RW.st (Ex.loadA hM 0 [.int .i64 ((ix x1 v24).Volume), .int .i64 ((ix x1 v24).Start), .slice A29 n29 c29] ta39 rfl rfl rfl rfl) rfl ?_
   have hM1 := hM; obtain ⟨H32, hM, hle33, hd34⟩ := DeepL.flat (es := [.box b31 39 [.int .i64 ((ix x1 v24).Volume), .int .i64 ((ix x1 v24).Start), .slice A29 n29 c29], .row (.slice A17 n18 c19) 37 1 n18 s20]) hM hd22; obtain ⟨H35, hM, hle36, hF37⟩ := hM.giveF (α := List Sec) 1 rfl hd34 hn23; refine RW.callB hM1 hM (q350 v16 (ix x1 v24) hF37 (hF29.mono (hle33.trans hle36)) hm) en96 rfl rfl rfl rfl ?_; clear hM hM1; intro v38 w hm hM; refine RW.st (Ex.assign (.int .i64 v38) rfl) rfl <| RW.nil <| CW.sr <| RW.st (Ex.move (.int .i64 v38) rfl) rfl <| RW.st (Ex.neq rfl rfl) rfl <| RW.nil ?_
   refine CW.cond_dec (p := v38 ≠ 0) rfl (fun hc41 => ?_) (fun hc41 => ?_)
   ·
    replace hm := And.left hm hc41
    refine CW.sr <| RW.st (Ex.move (.int .i64 v24) rfl) rfl <| RW.st (Ex.move (.int .i64 v38) rfl) rfl <| RW.st (Ex.assign (.slice none 0 0) rfl) rfl <| RW.st (Ex.assign (.int .i64 v24) rfl) rfl <| RW.st (Ex.assign (.int .i64 v38) rfl) rfl <| RW.nil <| CW.ret ?_
    refine q180 (q378 (q180 (q180 (q378 (q180 ?_))))); refine q414 (.inl rfl) rfl (.slice none 0 0) (.int .i64 v24) (.int .i64 v38) rfl rfl rfl ?_
    replace hM := hM.nilRow 37 1
    exact ⟨_, _, ((Mem.dropT (L1 := [.row (.slice none 0 0) 37 1 0 [], .box b31 39 [.int .i64 ((ix x1 v24).Volume), .int .i64 ((ix x1 v24).Start), .slice A29 n29 c29], .row (.slice A17 n18 c19) 37 1 n18 s20]) (T := rs21) hM).pick [0] rfl rfl), (([] : List (List Sec)), v24, v38), hm, none, 0, 0, [], [], rfl, (DeepL.nil : DeepL (α := List Sec) [82] Hk14 [] [] []), rfl, rfl⟩
   ·
    replace hm := And.right hm hc41
    refine CW.skip ?_; obtain ⟨hg42, hm⟩ := hm; obtain ⟨c44, _, c45, _, rs46, rfl, ⟨A43, n43, c43, s43, rfl, rfl, hF43, hn48⟩, hh47, hM⟩ := Mem.focus [.box b31 39 [.int .i64 ((ix x1 v24).Volume), .int .i64 ((ix x1 v24).Start), .slice A29 n29 c29], .row (.slice A17 n18 c19) 37 1 n18 s20] hM hd22 hg42; have hx49 := Hole.get (ch := [.slice A43 n43 c43]) hh47; obtain ⟨hg55, hm⟩ := hm
    refine CW.drawL 10 [] [(fun Hq us E => us = [.slice A17 n18 c19] ∧ E = [] ∧ True), (fun Hq us E => us = [.pointer (some ⟨b31, 0, none⟩)] ∧ E = [] ∧ True), (fun Hq us E => us = [.int .i64 ((ix x1 v24).Volume)] ∧ E = [] ∧ True), (fun Hq us E => us = [elp A17 ((((ix x1 v24).Volume).toNat) * 1 + 0)] ∧ E = [] ∧ True), (fun Hq us E => us = [.slice A43 n43 c43] ∧ E = [] ∧ True), (fun Hq us E => us = [.pointer (some ⟨b31, 1, none⟩)] ∧ E = [] ∧ True), (fun Hq us E => us = [.int .i64 ((ix x1 v24).Start)] ∧ E = [] ∧ True), (fun Hq us E => ∃ (A56 : Option Addr), ∃ (n57 : Nat), ∃ (c58 : Nat), us = [.slice A56 n57 c58] ∧ E = [] ∧ View A43 n43 c43 8 ((ix x1 v24).Start) A56 n57 c58 ∧ True), (fun Hq us E => us = [.pointer (some ⟨b31, 2, none⟩)] ∧ E = [] ∧ True), (fun Hq us E => us = [.slice A29 n29 c29] ∧ E = [] ∧ True)]
     (fun k => [[0], [1], [2], [3], [4], [5], [6], [7], [8], [9]].getD k []) (fun _ => none) (by kernel_rfl) hM (by kernel_rfl) (by kernel_rfl) (by kernel_rfl) rfl (by simp only [List.forall_mem_cons]; exact ⟨fun _ _ _ _ hle ⟨e1, e2, _⟩ => ⟨e1, e2, trivial⟩, fun _ _ _ _ hle ⟨e1, e2, _⟩ => ⟨e1, e2, trivial⟩, fun _ _ _ _ hle ⟨e1, e2, _⟩ => ⟨e1, e2, trivial⟩, fun _ _ _ _ hle ⟨e1, e2, _⟩ => ⟨e1, e2, trivial⟩, fun _ _ _ _ hle ⟨e1, e2, _⟩ => ⟨e1, e2, trivial⟩, fun _ _ _ _ hle ⟨e1, e2, _⟩ => ⟨e1, e2, trivial⟩, fun _ _ _ _ hle ⟨e1, e2, _⟩ => ⟨e1, e2, trivial⟩, fun _ _ _ _ hle ⟨A56, n57, c58, e1, e2, hV59, _⟩ => ⟨A56, n57, c58, e1, e2, hV59, trivial⟩, fun _ _ _ _ hle ⟨e1, e2, _⟩ => ⟨e1, e2, trivial⟩, fun _ _ _ _ hle ⟨e1, e2, _⟩ => ⟨e1, e2, trivial⟩, by simp⟩) ⟨?_, ?_, ?_, ?_, ?_, ?_, ?_, ?_, ?_, ?_, trivial⟩ ?_
    ·
     intro H' σ' w R E hle hMR hE0 hE hp hf; obtain rfl := hE0 rfl; obtain ⟨τ, rfl⟩ := q55 (σ := σ') (l := [(8, .slice A17 n18 c19)]) ⟨(hf 8 (by kernel_rfl)).trans rfl, trivial⟩; have hM := Mem.subR (R := R) hMR; exact RW.step (Ex.move (.slice A17 n18 c19) rfl) rfl rfl rfl (RW.nil ⟨rfl, rfl, _, rfl, H', [], Hp.le.refl _, hMR, rfl, rfl, trivial⟩)
    ·
     intro H' σ' w R E hle hMR hE0 hE hp hf; obtain rfl := hE0 rfl; obtain ⟨τ, rfl⟩ := q55 (σ := σ') (l := [(10, .pointer (some ⟨b31, 0, none⟩))]) ⟨(hf 10 (by kernel_rfl)).trans rfl, trivial⟩; have hM := Mem.subR (R := R) hMR; exact RW.step (Ex.fieldAddr fa39_0 rfl) rfl rfl rfl (RW.nil ⟨rfl, rfl, _, rfl, H', [], Hp.le.refl _, hMR, rfl, rfl, trivial⟩)
    ·
     intro H' σ' w R E hle hMR hE0 hE hp hf; obtain rfl := hE0 rfl; obtain ⟨_, hg⟩ := hp 1 (by decide) (by kernel_rfl); obtain ⟨e60, _, _⟩ := hg.get rfl; have e61 : σ' 34 = .pointer (some ⟨b31, 0, none⟩) := (List.cons.inj e60).1; obtain ⟨τ, rfl⟩ := q55 (σ := σ') (l := [(34, .pointer (some ⟨b31, 0, none⟩))]) ⟨e61, trivial⟩; have hM := Mem.subR (R := R) hMR; exact RW.step (Ex.load1 hM 1 to3 rfl rfl rfl) rfl rfl rfl (RW.nil ⟨rfl, rfl, _, rfl, H', [], Hp.le.refl _, hMR, rfl, rfl, trivial⟩)
    ·
     intro H' σ' w R E hle hMR hE0 hE hp hf; obtain rfl := hE0 rfl; obtain ⟨_, hg⟩ := hp 0 (by decide) (by kernel_rfl); obtain ⟨e62, _, _⟩ := hg.get rfl; have e63 : σ' 33 = .slice A17 n18 c19 := (List.cons.inj e62).1; obtain ⟨_, hg⟩ := hp 2 (by decide) (by kernel_rfl); obtain ⟨e64, _, _⟩ := hg.get rfl; have e65 : σ' 35 = .int .i64 ((ix x1 v24).Volume) := (List.cons.inj e64).1; obtain ⟨τ, rfl⟩ := q55 (σ := σ') (l := [(33, .slice A17 n18 c19), (35, .int .i64 ((ix x1 v24).Volume))]) ⟨e63, e65, trivial⟩; have hM := Mem.subR (R := R) hMR; exact RW.step (Ex.index st73 rfl rfl (((ix x1 v24).Volume).toNat) (hM.rowNeD (α := List Sec) (p := 2) rfl hn23 hg42) hg42.nat (Nat.lt_of_lt_of_eq hg42.lt (hn23).symm)) rfl rfl rfl (RW.nil ⟨rfl, rfl, _, rfl, H', [], Hp.le.refl _, hMR, rfl, rfl, trivial⟩)
    ·
     intro H' σ' w R E hle hMR hE0 hE hp hf; obtain rfl := hE0 rfl; obtain ⟨_, hg⟩ := hp 3 (by decide) (by kernel_rfl); obtain ⟨e66, _, _⟩ := hg.get rfl; have e67 : σ' 36 = elp A17 ((((ix x1 v24).Volume).toNat) * 1 + 0) := (List.cons.inj e66).1; obtain ⟨τ, rfl⟩ := q55 (σ := σ') (l := [(36, elp A17 ((((ix x1 v24).Volume).toNat) * 1 + 0))]) ⟨e67, trivial⟩; have hM := Mem.subR (R := R) hMR; exact RW.step (Ex.loadR hM 2 rfl to37 (hM.rowNeD (α := List Sec) (p := 2) rfl hn23 hg42) rfl (hx49 0 _ rfl)) rfl rfl rfl (RW.nil ⟨rfl, rfl, _, rfl, H', [], Hp.le.refl _, hMR, rfl, rfl, trivial⟩)
    ·
     intro H' σ' w R E hle hMR hE0 hE hp hf; obtain rfl := hE0 rfl; obtain ⟨τ, rfl⟩ := q55 (σ := σ') (l := [(10, .pointer (some ⟨b31, 0, none⟩))]) ⟨(hf 10 (by kernel_rfl)).trans rfl, trivial⟩; have hM := Mem.subR (R := R) hMR; exact RW.step (Ex.fieldAddr fa39_1 rfl) rfl rfl rfl (RW.nil ⟨rfl, rfl, _, rfl, H', [], Hp.le.refl _, hMR, rfl, rfl, trivial⟩)
    ·
     intro H' σ' w R E hle hMR hE0 hE hp hf; obtain rfl := hE0 rfl; obtain ⟨_, hg⟩ := hp 5 (by decide) (by kernel_rfl); obtain ⟨e68, _, _⟩ := hg.get rfl; have e69 : σ' 38 = .pointer (some ⟨b31, 1, none⟩) := (List.cons.inj e68).1; obtain ⟨τ, rfl⟩ := q55 (σ := σ') (l := [(38, .pointer (some ⟨b31, 1, none⟩))]) ⟨e69, trivial⟩; have hM := Mem.subR (R := R) hMR; exact RW.step (Ex.load1 hM 1 to3 rfl rfl rfl) rfl rfl rfl (RW.nil ⟨rfl, rfl, _, rfl, H', [], Hp.le.refl _, hMR, rfl, rfl, trivial⟩)
    ·
     intro H' σ' w R E hle hMR hE0 hE hp hf; obtain rfl := hE0 rfl; obtain ⟨_, hg⟩ := hp 4 (by decide) (by kernel_rfl); obtain ⟨e70, _, _⟩ := hg.get rfl; have e71 : σ' 37 = .slice A43 n43 c43 := (List.cons.inj e70).1; obtain ⟨_, hg⟩ := hp 6 (by decide) (by kernel_rfl); obtain ⟨e72, _, _⟩ := hg.get rfl; have e73 : σ' 39 = .int .i64 ((ix x1 v24).Start) := (List.cons.inj e72).1; obtain ⟨τ, rfl⟩ := q55 (σ := σ') (l := [(37, .slice A43 n43 c43), (39, .int .i64 ((ix x1 v24).Start))]) ⟨e71, e73, trivial⟩; have hM := Mem.subR (R := R) hMR; refine RW.sliceLo st37 rfl rfl hn48 hg55 rfl rfl ?_; intro A56 n57 c58 hV59; exact RW.nil ⟨rfl, rfl, _, rfl, H', [], Hp.le.refl _, hMR, A56, n57, c58, rfl, rfl, hV59, trivial⟩
    ·
     intro H' σ' w R E hle hMR hE0 hE hp hf; obtain rfl := hE0 rfl; obtain ⟨τ, rfl⟩ := q55 (σ := σ') (l := [(10, .pointer (some ⟨b31, 0, none⟩))]) ⟨(hf 10 (by kernel_rfl)).trans rfl, trivial⟩; have hM := Mem.subR (R := R) hMR; exact RW.step (Ex.fieldAddr fa39_2 rfl) rfl rfl rfl (RW.nil ⟨rfl, rfl, _, rfl, H', [], Hp.le.refl _, hMR, rfl, rfl, trivial⟩)
    ·
     intro H' σ' w R E hle hMR hE0 hE hp hf; obtain rfl := hE0 rfl; obtain ⟨_, hg⟩ := hp 8 (by decide) (by kernel_rfl); obtain ⟨e74, _, _⟩ := hg.get rfl; have e75 : σ' 41 = .pointer (some ⟨b31, 2, none⟩) := (List.cons.inj e74).1; obtain ⟨τ, rfl⟩ := q55 (σ := σ') (l := [(41, .pointer (some ⟨b31, 2, none⟩))]) ⟨e75, trivial⟩; have hM := Mem.subR (R := R) hMR; exact RW.step (Ex.load1 hM 1 to37 rfl rfl rfl) rfl rfl rfl (RW.nil ⟨rfl, rfl, _, rfl, H', [], Hp.le.refl _, hMR, rfl, rfl, trivial⟩)
    ·
     intro HR8 σ' w X miss hms hleR hM hX hX0 hf; simp [subs] at hms; rcases hms with rfl
     ·
      obtain ⟨H76, hH8⟩ : ∃ x, x = HR8 := ⟨_, rfl⟩
      subst hH8; have hle77 := hleR; obtain ⟨_, g0, y0⟩ := hX 0 (by decide) (by kernel_rfl); obtain ⟨_, rfl, _⟩ := g0.get rfl
      replace y0 : X 0 = [] := y0
      obtain ⟨_, g0, y1⟩ := hX 1 (by decide) (by kernel_rfl); obtain ⟨_, rfl, _⟩ := g0.get rfl
      replace y1 : X 1 = [] := y1
      obtain ⟨_, g0, y2⟩ := hX 2 (by decide) (by kernel_rfl); obtain ⟨_, rfl, _⟩ := g0.get rfl
      replace y2 : X 2 = [] := y2
      obtain ⟨_, g0, y3⟩ := hX 3 (by decide) (by kernel_rfl); obtain ⟨_, rfl, _⟩ := g0.get rfl
      replace y3 : X 3 = [] := y3
      obtain ⟨_, g0, y4⟩ := hX 4 (by decide) (by kernel_rfl); obtain ⟨_, rfl, _⟩ := g0.get rfl
      replace y4 : X 4 = [] := y4
      obtain ⟨_, g0, y5⟩ := hX 5 (by decide) (by kernel_rfl); obtain ⟨_, rfl, _⟩ := g0.get rfl
      replace y5 : X 5 = [] := y5
      obtain ⟨_, g0, y6⟩ := hX 6 (by decide) (by kernel_rfl); obtain ⟨_, rfl, _⟩ := g0.get rfl
      replace y6 : X 6 = [] := y6
      obtain ⟨_, g0, y7⟩ := hX 7 (by decide) (by kernel_rfl); obtain ⟨A56, n57, c58, e78, rfl, hV59, _⟩ := g0.get rfl; have e79 : σ' 40 = .slice A56 n57 c58 := (List.cons.inj e78).1
      replace y7 : X 7 = [] := y7
      obtain ⟨_, g0, y8⟩ := hX 8 (by decide) (by kernel_rfl); obtain ⟨_, rfl, _⟩ := g0.get rfl
      replace y8 : X 8 = [] := y8
      obtain ⟨_, g0, y9⟩ := hX 9 (by decide) (by kernel_rfl); obtain ⟨e80, rfl, _⟩ := g0.get rfl; have e81 : σ' 42 = .slice A29 n29 c29 := (List.cons.inj e80).1
      replace y9 : X 9 = [] := y9
      have hfl : flatX X 10 = [] := by
       show X 0 ++ (X 1 ++ (X 2 ++ (X 3 ++ (X 4 ++ (X 5 ++ (X 6 ++ (X 7 ++ (X 8 ++ (X 9 ++ []))))))))) = _; rw [y0, y1, y2, y3, y4, y5, y6, y7, y8, y9]; rfl
      rw [hfl] at hM; obtain ⟨τ, rfl⟩ := q55 (σ := σ') (l := [(8, .slice A17 n18 c19), (19, .slice A2 n2 c2), (20, .int .i64 ((x1.length : Int))), (21, .int .i64 v24), (40, .slice A56 n57 c58), (42, .slice A29 n29 c29)]) ⟨(hf 8 (by kernel_rfl)).trans rfl, (hf 19 (by kernel_rfl)).trans rfl, (hf 20 (by kernel_rfl)).trans rfl, (hf 21 (by kernel_rfl)).trans rfl, e79, e81, trivial⟩; change RA _ _ _ _ _ _ _ (sl [(8, .slice A17 n18 c19), (19, .slice A2 n2 c2), (20, .int .i64 ((x1.length : Int))), (21, .int .i64 v24), (40, .slice A56 n57 c58), (42, .slice A29 n29 c29)] τ) _ 11 _; refine RA.step [10] (by kernel_rfl) rfl ⟨⟨_, rfl, ?_⟩, trivial⟩; refine RW.copyV (α := Sec) (xs := (ix v16 ((ix x1 v24).Volume))) (ys := (ix x1 v24).Data) hM 0 st37 rfl hV59 rfl (hF43.mono hle77) hn48 hg55 rfl hle77 hF29 rfl rfl ?_; intro s82 w hd83 hM; refine RW.nil ?_; refine And.intro rfl ?_; refine RA.done (by kernel_rfl) ?_; refine CW.region ?_; obtain ⟨hg84, hm⟩ := hm; refine RW.st (Ex.add rfl rfl hg84.1 hg84.2) rfl <| RW.st (Ex.move (.int .i64 (v24 + 1)) rfl) rfl <| RW.nil ?_
      obtain ⟨s85, rs86, hd87, hM⟩ := Mem.unfocus (α := List Sec) (Ts := [82]) (x := (paste (ix v16 ((ix x1 v24).Volume)) ((ix x1 v24).Start) ((ix x1 v24).Data))) [.box b31 39 [.int .i64 ((ix x1 v24).Volume), .int .i64 ((ix x1 v24).Start), .slice A29 n29 c29], .row (.slice A17 n18 c19) 37 1 n18 (c44 ++ ([.slice A43 n43 c43] ++ c45))] hM 1 rfl (hh47.mono hle77) ⟨A43, n43, c43, s82, rfl, rfl, hd83, (hn48).trans (q240 hg55).symm⟩; exact And.intro rfl ⟨k25, ⟨(put v16 ((ix x1 v24).Volume) (paste (ix v16 ((ix x1 v24).Volume)) ((ix x1 v24).Start) ((ix x1 v24).Data))), A17, n18, c19, s85, rs86, v24 + 1, H76, hle15.trans hle77, q55 ⟨rfl, rfl, rfl, rfl, trivial⟩, (Mem.pickT (L1 := [.box b31 39 [.int .i64 ((ix x1 v24).Volume), .int .i64 ((ix x1 v24).Start), .slice A29 n29 c29], .row (.slice A17 n18 c19) 37 1 n18 s85]) (T := rs86) hM [1] rfl rfl), hd87, (hn23).trans (q61 _ _ _).symm, (by rw [hrec26]; exact hm)⟩, Nat.lt_succ_self _⟩
  ·
   replace hm := And.right hm hc27
   refine CW.exit ?_; refine CW.sr <| RW.st (Ex.move (.slice A17 n18 c19) rfl) rfl <| RW.st (Ex.assign (.slice A17 n18 c19) rfl) rfl <| RW.st (Ex.assign (.int .i64 0) rfl) rfl <| RW.st (Ex.assign (.int .i64 0) rfl) rfl <| RW.nil <| CW.ret ?_
   refine q414 (.inl rfl) rfl (.slice A17 n18 c19) (.int .i64 0) (.int .i64 0) rfl rfl rfl ?_; exact ⟨_, _, hM, (v16, 0, 0), hm, A17, n18, c19, s20, rs21, rfl, hd22, hn23, rfl⟩
theorem pk47 (v : Value) (cs : List Value) : PkR Tryz.prog 47 v cs = (cs = [v]) := by kernel_rfl
set_option maxRecDepth 100000 in
theorem ok80 : ct80.Ok Tryz.prog tab gh := by
  intro x Φ hW H vs _ hA; obtain ⟨v0, k0, q0, rfl, p0, r0, v1, k1, q1, rfl, p1, r1, hq⟩ := hA; obtain rfl : q1 = [] := hq; rw [pk73] at p0; subst p0; obtain ⟨A0, n0, c0, s0, e0, hF0⟩ := (show Dt.rd (α := List (List Sec)) H _ _ from r0)
  obtain rfl := (List.cons.inj e0).1; rw [pk47] at p1; subst p1; obtain ⟨A1, n1, c1, s1, e1, hF1⟩ := (show Dt.rd (α := List q8) H _ _ from r1)
  obtain rfl := (List.cons.inj e1).1; have hW : q96 x.1 x.2.1 (fun y => Φ (y.1, y.2.1, y.2.2, ())) := hW; intro w hw; refine (q305 x.1 x.2.1 hF0 hF1 hW w hw).mono fun e w' ⟨v, H', L', h1, hM, y, hy, A, n, c, s, rs, hv, hd, hn, hL⟩ => ?_; subst hL; obtain ⟨H2, g1, g2, g3⟩ := DeepL.flat (es := [_]) hM hd; refine ⟨v, H2, _, h1, g1, _, hy, fun nx ρ0 hn0 s' b m hre => ?_⟩; rw [show resE Tryz.prog tab ct80.rs ct80.own (y.1, y.2.1, y.2.2, ()) nx = some (.tup [.own nx, .i .i64 y.2.1, .i .i64 y.2.2], [(nx, .row 37 y.1)], nx + 1) by kernel_rfl] at hre; cases hre; obtain ⟨f1, f2⟩ := q148 hn0 (.r A n c); exact ⟨ρ0.put nx (.r A n c), f1, Nat.le_succ _, f2, fun id hid => RM.put_ne _ _ (Nat.ne_of_lt hid), ⟨_, hv, _, _, rfl, ⟨A, n, c, RM.put_same _ _ _, rfl⟩, _, _, rfl, rfl, _, _, rfl, rfl, rfl⟩, _, _, rfl, ⟨A, n, c, s, RM.put_same _ _ _, rfl, g3, hn⟩, rfl⟩
theorem ok137 : ct137.Ok Tryz.prog tab gh := okU eq137 ⟨tabOk, ⟨ok168, trivial⟩, mo, trivial, ghUp, trivial, trivial⟩
theorem ok136 : ct136.Ok Tryz.prog tab gh := okU eq136 ⟨tabOk, ⟨ok41, ok137, trivial⟩, mo, trivial, ghUp, trivial, trivial⟩
theorem ok81 : ct81.Ok Tryz.prog tab gh := Ct.liftD (E := ⟨Tryz.prog, tab, [ct37, ct49, ct101, ct102, ct136, ct137], pl81, [], gh, [], [], []⟩) ⟨tabOk, ⟨ok37, ok49, ok101, ok102, ok136, ok137, trivial⟩, mo, trivial, ghUp, trivial, trivial⟩ 9 ct81 fun x Φ => by rw [eq81]; exact id
theorem ok169 : ct169.Ok Tryz.prog tab gh := okU eq169 ⟨tabOk, trivial, mo, trivial, ghUp, trivial, trivial⟩
theorem q733 : it170.Ok Tryz.prog gh := It.lift (E := ⟨Tryz.prog, tab, [], pl170, [], gh, [], [], []⟩) ⟨tabOk, trivial, mo, trivial, ghUp, trivial, trivial⟩ it170 fun x l => by rw [eqi170]; exact id
theorem ok171 : ct171.Ok Tryz.prog tab gh := okU eq171 ⟨tabOk, trivial, mo, trivial, ghUp, trivial, trivial⟩
theorem ok184 : ct184.Ok Tryz.prog tab gh := okU eq184 ⟨tabOk, trivial, mo, trivial, ghUp, trivial, trivial⟩
theorem ok206 : ct206.Ok Tryz.prog tab gh := okU eq206 ⟨tabOk, trivial, mo, trivial, ghUp, trivial, trivial⟩
theorem ok200 : ct200.Ok Tryz.prog tab gh := okU eq200 ⟨tabOk, ⟨ok206, trivial⟩, mo, trivial, ghUp, trivial, trivial⟩
theorem ok199 : ct199.Ok Tryz.prog tab gh := okU eq199 ⟨tabOk, trivial, mo, trivial, ghUp, trivial, trivial⟩
theorem ok186 : ct186.Ok Tryz.prog tab gh := okU eq186 ⟨tabOk, ⟨ok199, ok200, trivial⟩, mo, trivial, ghUp, trivial, trivial⟩
def Tryz.layP_ren : Go.Shelf.Ren := ⟨fun | 6 => 185 | 15 => 177 | 14 => 198 | 28 => 196 | 29 => 197 | 20 => 207 | 21 => 208 | 22 => 209 | 23 => 210 | 24 => 211 | 25 => 212 | 26 => 213 | 27 => 214 | 46 => 216 | 47 => 202 | 48 => 203 | 49 => 217 | 50 => 218 | 57 => 219 | n => n, fun | 22 => 271 | 24 => 269 | 25 => 273 | 3 => 3 | 39 => 246 | 0 => 0 | 53 => 285 | 55 => 155 | 4 => 4 | 46 => 277 | 45 => 276 | 50 => 282 | 5 => 5 | 9 => 9 | 66 => 289 | 70 => 293 | 76 => 300 | 77 => 118 | n => n, fun | n => n⟩
theorem Tryz.layP : Go.Proofs.SlLaysF0.n6 Tryz.prog Tryz.layP_ren := {
  mixed := by kernel_rfl
  f6 := ⟨Tryz.f185.name, by decide, Tryz.func185.trans (congrArg some (by kernel_rfl))⟩
  f14 := ⟨Tryz.f198.name, by decide, Tryz.func198.trans (congrArg some (by kernel_rfl))⟩
  f15 := Tryz.func177.trans (congrArg some (by kernel_rfl))
  f20 := ⟨Tryz.f207.name, by decide, Tryz.func207.trans (congrArg some (by kernel_rfl))⟩
  f21 := ⟨Tryz.f208.name, by decide, Tryz.func208.trans (congrArg some (by kernel_rfl))⟩
  f22 := ⟨Tryz.f209.name, by decide, Tryz.func209.trans (congrArg some (by kernel_rfl))⟩
  f23 := ⟨Tryz.f210.name, by decide, Tryz.func210.trans (congrArg some (by kernel_rfl))⟩
  f24 := ⟨Tryz.f211.name, by decide, Tryz.func211.trans (congrArg some (by kernel_rfl))⟩
  f25 := ⟨Tryz.f212.name, by decide, Tryz.func212.trans (congrArg some (by kernel_rfl))⟩
  f26 := ⟨Tryz.f213.name, by decide, Tryz.func213.trans (congrArg some (by kernel_rfl))⟩
  f27 := ⟨Tryz.f214.name, by decide, Tryz.func214.trans (congrArg some (by kernel_rfl))⟩
  f28 := Tryz.func196.trans (congrArg some (by kernel_rfl))
  f29 := Tryz.func197.trans (congrArg some (by kernel_rfl))
  f46 := ⟨Tryz.f216.name, by decide, Tryz.func216.trans (congrArg some (by kernel_rfl))⟩
  f47 := Tryz.func202.trans (congrArg some (by kernel_rfl))
  f48 := Tryz.func203.trans (congrArg some (by kernel_rfl))
  f49 := ⟨Tryz.f217.name, by decide, Tryz.func217.trans (congrArg some (by kernel_rfl))⟩
  f50 := ⟨Tryz.f218.name, by decide, Tryz.func218.trans (congrArg some (by kernel_rfl))⟩
  f57 := ⟨Tryz.f219.name, by decide, Tryz.func219.trans (congrArg some (by kernel_rfl))⟩
  t0 := Tryz.underlying0
  a0 := Tryz.isAgg0
  z0 := Tryz.sizeOf0
  v0 := Tryz.zeroValue0
  t3 := Tryz.underlying3
  a3 := Tryz.isAgg3
  z3 := Tryz.sizeOf3
  v3 := Tryz.zeroValue3
  t4 := Tryz.underlying4
  a4 := Tryz.isAgg4
  z4 := Tryz.sizeOf4
  v4 := Tryz.zeroValue4
  t5 := Tryz.underlying5
  a5 := Tryz.isAgg5
  z5 := Tryz.sizeOf5
  v5 := Tryz.zeroValue5
  t9 := Tryz.underlying9
  a9 := Tryz.isAgg9
  z9 := Tryz.sizeOf9
  v9 := Tryz.zeroValue9
  t22 := Tryz.underlying271
  a22 := Tryz.isAgg271
  z22 := Tryz.sizeOf271
  v22 := Tryz.zeroValue271
  t25 := Tryz.underlying273
  a25 := Tryz.isAgg273
  z25 := Tryz.sizeOf273
  v25 := Tryz.zeroValue273
  t39 := Tryz.underlying246
  a39 := Tryz.isAgg246
  z39 := Tryz.sizeOf246
  v39 := Tryz.zeroValue246
  t45 := Tryz.underlying276
  a45 := Tryz.isAgg276
  z45 := Tryz.sizeOf276
  v45 := Tryz.zeroValue276
  t46 := Tryz.underlying277
  a46 := Tryz.isAgg277
  z46 := Tryz.sizeOf277
  v46 := Tryz.zeroValue277
  t50 := Tryz.underlying282
  a50 := Tryz.isAgg282
  z50 := Tryz.sizeOf282
  v50 := Tryz.zeroValue282
  t53 := Tryz.underlying285
  a53 := Tryz.isAgg285
  z53 := Tryz.sizeOf285
  v53 := Tryz.zeroValue285
  t55 := Tryz.underlying155
  a55 := Tryz.isAgg155
  z55 := Tryz.sizeOf155
  v55 := Tryz.zeroValue155
  t66 := Tryz.underlying289
  a66 := Tryz.isAgg289
  z66 := Tryz.sizeOf289
  v66 := Tryz.zeroValue289
  t70 := Tryz.underlying293
  a70 := Tryz.isAgg293
  z70 := Tryz.sizeOf293
  v70 := Tryz.zeroValue293
  t76 := Tryz.underlying300
  a76 := Tryz.isAgg300
  z76 := Tryz.sizeOf300
  v76 := Tryz.zeroValue300
  t77 := Tryz.underlying118
  a77 := Tryz.isAgg118
  z77 := Tryz.sizeOf118
  v77 := Tryz.zeroValue118 }
theorem pk269 (v : Value) (cs : List Value) : PkR Tryz.prog 269 v cs = (v = .agg cs.toArray) := by kernel_rfl
def encP (x : q9) : List Value := [.int .i64 x.volume, .int .i64 x.sector]
theorem q539 {H : Hp} (hG : gh H) (x y : q9) (W : World) (hag : ∀ b o, H b = some o → W.heap[b]? = some o) : Calls Tryz.prog 186 #[.agg (encP x).toArray, .agg (encP y).toArray] W fun e w' => e = .returned (.int .i64 (cmpP x y)) ∧ ∃ q os, w' = Sort.grow (W.drewN q) os := by
  refine (ok186 (x, y, ()) (fun v => v.1 = cmpP x y) (q731 x y) H [.agg (encP x).toArray, .agg (encP y).toArray] hG ⟨_, encP x, _, rfl, by rw [pk269], rfl, _, encP y, _, rfl, by rw [pk269], rfl, rfl⟩ W hag).mono fun e w' ⟨v, H', L', h1, hM, y', hy, hr⟩ => ?_; obtain ⟨ρ, _, _, _, _, h2, _⟩ := hr 0 (fun _ => none) (fun _ _ => rfl) _ _ _ (show resE Tryz.prog tab ct186.rs ct186.own y' 0 = some (.i .i64 y'.1, [], 0) by kernel_rfl); have h2 : v = .int .i64 y'.1 := h2; exact ⟨by rw [h1, h2, hy], hM.below.grow⟩
set_option maxRecDepth 100000 in
theorem tnh185 {xs : List q9} {Φ : List q9 → Prop} (hlen : xs.length ≤ 1099511627776) (hW : Φ (sortG pleB xs)) {H : Hp} {w : World} {base : Nat} {v : Value} {n : Nat} {s : List Value} (hG : gh H) (hag : ∀ b o, H b = some o → w.heap[b]? = some o) (hap : ∀ b, v.ownBlock = some b → H b = none) (ho : w.ownsRow base 269 2 v n s) (hn : n = xs.length) (hd : DtL (α := q9) H s xs) : Calls Tryz.prog 185 (v :: fnVs [186]).toArray w fun e w' => e = .returned (.tuple #[]) ∧ ∃ (ys : List q9) (s' : List Value), Φ ys ∧ DtL (α := q9) H s' ys ∧ ys.length = xs.length ∧ w.grownBy w' v.ownBlock ∧ w.drawn ≤ w'.drawn ∧ w'.ownsRow base 269 2 v n s' := by
  have hs := hd.enc (enc := encP) fun _ _ _ h => h; have hk : ∀ x : q9, (encP x).length = 2 := fun _ => rfl
  have none : ∀ p cap, v = .slice p 0 cap → n = 0 → Calls Tryz.prog 185 (v :: fnVs [186]).toArray w fun e w' => e = .returned (.tuple #[]) ∧ ∃ (ys : List q9) (s' : List Value), Φ ys ∧ DtL (α := q9) H s' ys ∧ ys.length = xs.length ∧ w.grownBy w' v.ownBlock ∧ w.drawn ≤ w'.drawn ∧ w'.ownsRow base 269 2 v n s' := by
    intro p cap hv h0; have hx : xs = [] := List.eq_nil_of_length_eq_zero (hn.symm.trans h0); have hc := AnyF.slices_SortFunc_none (P := Tryz.prog) (ρ := Tryz.layP_ren) { Tryz.layP with } p cap (.func (.func 186) #[] #[]) w; change Calls Tryz.prog 185 _ _ _ at hc; rw [hv]; refine hc.mono fun e w' ⟨h2, h3⟩ => ⟨h2, xs, s, ?_, hd, rfl, ?_, ?_, ?_⟩
    · rw [hx] at hW ⊢; exact hW
    · rw [h3]; exact ⟨rfl, rfl, rfl, Nat.le_refl _, fun _ _ _ => rfl⟩
    · rw [h3]; exact Nat.le_refl _
    · rw [h3, ← hv]; exact ho
  obtain ⟨_, ⟨hv, h0⟩ | ⟨b, cap, cur, hv, _⟩⟩ := id ho
  · exact none _ _ hv h0
  · subst hv
    haveI : Inhabited q9 := ⟨⟨0, 0⟩⟩
    have hfl : (Sort.flatK encP 2 xs.toArray).toList = s := by rw [q395 hk, hs]
    obtain ⟨hH, hb⟩ := q638 (enc := id) (d := Sort.flatK encP 2 xs.toArray) ho (by rw [List.map_id_fun, hfl]; rfl); have hgH : H b = Option.none := hap b rfl; have eg : ∀ args w, (callFunc 186 args).run Tryz.prog w = .ok (.enter 186 args) w := enters_of Tryz.func186 (by kernel_rfl) rfl
    have hcmp : CmpLays Tryz.prog 186 #[] encP 2 cmpP b 0 xs.toArray.size w := fun m os dk _ p q => by
      refine q539 hG p q _ fun b' o hbo => ?_; have h1 := hag b' o hbo; have hne : b' ≠ b := by rintro rfl; rw [hgH] at hbo; cases hbo
      exact (q394 id 0 m (Sort.flatK encP 2 dk) os (q31 h1) hne).trans h1
    have ht : TyAgg Tryz.prog 269 2 := q418 (by kernel_rfl); obtain ⟨⟨ds, t1, t2⟩, ⟨ti, t3, t4⟩⟩ := ht; have hc := AnyQ.slices_SortFunc_total Tryz.layP 2 (fun w => (q107 t1 w).trans (by rw [t2])) (fun w => (q22 t3 w).trans (by rw [t4])) encP hk (fun x u hu => by simp only [encP, List.mem_cons, List.not_mem_nil, or_false] at hu; rcases hu with rfl | rfl <;> rfl) cmpP swoP 186 #[] b 0 cap xs.toArray w eg hcmp hH hb (by rw [List.size_toArray]; omega) q639; change Calls Tryz.prog 185 _ _ _ at hc; rw [List.size_toArray, ← hn] at hc; refine hc.mono fun e w' ⟨h2, m, os, h3⟩ => ?_; rw [mergeP] at h3; refine ⟨h2, sortG pleB xs, (sortG pleB xs).flatMap encP, hW, DtL.ofEnc (fun _ _ => rfl) _, (q50 pleB xs).length_eq, ?_, ?_, ?_⟩
    · rw [h3]; exact q491 id 0 m (Sort.flatK encP 2 (sortG pleB xs).toArray) os
    · rw [h3]; exact Nat.le_add_right _ _
    · rw [h3]
      have := q538 id m (Sort.flatK encP 2 (sortG pleB xs).toArray) os ho (by rw [Sort.size_flatK, List.size_toArray, (q50 pleB xs).length_eq, hn]); rw [List.map_id_fun, id, q395 hk] at this; exact this
theorem tnok185 : tn185.Ok Tryz.prog gh := fun _ _ hW _ _ _ _ _ _ hG hag hap ho hn hd => tnh185 hW.1 hW.2 hG hag hap ho hn hd
theorem ok141 : ct141.Ok Tryz.prog tab gh := Ct.lift (E := ⟨Tryz.prog, tab, [ct171, ct184], pl141, [], gh, [tn185], [([11, 0, 1, 1, 1, 1, 1, 1, 1, 12, 0, 1, 1], 0), ([16, 2, 1, 0, 1, 4, 0, 1, 1, 5, 4, 1, 0, 1, 1, 1, 1, 1, 1, 12, 0, 1, 1], 82002), ([17, 2, 1, 0, 1, 4, 0, 1, 1, 5, 4, 1, 0, 1, 1, 1, 1, 1, 1, 12, 0, 1, 1], 0)], []⟩) ⟨tabOk, ⟨ok171, ok184, trivial⟩, mo, trivial, ghUp, ⟨tnok185, trivial⟩, trivial⟩ 9 ct141 fun x Φ => by rw [eq141]; exact id
theorem ok143 : ct143.Ok Tryz.prog tab gh := Ct.lift (E := ⟨Tryz.prog, tab, [ct101, ct137], pl143, [it170], gh, [], [], []⟩) ⟨tabOk, ⟨ok101, ok137, trivial⟩, mo, ⟨q733, trivial⟩, ghUp, trivial, trivial⟩ 9 ct143 fun x Φ => by rw [eq143]; exact id
theorem ok82 : ct82.Ok Tryz.prog tab gh := Ct.liftD (E := ⟨Tryz.prog, tab, [ct37, ct41, ct49, ct101, ct102, ct141, ct143, ct169], pl82, [it170], gh, [], [([18, 0, 1, 4, 0, 1, 1, 5, 4, 1, 0, 1, 1, 12, 0, 1, 1, 1, 1, 1], 0)], []⟩) ⟨tabOk, ⟨ok37, ok41, ok49, ok101, ok102, ok141, ok143, ok169, trivial⟩, mo, ⟨q733, trivial⟩, ghUp, trivial, trivial⟩ 9 ct82 fun x Φ => by rw [eq82]; exact id
theorem ok33 : ct33.Ok Tryz.prog tab gh := okU eq33 ⟨tabOk, ⟨ok13, ok18, ok21, ok34, ok37, ok78, ok79, ok80, ok81, ok82, trivial⟩, mo, trivial, ghUp, trivial, trivial⟩
theorem ok35 : ct35.Ok Tryz.prog tab gh := okU eq35 ⟨tabOk, ⟨ok83, trivial⟩, mo, trivial, ghUp, trivial, trivial⟩
theorem ok10 : ct10.Ok Tryz.prog tab gh := okU eq10 ⟨tabOk, ⟨ok12, ok23, ok33, ok34, ok35, trivial⟩, mo, trivial, ghUp, trivial, trivial⟩
section
theorem iI {x : Int} (h1 : -9223372036854775808 ≤ x) (h2 : x ≤ 9223372036854775807) : inI x := ⟨h1, h2⟩
theorem iX {i : Int} {n : Nat} (h1 : 0 ≤ i) (h2 : i < (n : Int)) : inX i n := ⟨h1, h2⟩
theorem iS {a b : Int} {n : Nat} (h1 : 0 ≤ a) (h2 : a ≤ b) (h3 : b ≤ (n : Int)) : inS a b n := ⟨h1, h2, h3⟩
theorem iL {n b : Nat} (h : n ≤ 1000000) (hb : b ≤ 1000000) : lenOk n b := by
  have := Nat.mul_le_mul h hb; refine ⟨by omega, ?_⟩; simp only [maxLen]; omega
section
variable {α : Type} [Dt α]
theorem q24 {xs : List α} {k : Nat} (h : k < xs.length) : ix xs (k : Int) = xs[k] := by
  show xs.getD k default = _; rw [List.getD_eq_getElem?_getD, List.getElem?_eq_getElem h]; rfl
theorem q69 {xs : List α} {k : Nat} (h : k < xs.length) : xs.take (k + 1) = xs.take k ++ [ix xs (k : Int)] := by
  rw [q24 h]; exact (List.take_append_getElem h).symm
theorem q51 {xs : List α} {i : Int} (h : inX i xs.length) : ix xs i ∈ xs := by
  have e := h.nat; have hl := h.lt; rw [e, q24 hl]; exact List.getElem_mem hl
theorem q734 {xs : List α} {k : Nat} (h : k < xs.length) : xs.drop k = ix xs (k : Int) :: xs.drop (k + 1) := by
  rw [q24 h]; exact List.drop_eq_getElem_cons h
theorem q297 {xs ys : List α} (hl : xs.length = ys.length) (h : ∀ k : Nat, k < xs.length → ix xs (k : Int) = ix ys (k : Int)) : xs = ys := by
  apply List.ext_getElem hl
  intro k h1 h2; have := h k h1; rwa [q24 h1, q24 h2] at this
omit [Dt α] in
theorem q735 (xs : List α) (k : Nat) (x : α) : put xs (k : Int) x = xs.set k x := rfl
end
section
variable {A : Type}
theorem LoopW.up {step : Int → (Int → Prop) → Prop} (n : Nat) (Inv : Nat → Prop) (h : ∀ (k : Nat) rec, k ≤ n → Inv k → (k < n → Inv (k + 1) → rec ((k : Int) + 1)) → step (k : Int) rec) {k0 : Nat} {i0 : Int} (hi : i0 = (k0 : Int)) (hk : k0 ≤ n) (h0 : Inv k0) : LoopW step i0 := by
  subst hi; refine LoopW.of_inv (fun i => ∃ k : Nat, i = (k : Int) ∧ k ≤ n ∧ Inv k) (fun i => n - i.toNat) ?_ ⟨k0, rfl, hk, h0⟩
  rintro _ rec ⟨k, rfl, hk, hI⟩ hrec
  refine h k rec hk hI fun hlt hI' => hrec _ ⟨k + 1, rfl, hlt, hI'⟩ ?_; simp only [Int.toNat_natCast]; omega
def q71 (f : Nat → Int) : Nat → Int
  | 0 => 0
  | n + 1 => if q71 f n ≠ 0 then q71 f n else f n
theorem q396 {f : Nat → Int} : ∀ {n k : Nat}, k < n → (∀ j, j < k → f j = 0) → f k ≠ 0 → q71 f n = f k
  | 0, _, hk, _, _ => by omega
  | n + 1, k, hk, h0, h1 => by
    unfold q71; rcases Nat.lt_or_ge k n with h | h
    · rw [q396 h h0 h1, if_pos h1]
    · have e : k = n := by omega
      subst e
      have : q71 f k = 0 := by
        clear h1 hk h
        induction k with
        | zero => rfl
        | succ k ih => unfold q71; rw [ih fun j hj => h0 j (by omega), if_neg (by simp), h0 k (by omega)]
      rw [this, if_neg (by simp)]
theorem q29 {f : Nat → Int} : ∀ {n : Nat}, q71 f n = 0 ↔ ∀ k, k < n → f k = 0
  | 0 => by simp [q71]
  | n + 1 => by
    unfold q71; constructor
    · intro h k hk
      by_cases h1 : q71 f n ≠ 0
      · rw [if_pos h1] at h; exact absurd h h1
      · rw [if_neg h1] at h
        rcases Nat.lt_or_ge k n with hlt | hge
        · exact (q29.1 (Classical.not_not.1 h1)) k hlt
        · have : k = n := by omega
          subst this; exact h
    · intro h
      rw [if_neg (by rw [q29.2 fun k hk => h k (by omega)]; simp), h n (by omega)]
def allN (p : Nat → Bool) (n : Nat) : Bool := (List.range n).all p
theorem q351 {p : Nat → Bool} {n : Nat} : allN p n = true ↔ ∀ k, k < n → p k = true := by simp [allN]
theorem q640 {p : Nat → Bool} {n k : Nat} (hk : k < n) (h : p k = false) : allN p n = false := by
  cases hx : allN p n with
  | false => rfl
  | true => rw [q351.1 hx k hk] at h; cases h
theorem LoopW.allL {step : Int → (Int → Prop) → Prop} (n : Nat) (p : Nat → Bool) {Φ : Bool → Prop} (hΦ : Φ (allN p n)) (h : ∀ (k : Nat) rec, k < n → (∀ j, j < k → p j = true) → (p k = false → Φ false) → (p k = true → rec ((k : Int) + 1)) → step (k : Int) rec)
    (he : ∀ rec, Φ true → (∀ j, j < n → p j = true) → step (n : Int) rec) : LoopW step 0 := by
  refine LoopW.up n (fun k => ∀ j, j < k → p j = true) ?_ rfl (Nat.zero_le _) (fun j hj => absurd hj (Nat.not_lt_zero j)); intro k rec hk hI hrec; rcases Nat.lt_or_ge k n with hlt | hge
  · refine h k rec hlt hI (fun h1 => by rw [q640 hlt h1] at hΦ; exact hΦ) fun h0 => hrec hlt fun j hj => ?_
    rcases Nat.lt_or_ge j k with h2 | h2
    · exact hI j h2
    · have : j = k := by omega
      subst this; exact h0
  · have e : k = n := by omega
    subst e; exact he rec (by rw [q351.2 hI] at hΦ; exact hΦ) hI
end
end
def chkB (b : q10) : Int := chk b.Size b.Words
theorem q198 {n : Int} {Φ : Int → Prop} (h0 : 0 ≤ n) (h1 : n ≤ 1000000) (hΦ : Φ ((n + 64 - 1) / 64)) : Z5 n Φ :=
  ⟨iI (by omega) (by omega), iI (by omega) (by omega), ⟨by omega, iI (by omega) (by omega), by omega⟩, hΦ⟩
theorem q52 {b : q10} {Φ : Int → Prop} (hΦ : Φ (chkB b)) : Z12 b Φ := by
  unfold chkB at hΦ; refine ⟨fun h => ?_, fun h1 => ⟨fun h2 => ?_, fun h2 => ⟨((b.Size + 64 - 1) / 64, ()), q198 (by omega) (by omega) rfl, fun h3 => ?_, fun h3 => ?_⟩⟩⟩
  · rw [q511 (by omega)] at hΦ; exact hΦ
  · rw [q511 (by omega)] at hΦ; exact hΦ
  · rw [q511 (by simp only at h3; omega)] at hΦ; exact hΦ
  · have h3 : (b.Words.length : Int) = (b.Size + 64 - 1) / 64 := Classical.not_not.1 h3
    have e : ∀ h : 0 < b.Size % 64, ix b.Words ((b.Words.length : Int) - 1) = b.Words.getD (b.Words.length - 1) 0#64 := fun h => by
      show b.Words.getD ((b.Words.length : Int) - 1).toNat default = _; rw [show ((b.Words.length : Int) - 1).toNat = b.Words.length - 1 by omega]; rfl
    refine ⟨⟨by omega, by omega⟩, fun h4 => ⟨iI (by omega) (by omega), iX (by omega) (by omega), by omega, fun h5 => ?_, fun h5 => ?_⟩, fun h4 => ?_⟩
    · rw [e h4] at h5
      rw [chk_top (by omega) (by omega) (by omega) h4 h5] at hΦ; exact hΦ
    · rw [q380 (by omega) (by omega) (by omega) fun h6 => by rw [e h6] at h5; exact Classical.not_not.1 h5] at hΦ; exact hΦ
    · rw [q380 (by omega) (by omega) (by omega) fun h6 => absurd h6 h4] at hΦ; exact hΦ
theorem q211 {b : q10} (h : ¬ chkB b ≠ 0) : 0 ≤ b.Size ∧ b.Size ≤ 4096 ∧ (b.Words.length : Int) = (b.Size + 63) / 64 := q846 (Classical.not_not.1 h)
theorem LoopW.upI {S : Type} {step : S → (S → Prop) → Prop} (n : Nat) (st : Nat → S) (I : Nat → Prop) {s : S} (hs : s = st 0) (h0 : I 0)
    (h : ∀ (k : Nat) rec, k < n → I k → (I (k + 1) → ∀ s, s = st (k + 1) → rec s) → step (st k) rec) (he : ∀ rec, I n → step (st n) rec) : LoopW step s := by
  have key : ∀ m k, k + m = n → I k → LoopN step (m + 1) (st k) := by
    intro m
    induction m with
    | zero => intro k hk hI; obtain rfl : k = n := hk; exact he _ hI
    | succ m ih => intro k hk hI; exact h k _ (by omega) hI fun hI' s hs => by rw [hs]; exact ih (k + 1) (by omega) hI'
  exact ⟨n + 1, by rw [hs]; exact key n 0 (by omega) h0⟩
theorem LoopW.upT {S : Type} {step : S → (S → Prop) → Prop} (n : Nat) (st : Nat → S) {s : S} (hs : s = st 0)
    (h : ∀ (k : Nat) rec, k < n → (∀ s, s = st (k + 1) → rec s) → step (st k) rec) (he : ∀ rec, step (st n) rec) : LoopW step s :=
  LoopW.upI n st (fun _ => True) hs trivial (fun k rec hk _ hr => h k rec hk (hr trivial)) fun rec _ => he rec
theorem LoopW.findI {step : Int → (Int → Prop) → Prop} (n : Nat) (p : Nat → Bool) (h : ∀ (k : Nat) rec, k < n → (∀ j, j < k → p j = false) → (p k = false → rec ((k : Int) + 1)) → step (k : Int) rec)
    (he : ∀ rec, (∀ j, j < n → p j = false) → step (n : Int) rec) : LoopW step 0 :=
  LoopW.upI n (fun k => (k : Int)) (fun k => ∀ j, j < k → p j = false) rfl (fun j hj => absurd hj (Nat.not_lt_zero j)) (fun k rec hk hI hr => h k rec hk hI fun hp => hr (fun j hj => by
    rcases Nat.lt_or_ge j k with h2 | h2
    · exact hI j h2
    · obtain rfl : j = k := by omega
      exact hp) _ rfl) he
theorem q871 {α : Type} [Dt α] {xs : List α} {p : α → Bool} : xs.any p = true ↔ ∃ k, k < xs.length ∧ p (ix xs (k : Int)) = true := by
  rw [List.any_eq_true]; constructor
  · rintro ⟨x, hx, hp⟩
    obtain ⟨k, hk, rfl⟩ := List.getElem_of_mem hx; exact ⟨k, hk, by rw [q24 hk]; exact hp⟩
  · rintro ⟨k, hk, hp⟩
    exact ⟨xs[k], List.getElem_mem hk, by rw [q24 hk] at hp; exact hp⟩
theorem q492 {α : Type} [Dt α] {xs : List α} {p : α → Bool} (h : ∀ k, k < xs.length → p (ix xs (k : Int)) = false) : xs.any p = false := by
  rw [Bool.eq_false_iff]; intro q; obtain ⟨k, hk, hp⟩ := q871.1 q; rw [h k hk] at hp; cases hp
theorem q540 {α : Type} [Dt α] {xs : List α} {p : α → Bool} {k : Nat} (hk : k < xs.length) (h : p (ix xs (k : Int)) = true) : xs.any p = true := q871.2 ⟨k, hk, h⟩
theorem LoopW.anyL {α : Type} [Dt α] {step : Int → (Int → Prop) → Prop} (xs : List α) (p : α → Bool) {Φ : Bool → Prop} (hΦ : Φ (xs.any p)) (h : ∀ (k : Nat) rec, k < xs.length → (p (ix xs (k : Int)) = true → Φ true) → (p (ix xs (k : Int)) = false → rec ((k : Int) + 1)) → step (k : Int) rec)
    (he : ∀ rec, Φ false → step (xs.length : Int) rec) : LoopW step 0 :=
  LoopW.findI xs.length (fun k => p (ix xs (k : Int))) (fun k rec hk _ hr => h k rec hk (fun hp => by rw [q540 hk hp] at hΦ; exact hΦ) hr) fun rec hn => he rec (by rw [q492 hn] at hΦ; exact hΦ)
theorem q18 {α : Type} (xs : List α) (x : α) : (xs ++ [x]).length = xs.length + 1 := by simp
theorem lenT {α : Type} {xs : List α} {k : Nat} (h : k ≤ xs.length) : (xs.take k).length = k := by rw [List.length_take]; omega
theorem q32 {α : Type} (xs : List α) : xs.take xs.length = xs := List.take_length
theorem q35 {α β : Type} [Dt α] {xs : List α} {k : Nat} (f : α → β) (h : k < xs.length) : (xs.take (k + 1)).map f = (xs.take k).map f ++ [f (ix xs (k : Int))] := by rw [q69 h, List.map_append]; rfl
theorem LoopW.errI {S : Type} {step : S → (S → Prop) → Prop} (n : Nat) (st : Nat → S) (f : Nat → Int) {Ψ : Int → Prop} {s : S} (hs : s = st 0) (hΨ : Ψ (q71 f n))
    (h : ∀ (k : Nat) rec, k < n → (∀ j, j < k → f j = 0) → (f k ≠ 0 → Ψ (f k)) → (f k = 0 → ∀ s, s = st (k + 1) → rec s) → step (st k) rec) (he : ∀ rec, (∀ j, j < n → f j = 0) → Ψ 0 → step (st n) rec) : LoopW step s :=
  LoopW.upI n st (fun k => ∀ j, j < k → f j = 0) hs (fun j hj => absurd hj (Nat.not_lt_zero j)) (fun k rec hk hI hr => h k rec hk hI (fun h1 => by rw [q396 hk hI h1] at hΨ; exact hΨ) fun h0 => hr fun j hj => by
    rcases Nat.lt_or_ge j k with h2 | h2
    · exact hI j h2
    · obtain rfl : j = k := by omega
      exact h0) fun rec hI => he rec hI (by rw [q29.2 hI] at hΨ; exact hΨ)
def bmOf (r : BR) : q10 × Int := (⟨r.n, r.ws⟩, r.e)
def newB (n : Int) : q10 := ⟨n, List.replicate ((n + 63) / 64).toNat 0#64⟩
theorem q444 {n : Int} {Φ : q10 × Int → Prop} (h0 : 0 ≤ n) (h1 : n ≤ 4096) (hΦ : Φ (newB n, 0)) : q192 n Φ := by
  refine ⟨fun q => absurd q (by omega), fun _ => ?_⟩; rw [decide_eq_false (show ¬ 4096 < n by omega)]; refine ⟨fun q => (by cases q), fun _ => q198 h0 (by omega) ⟨by omega, iL (by omega) (by omega), ?_⟩⟩; rw [show n + 64 - 1 = n + 63 by omega]; exact hΦ
theorem fits_of {s c n : Int} {Φ : Bool → Prop} (h0 : 0 ≤ n) (h1 : n ≤ 4096) (hΦ : Φ (fitsB s c n)) : (0 ≤ s → (0 ≤ c → (s ≤ n → inI (n - s) ∧ Φ (decide (c ≤ n - s))) ∧ (¬ s ≤ n → Φ false)) ∧ (¬ 0 ≤ c → Φ false)) ∧ (¬ 0 ≤ s → Φ false) := by
  have hf : ∀ q : ¬ (0 ≤ s ∧ 0 ≤ c ∧ s ≤ n ∧ c ≤ n - s), Φ false := fun q => by
    have : fitsB s c n = false := by rw [Bool.eq_false_iff]; exact fun z => q (q181.1 z)
    rw [this] at hΦ; exact hΦ
  refine ⟨fun a => ⟨fun b => ⟨fun d => ⟨iI (by omega) (by omega), ?_⟩, fun d => hf (by omega)⟩, fun b => hf (by omega)⟩, fun a => hf (by omega)⟩; by_cases hc : c ≤ n - s
  · have : fitsB s c n = true := q181.2 ⟨a, b, d, hc⟩
    rw [this] at hΦ; rw [decide_eq_true hc]; exact hΦ
  · rw [decide_eq_false hc]; exact hf (by omega)
theorem q371 {e : q16} {n : Int} {Φ : Bool → Prop} (h0 : 0 ≤ n) (h1 : n ≤ 4096) (hΦ : Φ (fitsB e.Start e.Count n)) : q167 e n Φ := fits_of h0 h1 hΦ
def setBm (b : q10) (e : q16) : q10 × Int := bmOf (chR true b.Size b.Words e.Start e.Count)
theorem q219 {i f g : Int} {Φ : BitVec 64 → Prop} (h0 : 0 ≤ i) (h1 : i ≤ 1000000) (h2 : -100000 ≤ f) (h3 : f ≤ 1000000) (h4 : -100000 ≤ g) (h5 : g ≤ 1000000) (hΦ : Φ (maskW i f g)) : q118 i f g Φ := by
  have hm : maskW i f g = if (if 64 < g - i * 64 then 64 else g - i * 64) ≤ (if f - i * 64 < 0 then 0 else f - i * 64) then 0#64 else 18446744073709551615#64 >>> (64 - ((if 64 < g - i * 64 then 64 else g - i * 64) - (if f - i * 64 < 0 then 0 else f - i * 64))).toNat <<< (if f - i * 64 < 0 then 0 else f - i * 64).toNat := rfl; rw [hm] at hΦ; refine ⟨iI (by omega) (by omega), iI (by omega) (by omega), iI (by omega) (by omega), iI (by omega) (by omega), fun q => ?_, fun q => ⟨iI (by split <;> split <;> omega) (by split <;> split <;> omega), iI (by split <;> split <;> omega) (by split <;> split <;> omega), by split <;> split <;> omega, by split <;> omega, ?_⟩⟩
  · rw [if_pos q] at hΦ; exact hΦ
  · rw [if_neg q] at hΦ; exact hΦ
theorem q261 {l : List (BitVec 64)} {Φ : List (BitVec 64) → Prop} (hl : l.length ≤ 1000000) (hΦ : Φ l) : Z20 l Φ :=
  ⟨fun h => by subst h; exact hΦ, iL (by rw [List.nil_append]; exact hl) (by omega), hΦ⟩
theorem q262 {b : q10} {e : q16} {Φ : q10 × Int → Prop} (hΦ : Φ (setBm b e)) : q112 b e Φ := by
  unfold setBm at hΦ; unfold q112; refine q52 ⟨fun q => ?_, fun q => ?_⟩
  · rw [q776 q] at hΦ; unfold chkB at *; rw [chk_ne q]; exact hΦ
  have hw := q211 q; refine q371 hw.1 hw.2.1 ⟨fun q2 => by rw [q659 q q2] at hΦ; exact hΦ, fun q2 => ?_⟩; have q3 := Classical.not_not.1 q2; rw [q847 q q3] at hΦ; have hf := q181.1 q3; refine q261 (by omega) ?_; refine LoopW.upI b.Words.length (fun k => ((k : Int), chK true b.Words e.Start (e.Start + e.Count) k)) (fun _ => True) ?_ trivial (fun k rec hk _ hrec => ?_) fun rec _ => ?_
  · exact Prod.ext rfl (q777 true b.Words e.Start (e.Start + e.Count)).symm
  · have hl : (chK true b.Words e.Start (e.Start + e.Count) k).length = b.Words.length := q381 _ _ _ _ _
    refine ⟨fun _ => ⟨iX (by omega) (by omega), iI (by omega) (by omega), (_, ()), q219 (by omega) (by omega) (by omega) (by omega) (by omega) (by omega) rfl, (_, ()), rfl, iX (by omega) (by omega), iI (by omega) (by omega), hrec trivial _ (Prod.ext rfl ?_)⟩, fun hge => absurd (show (k : Int) < (b.Words.length : Int) by omega) hge⟩; exact q779 true b.Words e.Start (e.Start + e.Count) hk
  · refine ⟨fun hlt => absurd (show (b.Words.length : Int) < (b.Words.length : Int) from hlt) (by omega), fun _ => ?_⟩
    rw [← q778 true b.Words e.Start (e.Start + e.Count) (Nat.le_refl _)] at hΦ; exact hΦ
def q27 (l : List Int) : Int := if (l.length : Int) < 1 ∨ 8 < (l.length : Int) then 6 else q71 (fun k => if ix l (k : Int) < 1 ∨ 4096 < ix l (k : Int) then 2 else 0) l.length
def szs (im : List (List Sec)) : List Int := im.map fun v => (v.length : Int)
def imgE (im : List (List Sec)) : Int := q27 (szs im)
theorem q98 (im : List (List Sec)) : (szs im).length = im.length := by unfold szs; rw [List.length_map]
theorem q298 {im : List (List Sec)} {k : Nat} (h : k < im.length) : ix (szs im) (k : Int) = ((ix im (k : Int)).length : Int) := by
  rw [q24 (by rw [q98]; exact h), q24 h]; unfold szs; rw [List.getElem_map]
theorem q53 {l : List Int} (h : q27 l = 0) : 1 ≤ l.length ∧ l.length ≤ 8 := by
  unfold q27 at h; by_cases hl : (l.length : Int) < 1 ∨ 8 < (l.length : Int)
  · rw [if_pos hl] at h; cases h
  · omega
theorem q126 {l : List Int} (h : q27 l = 0) {k : Nat} (hk : k < l.length) : 1 ≤ ix l (k : Int) ∧ ix l (k : Int) ≤ 4096 := by
  unfold q27 at h; by_cases hl : (l.length : Int) < 1 ∨ 8 < (l.length : Int)
  · rw [if_pos hl] at h; cases h
  · rw [if_neg hl] at h
    have := q29.1 h k hk; by_cases q : ix l (k : Int) < 1 ∨ 4096 < ix l (k : Int)
    · rw [if_pos q] at this; cases this
    · omega
theorem q127 {l : List Int} {Φ : Int → Prop} (hΦ : Φ (q27 l)) : Z2 l Φ := by
  unfold q27 at hΦ; by_cases h : (l.length : Int) < 1 ∨ 8 < (l.length : Int)
  · rw [if_pos h] at hΦ
    exact ⟨fun _ => hΦ, fun _ => ⟨fun _ => hΦ, fun _ => by omega⟩⟩
  · rw [if_neg h] at hΦ
    refine ⟨fun _ => by omega, fun _ => ⟨fun _ => by omega, fun _ => ?_⟩⟩; refine LoopW.errI l.length (fun k => (k : Int)) _ rfl hΦ (fun k rec hk _ h1 h2 => ?_) fun rec _ h0 => ⟨fun _ => by omega, fun _ => ⟨fun _ => by omega, fun _ => h0⟩⟩
    have go : ∀ q : ix l (k : Int) < 1 ∨ 4096 < ix l (k : Int), Φ 2 := fun q => by
      have := h1 (by rw [if_pos q]; omega); rw [if_pos q] at this; exact this
    refine ⟨fun _ => ⟨iX (by omega) (by omega), fun q => ⟨fun _ => ⟨fun _ => go (.inl q), fun _ => by omega⟩, fun r => absurd rfl r⟩, fun q => ⟨fun r => ⟨fun _ => go (.inr (of_decide_eq_true r)), fun _ => by omega⟩, fun r => ⟨iI (by omega) (by omega), h2 (if_neg (by have := of_decide_eq_false (Bool.eq_false_iff.2 r); omega)) _ rfl⟩⟩⟩, fun _ => by omega⟩
theorem q372 {im : List (List Sec)} {Φ : List Int → Prop} (hl : im.length ≤ 100000) (hΦ : Φ (szs im)) : q164 im Φ := by
  refine ⟨by omega, iL (by omega) (by omega), ?_⟩; refine LoopW.upT im.length (fun k => ((k : Int), (im.take k).map fun v => (v.length : Int))) rfl (fun k rec hk hr => ?_) fun rec => ⟨fun _ => by omega, fun _ => by rw [q32]; exact hΦ⟩
  refine ⟨fun _ => ⟨iX (by omega) (by omega), iL (by rw [q18, List.length_map, lenT (by omega)]; omega) (by omega), iI (by omega) (by omega), hr _ (by rw [q35 _ hk]; rfl)⟩, fun _ => by omega⟩
theorem q220 {im : List (List Sec)} {Φ : Int → Prop} (hl : im.length ≤ 100000) (hΦ : Φ (imgE im)) : q94 im Φ := q372 hl (q127 hΦ)
def zeroI (l : List Int) : List (List Sec) := l.map fun n => List.replicate n.toNat sec0
theorem q263 (l : List Int) : (zeroI l).length = l.length := by unfold zeroI; rw [List.length_map]
theorem q806 {l : List Int} {k : Nat} (h : k < l.length) : ix (zeroI l) (k : Int) = List.replicate (ix l (k : Int)).toNat sec0 := by
  rw [q24 (by rw [q263]; exact h), q24 h]; unfold zeroI; rw [List.getElem_map]
theorem q150 {l : List Int} (h : q27 l = 0) : szs (zeroI l) = l := by
  refine q297 (by rw [q98, q263]) fun k hk => ?_; rw [q98, q263] at hk; have := q126 h hk; rw [q298 (by rw [q263]; exact hk), q806 hk, List.length_replicate]; omega
theorem q46 {l : List Int} {Φ : List (List Sec) × Int → Prop} (h0 : q27 l = 0 → Φ (zeroI l, 0)) (h1 : q27 l ≠ 0 → Φ ([], q27 l)) : q41 l Φ := by
  refine q127 ⟨fun q => h1 q, fun q => ?_⟩; have q : q27 l = 0 := Classical.not_not.1 q; have hl := q53 q; refine ⟨by omega, iL (by omega) (by omega), ?_⟩; refine LoopW.upT l.length (fun k => ((k : Int), (l.take k).map fun n => List.replicate n.toNat sec0)) rfl (fun k rec hk hr => ?_) fun rec => ⟨fun _ => by omega, fun _ => by rw [q32]; exact h0 q⟩
  have := q126 q hk; refine ⟨fun _ => ⟨iX (by omega) (by omega), by omega, iL (by omega) (by omega), iL (by rw [q18, List.length_map, lenT (by omega)]; omega) (by omega), iI (by omega) (by omega), hr _ (by rw [q35 _ hk]; rfl)⟩, fun _ => by omega⟩
def fitW (l : List Int) (w : q8) : Int := if w.Volume < 0 ∨ (l.length : Int) ≤ w.Volume then 7 else if (w.Data.length : Int) = 0 then 1 else if w.Start < 0 ∨ ix l w.Volume - w.Start < (w.Data.length : Int) then 2 else 0
theorem q264 {im : List (List Sec)} {w : q8} {Φ : Int → Prop} (hd : w.Data.length ≤ 1000000) (hv : ∀ k : Nat, k < im.length → (ix im (k : Int)).length ≤ 1000000) (hΦ : Φ (fitW (szs im) w)) : q111 im w Φ := by
  unfold fitW at hΦ; rw [q98] at hΦ; show (_ → q165 _ _ _ _) ∧ _
  have tail : ¬ (w.Volume < 0 ∨ (im.length : Int) ≤ w.Volume) → q165 im w Φ false := fun q => by
    rw [if_neg q] at hΦ; refine ⟨fun r => (Bool.noConfusion r), fun _ => ⟨fun r => by rw [if_pos (by omega)] at hΦ; exact hΦ, fun r => ?_⟩⟩; rw [if_neg (by omega)] at hΦ; obtain ⟨v, hw⟩ := Int.eq_ofNat_of_zero_le (show 0 ≤ w.Volume by omega); have hvl : v < im.length := by omega
    rw [hw, q298 hvl] at hΦ; have := hv v hvl; refine ⟨fun s => by rw [if_pos (.inl s)] at hΦ; exact hΦ, fun s => ⟨iX (by omega) (by omega), ?_⟩⟩; rw [hw]; exact ⟨iI (by omega) (by omega), fun t => by rw [if_pos (by omega)] at hΦ; exact hΦ, fun t => by rw [if_neg (by omega)] at hΦ; exact hΦ⟩
  refine ⟨fun q => ⟨fun _ => by rw [if_pos (.inl q)] at hΦ; exact hΦ, fun r => absurd rfl r⟩, fun q => ?_⟩; by_cases r : (im.length : Int) ≤ w.Volume
  · rw [decide_eq_true r]
    exact ⟨fun _ => by rw [if_pos (.inr r)] at hΦ; exact hΦ, fun r => absurd rfl r⟩
  · rw [decide_eq_false r]; exact tail (by omega)
theorem q352 {im : List (List Sec)} (h : imgE im = 0) (k : Nat) (hk : k < im.length) : (ix im (k : Int)).length ≤ 4096 := by
  have := q126 h (k := k) (by rw [q98]; exact hk); rw [q298 hk] at this; omega
theorem q99 {im : List (List Sec)} {w : q8} {Φ : Int → Prop} (hd : w.Data.length ≤ 1000000) (h : imgE im = 0) (hΦ : Φ (fitW (szs im) w)) : q64 im w Φ := by
  have hl := q53 h; rw [q98] at hl; exact q220 (by omega) ⟨fun q => absurd h q, fun _ => q264 hd (fun k hk => Nat.le_trans (q352 h k hk) (by omega)) hΦ⟩
theorem q641 {l : List Int} {k : Nat} (h : k < l.length) : ((l.take (k + 1)).map newB) = (l.take k).map newB ++ [newB (ix l (k : Int))] := q35 newB h
theorem q175 {l : List Int} {Φ : List q10 × Int → Prop} (hl : l.length ≤ 100000) (hs : ∀ k : Nat, k < l.length → 0 ≤ ix l (k : Int) ∧ ix l (k : Int) ≤ 4096) (hΦ : Φ (l.map newB, 0)) : Z7 l Φ := by
  refine LoopW.upT l.length (fun k => ((k : Int), (l.take k).map newB)) rfl (fun k rec hk hrec => ?_) fun rec => ⟨fun q => absurd (show (l.length : Int) < (l.length : Int) from q) (by omega), fun _ => ?_⟩
  · refine ⟨fun _ => ⟨iX (by omega) (by omega), q444 (hs k hk).1 (hs k hk).2 ⟨fun q => absurd rfl q, fun _ => ⟨iL (by simp only [List.length_append, List.length_map, List.length_cons, List.length_nil]; rw [lenT (Nat.le_of_lt hk)]; omega) (by omega), iI (by omega) (by omega), hrec _ (Prod.ext rfl (q641 hk).symm)⟩⟩⟩, fun q => absurd (show (k : Int) < (l.length : Int) by omega) q⟩
  · rw [q32]; exact hΦ
def mark1 (d : List q10) (w : q8) : List q10 := put d w.Volume (setBm (ix d w.Volume) ⟨w.Start, (w.Data.length : Int)⟩).1
def markL (d : List q10) (l : List q8) : List q10 := l.foldl mark1 d
theorem q642 (d : List q10) {l : List q8} {k : Nat} (h : k < l.length) : markL d (l.take (k + 1)) = mark1 (markL d (l.take k)) (ix l (k : Int)) := by
  unfold markL; rw [q69 h, List.foldl_append]; rfl
def bmsE (d : List q10) (sizes : List Int) (k : Nat) : Int := if chkB (ix d (k : Int)) ≠ 0 then chkB (ix d (k : Int)) else if (ix d (k : Int)).Size ≠ ix sizes (k : Int) then 22 else 0
def bmsC (d : List q10) (sizes : List Int) : Int := if (d.length : Int) ≠ (sizes.length : Int) then 6 else q71 (bmsE d sizes) d.length
def peerE (t : q11) (k : Nat) : Int :=
  if (ix t.Peers (k : Int)).Site < 0 ∨ 4 ≤ (ix t.Peers (k : Int)).Site then 2 else if 0 < (k : Int) ∧ (ix t.Peers (k : Int)).Site ≤ (ix t.Peers ((k : Int) - 1)).Site then 8 else if (ix t.Peers (k : Int)).Common < 0 ∨ 1073741824 < (ix t.Peers (k : Int)).Common then 2 else bmsC (ix t.Peers (k : Int)).Dirty t.Sizes
def trkE (t : q11) : Int := if q27 t.Sizes ≠ 0 then q27 t.Sizes else if 4 < (t.Peers.length : Int) then 6 else q71 (peerE t) t.Peers.length
theorem q541 {n : Int} {ws : List (BitVec 64)} : chk n ws = 0 ↔ 0 ≤ n ∧ n ≤ 4096 ∧ (ws.length : Int) = (n + 63) / 64 ∧ ∀ i : Nat, i < 64 * ws.length → n ≤ (i : Int) → bitN ws i = false :=
  ⟨fun h => q275.1 (q309 h), fun ⟨h1, h2, h3, h4⟩ => q845 h1 h2 h3 h4⟩
def cov (es : List (Int × Int)) (i : Int) : Prop := ∃ e ∈ es, e.1 ≤ i ∧ i < e.1 + e.2
theorem q807 {n : Int} {ws : List (BitVec 64)} {s c : Int} (h : chk n ws = 0) (hf : fitsB s c n = true) : chk n (chW true ws s (s + c)) = 0 := by
  obtain ⟨a1, a2, a3, a4⟩ := q541.1 h; have hff := q181.1 hf; refine q541.2 ⟨a1, a2, by rw [q102]; exact a3, fun i hi hn => ?_⟩; rw [q102] at hi; rw [q658 true ws _ _ i hi, if_neg (by omega)]; exact a4 i hi hn
theorem chk_new {n : Int} (h1 : 0 ≤ n) (h2 : n ≤ 4096) : chk n (List.replicate ((n + 63) / 64).toNat 0#64) = 0 := by
  refine q541.2 ⟨h1, h2, by rw [List.length_replicate]; omega, fun i hi _ => ?_⟩; rw [List.length_replicate] at hi; unfold bitN; rw [List.getD_eq_getElem?_getD, List.getElem?_replicate]
  split <;> simp
theorem bit_new {m i : Nat} : bitN (List.replicate m 0#64) i = false := by
  unfold bitN; rw [List.getD_eq_getElem?_getD, List.getElem?_replicate]
  split <;> simp
theorem q808 {x : Int} : ∀ {l : List Int}, (∀ y ∈ l, x ≤ y) → insZ x l = x :: l
  | [], _ => rfl
  | y :: r, h => by unfold insZ; rw [if_pos (h y List.mem_cons_self)]
theorem q493 : ∀ {l : List Int}, l.Pairwise (fun a b => a < b) → sortZ l = l
  | [], _ => rfl
  | x :: r, h => by
    have h1 := List.pairwise_cons.1 h; show insZ x (sortZ r) = _; rw [q493 h1.2]; exact q808 fun y hy => Int.le_of_lt (h1.1 y hy)
theorem q736 : ∀ {l m : List Int}, l.Pairwise (fun a b => a < b) → m.Pairwise (fun a b => a < b) → (∀ x, x ∈ l ↔ x ∈ m) → l = m
  | [], [], _, _, _ => rfl
  | [], y :: m, _, _, h => absurd ((h y).2 List.mem_cons_self) List.not_mem_nil
  | x :: l, [], _, _, h => absurd ((h x).1 List.mem_cons_self) List.not_mem_nil
  | x :: l, y :: m, h1, h2, h => by
    have a := List.pairwise_cons.1 h1; have b := List.pairwise_cons.1 h2
    have e : x = y := by
      rcases List.mem_cons.1 ((h x).1 List.mem_cons_self) with p | p
      · exact p
      · rcases List.mem_cons.1 ((h y).2 List.mem_cons_self) with q | q
        · exact q.symm
        · have := b.1 x p; have := a.1 y q; omega
    subst e
    congr 1
    refine q736 a.2 b.2 fun z => ⟨fun hz => ?_, fun hz => ?_⟩
    · rcases List.mem_cons.1 ((h z).1 (List.mem_cons_of_mem _ hz)) with e | e
      · subst e; have := a.1 z hz; omega
      · exact e
    · rcases List.mem_cons.1 ((h z).2 (List.mem_cons_of_mem _ hz)) with e | e
      · subst e; have := b.1 z hz; omega
      · exact e
theorem q809 {l : List Int} (h : l.Nodup) : (sortZ l).Pairwise (fun a b => a < b) := by
  have h1 : (sortZ l).Nodup := (q210 l).nodup_iff.2 h; exact ((q191 l).and h1).imp fun q => by have := q.1; have := q.2; omega
theorem q737 {l : List Int} {x : Int} : x ∈ sortZ l ↔ x ∈ l := (q210 l).mem_iff
theorem q604 {b : q10} {e : q16} (h : chkB b = 0) (hf : fitsB e.Start e.Count b.Size = true) : (setBm b e).2 = 0 ∧ chkB (setBm b e).1 = 0 ∧ (setBm b e).1.Size = b.Size ∧ ∀ i : Nat, (i : Int) < b.Size → (bitN (setBm b e).1.Words i = true ↔ bitN b.Words i = true ∨ (e.Start ≤ (i : Int) ∧ (i : Int) < e.Start + e.Count)) := by
  have hw := q211 (b := b) (by simpa using h)
  have e1 : setBm b e = (⟨b.Size, chW true b.Words e.Start (e.Start + e.Count)⟩, 0) := by
    unfold setBm; rw [q847 (by simpa [chkB] using h) hf]; rfl
  rw [e1]; refine ⟨rfl, q807 h hf, rfl, fun i hi => ?_⟩; show bitN (chW true b.Words e.Start (e.Start + e.Count)) i = true ↔ _; rw [q658 _ _ _ _ _ (by omega)]; by_cases hc : e.Start ≤ (i : Int) ∧ (i : Int) < e.Start + e.Count
  · rw [if_pos hc]; exact ⟨fun _ => .inr hc, fun _ => rfl⟩
  · rw [if_neg hc]; exact ⟨fun z => .inl z, fun z => z.resolve_right hc⟩
theorem q738 {n : Int} (h0 : 0 ≤ n) (h1 : n ≤ 4096) : chkB (newB n) = 0 ∧ ∀ i, bitN (newB n).Words i = false := ⟨chk_new h0 h1, fun _ => bit_new⟩
def covT (w : q8) (v i : Nat) : Prop := w.Volume = (v : Int) ∧ w.Start ≤ (i : Int) ∧ (i : Int) < w.Start + (w.Data.length : Int)
structure BmsOk (sizes : List Int) (d : List q10) : Prop where
  len : d.length = sizes.length
  chk : ∀ v : Nat, v < sizes.length → chkB (ix d (v : Int)) = 0 ∧ (ix d (v : Int)).Size = ix sizes (v : Int)
structure q72 (sizes : List Int) (d : List q10) (P : Nat → Nat → Prop) : Prop extends BmsOk sizes d where
  bit : ∀ v i : Nat, v < sizes.length → (i : Int) < ix sizes (v : Int) → (bitN (ix d (v : Int)).Words i = true ↔ P v i)
theorem q643 {b : q10} (h : chkB b = 0) : b.Words.length ≤ 1000 := by
  have := q211 (b := b) (by simpa using h); omega
theorem BmsOk.words {sizes : List Int} {d : List q10} (h : BmsOk sizes d) : ∀ b ∈ d, chkB b = 0 ∧ b.Words.length ≤ 1000 := fun b hb => by
  obtain ⟨k, hk, rfl⟩ := List.getElem_of_mem hb; have := (h.chk k (by have := h.len; omega)).1; rw [q24 hk] at this; exact ⟨this, q643 this⟩
theorem q605 {sizes : List Int} {v : Nat} (hv : v < sizes.length) : ix (sizes.map newB) (v : Int) = newB (ix sizes (v : Int)) := by
  rw [q24 (by rw [List.length_map]; exact hv), List.getElem_map, q24 hv]
theorem q113 {sizes : List Int} (hs : q27 sizes = 0) : q72 sizes (sizes.map newB) (fun _ _ => False) := by
  refine ⟨⟨List.length_map _, fun v hv => ?_⟩, fun v i hv _ => ?_⟩
  · have := q126 hs hv
    rw [q605 hv]; exact ⟨(q738 (by omega) (by omega)).1, rfl⟩
  · have := q126 hs hv
    rw [q605 hv, (q738 (by omega) (by omega)).2 i]; simp
theorem q212 {sizes : List Int} {w : q8} (h : fitW sizes w = 0) : ∃ v : Nat, w.Volume = (v : Int) ∧ v < sizes.length ∧ 0 ≤ w.Start ∧ 1 ≤ (w.Data.length : Int) ∧ w.Start + (w.Data.length : Int) ≤ ix sizes (v : Int) := by
  unfold fitW at h
  split at h
  · omega
  split at h
  · omega
  split at h
  · omega
  rename_i a b c; refine ⟨w.Volume.toNat, by omega, by omega, by omega, by omega, ?_⟩; rw [show ((w.Volume.toNat : Nat) : Int) = w.Volume by omega]; omega
theorem q397 {sizes : List Int} {d : List q10} (h : BmsOk sizes d) {w : q8} (hw : fitW sizes w = 0) : fitsB w.Start (w.Data.length : Int) (ix d w.Volume).Size = true := by
  obtain ⟨v, hv, hl, h0, h1, h2⟩ := q212 hw; rw [hv, (h.chk v hl).2]; exact q181.2 ⟨by omega, by omega, by omega, by omega⟩
theorem q494 {sizes : List Int} {d : List q10} (h : BmsOk sizes d) {w : q8} (hw : fitW sizes w = 0) : (setBm (ix d w.Volume) ⟨w.Start, (w.Data.length : Int)⟩).2 = 0 := by
  obtain ⟨v, hv, hl, h0, h1, h2⟩ := q212 hw; have hf := q397 h hw; rw [hv] at hf ⊢; exact (q604 (e := ⟨w.Start, (w.Data.length : Int)⟩) (h.chk v hl).1 hf).1
theorem q199 {α : Type} [Dt α] (xs : List α) {k : Nat} (x : α) (hk : k < xs.length) (j : Nat) : ix (put xs (k : Int) x) (j : Int) = if j = k then x else ix xs (j : Int) := by
  show (xs.set k x).getD j default = _; rw [List.getD_eq_getElem?_getD, List.getElem?_set]; by_cases h : k = j
  · subst h; rw [if_pos rfl, if_pos rfl, if_pos hk]; rfl
  · rw [if_neg h, if_neg (Ne.symm h)]; rw [← List.getD_eq_getElem?_getD]; rfl
theorem q170 {sizes : List Int} {d : List q10} {P : Nat → Nat → Prop} (h : q72 sizes d P) {w : q8} (hw : fitW sizes w = 0) : q72 sizes (mark1 d w) (fun v i => P v i ∨ covT w v i) := by
  obtain ⟨v0, hv, hl, h0, h1, h2⟩ := q212 hw; have hf := q397 h.toBmsOk hw; have hlen := h.len; rw [hv] at hf; obtain ⟨s1, s2, s3, s4⟩ := q604 (e := ⟨w.Start, (w.Data.length : Int)⟩) (h.chk v0 hl).1 hf
  have e : ∀ v : Nat, ix (mark1 d w) (v : Int) = if v = v0 then (setBm (ix d (v0 : Int)) ⟨w.Start, (w.Data.length : Int)⟩).1 else ix d (v : Int) := fun v => by
    unfold mark1; rw [hv, q199 _ _ (by omega)]
  have c2 := (h.chk v0 hl).2; refine ⟨⟨(q61 _ _ _).trans hlen, fun v hv' => ?_⟩, fun v i hv' hi => ?_⟩
  · rw [e v]
    by_cases hc : v = v0
    · subst hc; rw [if_pos rfl]; exact ⟨s2, s3.trans c2⟩
    · rw [if_neg hc]; exact h.chk v hv'
  · rw [e v]
    by_cases hc : v = v0
    · subst hc
      rw [if_pos rfl, s4 i (by rw [c2]; exact hi), h.bit v i hv' hi]; exact or_congr Iff.rfl ⟨fun q => ⟨hv, q.1, q.2⟩, fun q => ⟨q.2.1, q.2.2⟩⟩
    · rw [if_neg hc, h.bit v i hv' hi]
      exact ⟨fun q => .inl q, fun q => q.resolve_right fun z => hc (by have := z.1; omega)⟩
theorem q810 {sizes : List Int} {d : List q10} (h : BmsOk sizes d) {w : q8} (hw : fitW sizes w = 0) : BmsOk sizes (mark1 d w) :=
  (q170 (P := fun v i => bitN (ix d (v : Int)).Words i = true) ⟨h, fun _ _ _ _ => Iff.rfl⟩ hw).toBmsOk
theorem q316 {sizes : List Int} : ∀ {l : List q8} {d : List q10}, BmsOk sizes d → (∀ w ∈ l, fitW sizes w = 0) → BmsOk sizes (markL d l)
  | [], _, h, _ => h
  | w :: l, d, h, hf => q316 (l := l) (d := mark1 d w) (q810 h (hf w List.mem_cons_self)) fun x hx => hf x (List.mem_cons_of_mem _ hx)
theorem q353 {sizes : List Int} : ∀ {l : List q8} {d : List q10} {P : Nat → Nat → Prop}, q72 sizes d P → (∀ w ∈ l, fitW sizes w = 0) → q72 sizes (markL d l) (fun v i => P v i ∨ ∃ w ∈ l, covT w v i)
  | [], d, P, h, _ => ⟨h.toBmsOk, fun v i hv hi => (h.bit v i hv hi).trans ⟨.inl, fun q => q.resolve_right fun ⟨w, hw, _⟩ => absurd hw List.not_mem_nil⟩⟩
  | w :: l, d, P, h, hf => by
    have := q353 (l := l) (q170 h (hf w List.mem_cons_self)) fun x hx => hf x (List.mem_cons_of_mem _ hx); refine ⟨this.toBmsOk, fun v i hv hi => (this.bit v i hv hi).trans ?_⟩; constructor
    · rintro ((q | q) | ⟨x, hx, q⟩)
      · exact .inl q
      · exact .inr ⟨w, List.mem_cons_self, q⟩
      · exact .inr ⟨x, List.mem_cons_of_mem _ hx, q⟩
    · rintro (q | ⟨x, hx, q⟩)
      · exact .inl (.inl q)
      · rcases List.mem_cons.1 hx with rfl | hx
        · exact .inl (.inr q)
        · exact .inr ⟨x, hx, q⟩
structure TrkOk (t : q11) : Prop where
  hs : q27 t.Sizes = 0
  n4 : t.Peers.length ≤ 4
  bms : ∀ k : Nat, k < t.Peers.length → BmsOk t.Sizes (ix t.Peers (k : Int)).Dirty
  site : ∀ k : Nat, k < t.Peers.length → 0 ≤ (ix t.Peers (k : Int)).Site ∧ (ix t.Peers (k : Int)).Site < 4
  com : ∀ k : Nat, k < t.Peers.length → 0 ≤ (ix t.Peers (k : Int)).Common ∧ (ix t.Peers (k : Int)).Common ≤ 1073741824
  asc : ∀ i j : Nat, i < j → j < t.Peers.length → (ix t.Peers (i : Int)).Site < (ix t.Peers (j : Int)).Site
theorem q739 {d : List q10} {sizes : List Int} (h : bmsC d sizes = 0) : BmsOk sizes d := by
  unfold bmsC at h
  split at h
  · omega
  · rename_i hl
    refine ⟨by omega, fun v hv => ?_⟩; have := q29.1 h v (by omega); unfold bmsE at this
    split at this
    · rename_i q; exact absurd this q
    · rename_i q
      split at this
      · omega
      · rename_i q2; exact ⟨Classical.not_not.1 q, Classical.not_not.1 q2⟩
theorem bmsC_of {d : List q10} {sizes : List Int} (h : BmsOk sizes d) : bmsC d sizes = 0 := by
  have hl := h.len; unfold bmsC; rw [if_neg (by omega)]; refine q29.2 fun k hk => ?_; have := h.chk k (by omega); unfold bmsE; rw [if_neg (fun q => q this.1), if_neg (fun q => q this.2)]
theorem q495 {t : q11} (h : trkE t = 0) : TrkOk t := by
  unfold trkE at h
  split at h
  · rename_i q; exact absurd h q
  rename_i q
  split at h
  · omega
  have hz := q29.1 h
  have pk : ∀ k : Nat, k < t.Peers.length → (0 ≤ (ix t.Peers (k : Int)).Site ∧ (ix t.Peers (k : Int)).Site < 4) ∧ ¬ (0 < (k : Int) ∧ (ix t.Peers (k : Int)).Site ≤ (ix t.Peers ((k : Int) - 1)).Site) ∧ (0 ≤ (ix t.Peers (k : Int)).Common ∧ (ix t.Peers (k : Int)).Common ≤ 1073741824) ∧ bmsC (ix t.Peers (k : Int)).Dirty t.Sizes = 0 := fun k hk => by
    have := hz k hk; unfold peerE at this
    split at this
    · omega
    split at this
    · omega
    split at this
    · omega
    rename_i n1 n2 n3; exact ⟨by omega, n2, by omega, this⟩
  refine ⟨Classical.not_not.1 q, by omega, fun k hk => q739 (pk k hk).2.2.2, fun k hk => (pk k hk).1, fun k hk => (pk k hk).2.2.1, fun i j hij hj => ?_⟩
  induction j with
  | zero => omega
  | succ j ih =>
    have h1 := (pk (j + 1) hj).2.1; rw [show ((j + 1 : Nat) : Int) - 1 = (j : Int) by omega] at h1; rcases Nat.lt_or_ge i j with h2 | h2
    · have := ih h2 (by omega); omega
    · have : i = j := by omega
      subst this; omega
theorem q265 {t : q11} (h : TrkOk t) : trkE t = 0 := by
  have h4 := h.n4; unfold trkE; rw [if_neg (fun q => q h.hs), if_neg (by omega)]; refine q29.2 fun k hk => ?_; have h1 := h.site k hk; have h2 := h.com k hk; unfold peerE; rw [if_neg (by omega), if_neg, if_neg (by omega)]
  · exact bmsC_of (h.bms k hk)
  · rintro ⟨q1, q2⟩
    obtain ⟨j, rfl⟩ : ∃ j, k = j + 1 := ⟨k - 1, by omega⟩
    have := h.asc j (j + 1) (by omega) hk; rw [show ((j + 1 : Nat) : Int) - 1 = (j : Int) by omega] at q2; omega
theorem q811 {l : List Int} (h : ¬ q27 l ≠ 0) : l.length ≤ 8 ∧ 1 ≤ l.length ∧ ∀ k : Nat, k < l.length → 1 ≤ ix l (k : Int) ∧ ix l (k : Int) ≤ 4096 := by
  have h0 := Classical.not_not.1 h; unfold q27 at h0
  split at h0
  · omega
  · refine ⟨by omega, by omega, fun k hk => ?_⟩
    have := q29.1 h0 k hk
    split at this <;> omega
theorem q496 {sizes : List Int} {w : q8} (hs : ¬ q27 sizes ≠ 0) (h : fitW sizes w = 0) : 0 ≤ w.Volume ∧ w.Volume < (sizes.length : Int) ∧ 1 ≤ w.Data.length ∧ 0 ≤ w.Start ∧ w.Start + (w.Data.length : Int) ≤ ix sizes w.Volume ∧ ix sizes w.Volume ≤ 4096 := by
  unfold fitW at h
  split at h
  · omega
  split at h
  · omega
  split at h
  · omega
  obtain ⟨v, hv⟩ := Int.eq_ofNat_of_zero_le (show 0 ≤ w.Volume by omega); have hz := (q811 hs).2.2 v (by omega); rw [← hv] at hz; omega
theorem q606 {α : Type} [Dt α] (xs : List α) {i j : Nat} (x : α) (hi : i < xs.length) : ix (put xs (i : Int) x) (j : Int) = if j = i then x else ix xs (j : Int) := by
  show (xs.set i x).getD j default = if j = i then x else xs.getD j default; rw [List.getD_eq_getElem?_getD, List.getD_eq_getElem?_getD]; by_cases h : j = i
  · subst h; rw [List.getElem?_set_self hi, if_pos rfl]; rfl
  · rw [List.getElem?_set_ne (by omega), if_neg h]
theorem q542 {α : Type} [Dt α] {xs : List α} {i : Int} (x : α) (hi : inX i xs.length) : ix (put xs i x) i = x := by
  obtain ⟨k, rfl⟩ := Int.eq_ofNat_of_zero_le hi.1; rw [q606 xs x (by have := hi.2; omega), if_pos rfl]
theorem q812 {α : Type} [Dt α] {xs ys : List α} {s i : Nat} (h : s + ys.length ≤ xs.length) : ix (paste xs (s : Int) ys) (i : Int) = if s ≤ i ∧ i < s + ys.length then ix ys ((i : Int) - (s : Int)) else ix xs (i : Int) := by
  show (paste xs (s : Int) ys).getD i default = if _ then ys.getD ((i : Int) - (s : Int)).toNat default else xs.getD i default; unfold paste; rw [Int.toNat_natCast, List.getD_eq_getElem?_getD, List.getD_eq_getElem?_getD, List.getD_eq_getElem?_getD]; have e1 : (xs.take s).length = s := by rw [List.length_take]; omega
  have e2 : ys.take (xs.length - s) = ys := List.take_of_length_le (by omega); have e3 : min ys.length (xs.length - s) = ys.length := by omega
  rw [e2, e3]; by_cases h1 : i < s
  · rw [if_neg (by omega), List.getElem?_append_left (by omega), List.getElem?_take_of_lt h1]
  · by_cases h2 : i < s + ys.length
    · rw [if_pos (by omega), List.getElem?_append_right (by omega), e1, List.getElem?_append_left (by omega), show ((i : Int) - (s : Int)).toNat = i - s by omega]
    · rw [if_neg (by omega), List.getElem?_append_right (by omega), e1, List.getElem?_append_right (by omega), List.getElem?_drop]
      congr 2
      omega
theorem paste_len' {α : Type} {xs ys : List α} {s : Nat} (h : s ≤ xs.length) : (paste xs (s : Int) ys).length = xs.length := q240 ⟨by omega, by omega, by omega⟩
def q221 (im : List (List Sec)) (w : q8) : List (List Sec) := put im w.Volume (paste (ix im w.Volume) w.Start w.Data)
def appL (im : List (List Sec)) (l : List q8) : List (List Sec) := l.foldl q221 im
theorem q740 (im : List (List Sec)) (l : List q8) (w : q8) : appL im (l ++ [w]) = q221 (appL im l) w := by unfold appL; rw [List.foldl_append]; rfl
structure FitW (sizes : List Int) (w : q8) (v s : Nat) : Prop where
  vol : w.Volume = (v : Int)
  start : w.Start = (s : Int)
  hv : v < sizes.length
  len : 1 ≤ w.Data.length
  le : ((s + w.Data.length : Nat) : Int) ≤ ix sizes (v : Int)
  top : ix sizes (v : Int) ≤ 4096
theorem q282 {sizes : List Int} {w : q8} (hs : ¬ q27 sizes ≠ 0) (h : fitW sizes w = 0) : ∃ v s : Nat, FitW sizes w v s := by
  have := q496 hs h; obtain ⟨v, hv⟩ := Int.eq_ofNat_of_zero_le this.1; obtain ⟨s, hst⟩ := Int.eq_ofNat_of_zero_le this.2.2.2.1; rw [hv, hst] at this; exact ⟨v, s, hv, hst, by omega, by omega, by omega, by omega⟩
theorem q398 {im : List (List Sec)} {w : q8} {v s : Nat} (h : FitW (szs im) w v s) : szs (q221 im w) = szs im := by
  have hv := h.hv; rw [q98] at hv; have hle := h.le; rw [q298 hv] at hle; unfold q221; rw [h.vol, h.start]; refine q297 (by rw [q98, q98, q61]) fun k hk => ?_; rw [q98, q61] at hk; rw [q298 (by rw [q61]; exact hk), q298 hk, q606 _ _ hv]; by_cases hkv : k = v
  · rw [if_pos hkv, paste_len' (by omega), hkv]
  · rw [if_neg hkv]
theorem q607 {im : List (List Sec)} (hs : ¬ q27 (szs im) ≠ 0) : ∀ {l : List q8}, (∀ w ∈ l, fitW (szs im) w = 0) → szs (appL im l) = szs im := by
  intro l
  induction l generalizing im with
  | nil => intro _; rfl
  | cons w l ih =>
    intro h; obtain ⟨v, s, hw⟩ := q282 hs (h w (List.mem_cons_self ..)); have e := q398 hw; show szs (appL (q221 im w) l) = _; rw [ih (by rw [e]; exact hs) fun x hx => by rw [e]; exact h x (List.mem_cons_of_mem _ hx), e]
def sec (im : List (List Sec)) (v i : Nat) : Sec := ix (ix im (v : Int)) (i : Int)
def covW (w : q8) (v i : Nat) : Prop := w.Volume = (v : Int) ∧ w.Start ≤ (i : Int) ∧ (i : Int) < w.Start + (w.Data.length : Int)
instance (w : q8) (v i : Nat) : Decidable (covW w v i) := by unfold covW; infer_instance
theorem q644 {im : List (List Sec)} {w : q8} {v0 s0 : Nat} (h : FitW (szs im) w v0 s0) (v i : Nat) : sec (q221 im w) v i = if covW w v i then ix w.Data ((i : Int) - w.Start) else sec im v i := by
  have hv := h.hv; rw [q98] at hv; have hle := h.le; rw [q298 hv] at hle; have h1 := h.vol; have h2 := h.start; have hc : covW w v i ↔ v = v0 ∧ s0 ≤ i ∧ i < s0 + w.Data.length := by unfold covW; omega
  have e : sec (q221 im w) v i = ix (if v = v0 then paste (ix im (v0 : Int)) (s0 : Int) w.Data else ix im (v : Int)) (i : Int) := by
    unfold sec q221; rw [h1, h2, q606 _ _ hv]
  rw [e]; by_cases hkv : v = v0
  · rw [if_pos hkv, q812 (by omega)]
    subst hkv; by_cases hq : s0 ≤ i ∧ i < s0 + w.Data.length
    · rw [if_pos hq, if_pos (hc.2 ⟨rfl, hq⟩), h2]
    · rw [if_neg hq, if_neg (fun q => hq (hc.1 q).2)]; rfl
  · rw [if_neg hkv, if_neg (fun q => hkv (hc.1 q).1)]; rfl
theorem q813 {v i : Nat} : ∀ {l : List q8} {im : List (List Sec)}, ¬ q27 (szs im) ≠ 0 → (∀ w ∈ l, fitW (szs im) w = 0) → (∀ w ∈ l, ¬ covW w v i) → sec (appL im l) v i = sec im v i := by
  intro l
  induction l with
  | nil => intro im _ _ _; rfl
  | cons w l ih =>
    intro im hs h hn; obtain ⟨v0, s0, hw⟩ := q282 hs (h w (List.mem_cons_self ..)); have e := q398 hw; show sec (appL (q221 im w) l) v i = _; rw [ih (by rw [e]; exact hs) (fun x hx => by rw [e]; exact h x (List.mem_cons_of_mem _ hx)) fun x hx => hn x (List.mem_cons_of_mem _ hx), q644 hw, if_neg (hn w (List.mem_cons_self ..))]
theorem q814 {l : List Int} {w : q8} (hs : q27 l = 0) (h : fitW l w = 0) : w.Data.length ≤ 4096 := by
  have := q496 (by omega) h; omega
theorem q128 {l : List Sec} {Φ : List Sec → Prop} (hl : l.length ≤ 1000000) (hΦ : Φ l) : Z73 l Φ :=
  ⟨fun h => (by subst h; exact hΦ), iL hl (by omega), hΦ⟩
theorem q306 {im : List (List Sec)} {Φ : List (List Sec) → Prop} (h : imgE im = 0) (hΦ : Φ im) : Z76 im Φ := by
  have hl := q53 h; rw [q98] at hl; refine ⟨by omega, iL (by omega) (by omega), ?_⟩; refine LoopW.upT im.length (fun k => (im.take k, (k : Int))) rfl (fun k rec hk hr => ?_) fun rec => ⟨fun _ => by omega, fun _ => by rw [q32]; exact hΦ⟩
  have := q352 h k hk; refine ⟨fun _ => ⟨iX (by omega) (by omega), q128 (by omega) ⟨iL (by rw [q18, lenT (by omega)]; omega) (by omega), iI (by omega) (by omega), hr _ (by rw [q69 hk]; rfl)⟩⟩, fun _ => by omega⟩
theorem q741 {im : List (List Sec)} {l : List q8} {k : Nat} (h : k < l.length) : appL im (l.take (k + 1)) = q221 (appL im (l.take k)) (ix l (k : Int)) := by rw [q69 h, q740]
theorem q742 {im : List (List Sec)} {l : List q8} (hs : imgE im = 0) (hf : ∀ w ∈ l, fitW (szs im) w = 0) (k : Nat) : szs (appL im (l.take k)) = szs im := q607 (by rw [show q27 (szs im) = 0 from hs]; simp) fun w hw => hf w (List.mem_of_mem_take hw)
theorem q373 {im : List (List Sec)} {l : List q8} {Φ : List (List Sec) × Int × Int → Prop} (hl : l.length ≤ 1000000) (hs : imgE im = 0) (hf : ∀ w ∈ l, fitW (szs im) w = 0) (hΦ : Φ (appL im l, 0, 0)) : q96 im l Φ := by
  have h8 := q53 hs; rw [q98] at h8; refine q220 (by omega) ⟨fun q => absurd hs q, fun _ => q306 hs ?_⟩; refine LoopW.upT l.length (fun k => (appL im (l.take k), (k : Int))) rfl (fun k rec hk hr => ?_) fun rec => ⟨fun _ => by omega, fun _ => by rw [q32]; exact hΦ⟩
  have hw := hf _ (q51 (iX (i := (k : Int)) (n := l.length) (by omega) (by omega))); have e := q742 hs hf k; have hs' : imgE (appL im (l.take k)) = 0 := by unfold imgE; rw [e]; exact hs
  obtain ⟨v, s, hfw⟩ := q282 (by rw [show q27 (szs im) = 0 from hs]; simp) hw; have hv := hfw.hv; have hle := hfw.le; rw [← e, q98] at hv; rw [← e, q298 hv] at hle; refine ⟨fun _ => ⟨iX (by omega) (by omega), q264 (by have := q814 (show q27 (szs im) = 0 from hs) hw; omega) (fun j hj => Nat.le_trans (q352 hs' j hj) (by omega)) ?_⟩, fun _ => by omega⟩; rw [e, hw]; refine ⟨fun q => absurd rfl q, fun _ => ?_⟩; refine ⟨by rw [hfw.vol]; exact iX (by omega) (by omega), by rw [hfw.vol, hfw.start]; exact iS (by omega) (by omega) (by omega), iI (by omega) (by omega), hr _ (by rw [q741 hk]; rfl)⟩
theorem q38 {x lo hi : Int} {Φ : Bool → Prop} (h : Φ (decide (lo ≤ x ∧ x ≤ hi))) : q37 x lo hi Φ := by
  refine ⟨fun q => ?_, fun q => ?_⟩
  · rw [show decide (lo ≤ x ∧ x ≤ hi) = decide (x ≤ hi) from by simp [q]] at h; exact h
  · rw [show decide (lo ≤ x ∧ x ≤ hi) = false from decide_eq_false fun r => q r.1] at h; exact h
def posE (l : List Int) : Int := q71 (fun k => if ix l (k : Int) < 0 ∨ 1073741824 < ix l (k : Int) then 2 else 0) l.length
def posR (least : Int) (l : List Int) : Int := if (l.length : Int) < least ∨ 8 < (l.length : Int) then 6 else posE l
theorem q100 {l : List Int} {least : Int} {Φ : Int → Prop} (hl : l.length ≤ 100000) (hΦ : Φ (posR least l)) : Z33 l least Φ := by
  refine q38 ⟨fun q => ?_, fun q => ?_⟩
  · have := of_decide_eq_false (Bool.eq_false_iff.2 q)
    unfold posR at hΦ; rw [if_pos (by omega)] at hΦ; exact hΦ
  · have := of_decide_eq_true (Classical.not_not.1 q)
    unfold posR at hΦ; rw [if_neg (by omega)] at hΦ; refine LoopW.errI l.length (fun k => (k : Int)) _ rfl hΦ (fun k rec hk _ h1 h2 => ?_) fun rec _ h0 => ⟨fun _ => by omega, fun _ => ⟨fun _ => by omega, fun _ => h0⟩⟩
    refine ⟨fun _ => ⟨iX (by omega) (by omega), q38 ⟨fun r => ?_, fun r => ?_⟩⟩, fun _ => by omega⟩
    · have r := of_decide_eq_true r
      have r : ¬ (0 ≤ ix l (k : Int) ∧ ix l (k : Int) ≤ 1073741824) := fun t => r (decide_eq_true t); have c : ix l (k : Int) < 0 ∨ 1073741824 < ix l (k : Int) := by omega
      have := h1 (by rw [if_pos c]; omega); rw [if_pos c] at this; exact ⟨fun _ => this, fun s => by omega⟩
    · have r : ¬ ¬ (decide (0 ≤ ix l (k : Int) ∧ ix l (k : Int) ≤ 1073741824) = true) := fun t => r (decide_eq_true t)
      have r := of_decide_eq_true (Classical.not_not.1 r); exact ⟨iI (by omega) (by omega), h2 (if_neg (by omega)) _ rfl⟩
def ordW (sizes : List Int) (l : List q8) (k : Nat) : Int :=
  if fitW sizes (ix l (k : Int)) ≠ 0 then fitW sizes (ix l (k : Int)) else if k = 0 then 0 else if (ix l (k : Int)).Volume < (ix l ((k : Int) - 1)).Volume ∨ ((ix l (k : Int)).Volume = (ix l ((k : Int) - 1)).Volume ∧ (ix l (k : Int)).Start ≤ (ix l ((k : Int) - 1)).Start + ((ix l ((k : Int) - 1)).Data.length : Int)) then 3 else 0
def wrsE (sizes : List Int) (l : List q8) : Int := q71 (ordW sizes l) l.length
theorem q608 {sizes : List Int} {l : List q8} {k : Nat} (h : ordW sizes l k = 0) : fitW sizes (ix l (k : Int)) = 0 := by
  unfold ordW at h
  split at h
  · next q => exact absurd h q
  · next q => exact Classical.not_not.1 q
theorem q283 {l : List q8} {sizes : List Int} {Φ : Int → Prop} (hl : l.length ≤ 100000) (hd : ∀ w ∈ l, w.Data.length ≤ 1000000) (h0 : q27 sizes ≠ 0 → Φ (q27 sizes)) (h1 : q27 sizes = 0 → Φ (wrsE sizes l)) : Z35 l sizes Φ := by
  refine q46 (fun hs => ⟨fun q => absurd rfl q, fun _ => ?_⟩) fun hs => ⟨fun _ => h0 hs, fun q => absurd hs q⟩
  have e := q150 hs; refine LoopW.errI l.length (fun k => (k : Int)) _ rfl (h1 hs) (fun k rec hk hj g1 g2 => ⟨fun _ => ⟨iX (by omega) (by omega), ?_⟩, fun _ => by omega⟩) fun rec _ h0 => ⟨fun _ => by omega, fun _ => h0⟩
  have hmem := hd _ (q51 (iX (i := (k : Int)) (n := l.length) (by omega) (by omega))); refine q99 hmem (by unfold imgE; rw [e]; exact hs) ?_; rw [e]; unfold ordW at g1 g2; refine ⟨fun q => ?_, fun q => ?_⟩
  · rw [if_pos q] at g1; exact g1 q
  · rw [if_neg q] at g1 g2
    refine ⟨fun r => ?_, fun r => ?_⟩
    · rw [if_pos (by omega)] at g2
      exact ⟨iI (by omega) (by omega), g2 rfl _ rfl⟩
    · rw [if_neg (by omega)] at g1 g2
      have hp := q608 (hj (k - 1) (by omega)); obtain ⟨v, s, hf⟩ := q282 (by omega) hp; have z1 := hf.le; have z2 := hf.top; have z3 := hf.start; have ek : ((k - 1 : Nat) : Int) = (k : Int) - 1 := by omega
      rw [ek] at z1 z3; refine ⟨iI (by omega) (by omega), iX (by omega) (by omega), fun t => ?_, fun t => ⟨fun u => ⟨iI (by omega) (by omega), fun x => ?_, fun x => ?_⟩, fun u => ?_⟩⟩
      · rw [if_pos (.inl t)] at g1; exact g1 (by omega)
      · rw [if_pos (.inr ⟨u, x⟩)] at g1; exact g1 (by omega)
      · rw [if_neg (by omega)] at g2; exact ⟨iI (by omega) (by omega), g2 rfl _ rfl⟩
      · rw [if_neg (by omega)] at g2; exact ⟨iI (by omega) (by omega), g2 rfl _ rfl⟩
def cycE (c : q14) (sizes : List Int) : Int :=
  if q27 sizes ≠ 0 then q27 sizes else if c.Base < 0 ∨ c.Number ≤ c.Base ∨ 1073741824 < c.Number then 2 else if c.Time < 0 ∨ 1073741824 < c.Time then 24 else if posR 0 c.Positions ≠ 0 then posR 0 c.Positions else wrsE sizes c.Writes
theorem q374 {c : q14} {sizes : List Int} {Φ : Int → Prop} (hp : c.Positions.length ≤ 100000) (hl : c.Writes.length ≤ 100000) (hd : ∀ w ∈ c.Writes, w.Data.length ≤ 1000000) (hΦ : Φ (cycE c sizes)) : q168 c sizes Φ := by
  unfold cycE at hΦ; refine q46 (fun hs => ⟨fun q => absurd rfl q, fun _ => ?_⟩) fun hs => ⟨fun _ => by rw [if_pos hs] at hΦ; exact hΦ, fun q => absurd hs q⟩
  rw [if_neg (by omega)] at hΦ
  have J : ∀ b : Bool, (b = true ↔ c.Base < 0 ∨ c.Number ≤ c.Base ∨ 1073741824 < c.Number) → Z36 c sizes Φ b := fun b hb => by
    refine ⟨fun q => by rw [if_pos (hb.1 q)] at hΦ; exact hΦ, fun q => ?_⟩; rw [if_neg fun r => q (hb.2 r)] at hΦ; refine q38 ⟨fun r => ?_, fun r => ?_⟩
    · have := of_decide_eq_false (Bool.eq_false_iff.2 r)
      rw [if_pos (by omega)] at hΦ; exact hΦ
    · have := of_decide_eq_true (Classical.not_not.1 r)
      rw [if_neg (by omega)] at hΦ; refine q100 hp ⟨fun t => by rw [if_pos t] at hΦ; exact hΦ, fun t => ?_⟩; rw [if_neg t] at hΦ; exact q283 hl hd (fun u => absurd hs u) fun _ => hΦ
  exact ⟨fun q => J true ⟨fun _ => .inl q, fun _ => rfl⟩, fun q => ⟨fun r => J true ⟨fun _ => .inr (.inl r), fun _ => rfl⟩, fun r => J _ (by simp; omega)⟩⟩
theorem q21 {l : List Int} {Φ : List Int → Prop} (hl : l.length ≤ 1000000) (hΦ : Φ l) : Z8 l Φ :=
  ⟨fun h => (by subst h; exact hΦ), iL hl (by omega), hΦ⟩
theorem q266 {x lo hi : Int} {Φ : Bool → Prop} (h : Φ (decide (lo ≤ x ∧ x ≤ hi))) : Z3 x lo hi Φ := by
  refine ⟨fun q => ?_, fun q => ?_⟩
  · rw [show decide (lo ≤ x ∧ x ≤ hi) = decide (x ≤ hi) from by simp [q]] at h; exact h
  · rw [show decide (lo ≤ x ∧ x ≤ hi) = false from decide_eq_false fun r => q r.1] at h; exact h
theorem q49 {x lo hi : Int} {Φ : Bool → Prop} (h1 : ¬ (lo ≤ x ∧ x ≤ hi) → Φ false) (h2 : lo ≤ x ∧ x ≤ hi → Φ true) : Z3 x lo hi Φ := by
  refine q266 ?_; by_cases q : lo ≤ x ∧ x ≤ hi
  · rw [decide_eq_true q]; exact h2 q
  · rw [decide_eq_false q]; exact h1 q
theorem q151 {x : Int} {Φ : Bool → Prop} (h1 : x < 0 ∨ 4 ≤ x → Φ false) (h2 : ¬ (x < 0 ∨ 4 ≤ x) → Φ true) : Z4 x Φ :=
  q49 (fun q => h1 (by omega)) fun q => h2 (by omega)
theorem ff {P Q : Prop} (h : P) : (¬ (false = true) → P) ∧ (¬ (¬ (false = true)) → Q) := ⟨fun _ => h, fun q => absurd (by simp) q⟩
theorem tt {P Q : Prop} (h : Q) : (¬ (true = true) → P) ∧ (¬ (¬ (true = true)) → Q) := ⟨fun q => absurd rfl q, fun _ => h⟩
theorem fF {P Q : Prop} (h : Q) : (false = true → P) ∧ (¬ (false = true) → Q) := ⟨fun q => absurd q (by simp), fun _ => h⟩
theorem q171 {d : List q10} {sizes : List Int} {Φ : Int → Prop} (hl : sizes.length ≤ 100000) (hΦ : Φ (bmsC d sizes)) : Z15 d sizes Φ := by
  unfold bmsC at hΦ; refine ⟨fun q => by rw [if_pos q] at hΦ; exact hΦ, fun q => ?_⟩; rw [if_neg q] at hΦ; refine LoopW.errI d.length (fun k => ((k : Int), List.replicate k true)) (bmsE d sizes) rfl hΦ (fun k rec hk _ h1 h2 => ⟨fun _ => ⟨iX (by omega) (by omega), iX (by omega) (by omega), ?_⟩, fun z => absurd (show (k : Int) < (d.length : Int) by omega) z⟩) fun rec _ h => ⟨fun z => absurd (show (d.length : Int) < (d.length : Int) from z) (by omega), fun _ => h⟩
  by_cases a1 : chkB (ix d (k : Int)) ≠ 0
  · have e : bmsE d sizes k = chkB (ix d (k : Int)) := if_pos a1
    rw [e] at h1; exact ⟨(false, chkB (ix d (k : Int)), ()), q52 ⟨fun _ => rfl, fun z => absurd a1 z⟩, fun _ => h1 a1, fun z => absurd a1 z⟩
  · by_cases a2 : (ix d (k : Int)).Size ≠ ix sizes (k : Int)
    · have e : bmsE d sizes k = 22 := by unfold bmsE; rw [if_neg a1, if_pos a2]
      rw [e] at h1; exact ⟨(false, 22, ()), q52 ⟨fun z => absurd z a1, fun _ => ⟨fun _ => rfl, fun z => absurd a2 z⟩⟩, fun _ => h1 (by decide), fun z => absurd (show (22 : Int) ≠ 0 by decide) z⟩
    · have e : bmsE d sizes k = 0 := by unfold bmsE; rw [if_neg a1, if_neg a2]
      exact ⟨(true, 0, ()), q52 ⟨fun z => absurd z a1, fun _ => ⟨fun z => absurd z a2, fun _ => rfl⟩⟩, fun z => absurd rfl z, fun _ => ⟨iL (by rw [q18, List.length_replicate]; omega) (by omega), iI (by omega) (by omega), h2 e _ (Prod.ext rfl List.replicate_succ'.symm)⟩⟩
theorem q284 {t : q11} {Φ : Int → Prop} (hΦ : Φ (trkE t)) : Z17 t Φ := by
  unfold trkE at hΦ; refine q46 (fun q => ⟨fun z => absurd rfl z, fun _ => ?_⟩) fun q => ⟨fun _ => by rw [if_pos q] at hΦ; exact hΦ, fun z => absurd q z⟩
  rw [if_neg (fun z => z q)] at hΦ; refine ⟨fun q2 => by rw [if_pos q2] at hΦ; exact hΦ, fun q2 => ?_⟩; rw [if_neg q2] at hΦ; refine LoopW.errI t.Peers.length (fun k => ((if k = 0 then -1 else (ix t.Peers ((k : Int) - 1)).Site), (k : Int))) (peerE t) rfl hΦ (fun k rec hk _ h1 h2 => ?_) fun rec _ h => ⟨fun z => absurd (show (t.Peers.length : Int) < (t.Peers.length : Int) from z) (by omega), fun _ => h⟩
  have hlt : (k : Int) < (t.Peers.length : Int) := by omega
  refine ⟨fun _ => ⟨iX (by omega) hlt, q151 (fun n1 => ff ?_) fun n1 => tt ⟨fun q4 => ?_, fun q4 => ?_⟩⟩, fun z => absurd hlt z⟩
  · have e : peerE t k = 2 := if_pos n1
    rw [e] at h1; exact h1 (by decide)
  · have e : peerE t k = 8 := by
      unfold peerE; rw [if_neg n1]; by_cases h0 : k = 0
      · rw [if_pos h0] at q4; omega
      · rw [if_neg h0] at q4; rw [if_pos ⟨by omega, q4⟩]
    rw [e] at h1; exact h1 (by decide)
  · have n2 : ¬ (0 < (k : Int) ∧ (ix t.Peers (k : Int)).Site ≤ (ix t.Peers ((k : Int) - 1)).Site) := fun h => by
      rw [if_neg (show ¬ k = 0 by omega)] at q4; exact q4 h.2
    refine q49 (fun q5 => ff ?_) fun q5 => tt (q171 (by have := q53 q; omega) ?_)
    · have e : peerE t k = 2 := by unfold peerE; rw [if_neg n1, if_neg n2, if_pos (by omega)]
      rw [e] at h1; exact h1 (by decide)
    · have e : peerE t k = bmsC (ix t.Peers (k : Int)).Dirty t.Sizes := by unfold peerE; rw [if_neg n1, if_neg n2, if_neg (by omega)]
      rw [e] at h1 h2; refine ⟨fun q6 => h1 q6, fun q6 => ⟨iI (by omega) (by omega), h2 (Classical.not_not.1 q6) _ (Prod.ext ?_ rfl)⟩⟩; show (ix t.Peers (k : Int)).Site = if k + 1 = 0 then (-1 : Int) else (ix t.Peers (((k + 1 : Nat) : Int) - 1)).Site; rw [if_neg (Nat.succ_ne_zero k), show ((k + 1 : Nat) : Int) - 1 = (k : Int) by omega]
theorem q79 {t : q11} {Φ : Int → Prop} (_ : ∀ p ∈ t.Peers, p.Dirty.length ≤ 100000) (hΦ : Φ (trkE t)) : Z17 t Φ := q284 hΦ
theorem q354 {κ ν : Type} [DecidableEq κ] {k : κ} {v : ν} : ∀ {m : List (κ × ν)}, k ∉ m.map (·.1) → mput m k v = m ++ [(k, v)]
  | [], _ => rfl
  | p :: m, h => by
    have h1 : ¬ k = p.1 := fun e => h (by rw [e]; exact List.mem_cons_self); unfold mput; rw [if_neg h1, q354 fun q => h (List.mem_cons_of_mem _ q)]; rfl
theorem q399 {κ ν : Type} [DecidableEq κ] {k : κ} : ∀ {m : List (κ × ν)}, k ∉ m.map (·.1) → mfind m k = none
  | [], _ => rfl
  | p :: m, h => by
    have h1 : ¬ k = p.1 := fun e => h (by rw [e]; exact List.mem_cons_self); unfold mfind; rw [if_neg h1, q399 fun q => h (List.mem_cons_of_mem _ q)]
theorem q400 {κ ν : Type} [DecidableEq κ] {k : κ} : ∀ {m : List (κ × ν)}, k ∈ m.map (·.1) → (mfind m k).isSome = true
  | [], h => absurd h List.not_mem_nil
  | p :: m, h => by
    unfold mfind; by_cases h1 : k = p.1
    · rw [if_pos h1]; rfl
    · rw [if_neg h1]
      rcases List.mem_cons.1 h with e | e
      · exact absurd e h1
      · exact q400 e
theorem q317 {κ ν : Type} [DecidableEq κ] {k : κ} {m : List (κ × ν)} : mhas m k = true ↔ k ∈ m.map (·.1) := by
  unfold mhas; by_cases h : k ∈ m.map (·.1)
  · obtain ⟨v, hv⟩ := Option.isSome_iff_exists.1 (q400 h)
    rw [hv]; exact ⟨fun _ => h, fun _ => rfl⟩
  · rw [q399 h]; exact ⟨fun q => absurd q (by simp), fun q => absurd q h⟩
theorem q609 {κ ν : Type} [DecidableEq κ] : ∀ {m : List (κ × ν)} {p : κ × ν}, (m.map (·.1)).Nodup → p ∈ m → mfind m p.1 = some p.2
  | [], _, _, h => absurd h List.not_mem_nil
  | q :: m, p, hn, h => by
    have h1 := List.nodup_cons.1 hn; unfold mfind; rcases List.mem_cons.1 h with rfl | h
    · rw [if_pos rfl]
    · rw [if_neg fun e => h1.1 (List.mem_map.2 ⟨p, h, e⟩)]
      exact q609 h1.2 h
theorem q743 {κ ν : Type} [DecidableEq κ] {m : List (κ × ν)} {p : κ × ν} {z : ν} (hn : (m.map (·.1)).Nodup) (h : p ∈ m) : mget m p.1 z = p.2 := by
  unfold mget; rw [q609 hn h]
def keyP (p : q13) : Int × q13 := (p.Site, p)
theorem q152 (l : List q13) : (l.map keyP).map (fun p => p.1) = l.map (·.Site) := by rw [List.map_map]; rfl
theorem q610 {l : List q13} {p z : q13} (hn : (l.map (·.Site)).Nodup) (hp : p ∈ l) : mget (l.map keyP) p.Site z = p := by
  have := q743 (m := l.map keyP) (p := keyP p) (z := z) (by rw [q152]; exact hn) (List.mem_map_of_mem hp); exact this
def noTrk : q11 := ⟨[], []⟩
def badS (s : Int) : Bool := decide (s < 0 ∨ 4 ≤ s)
def siteK (sites : List Int) (k : Nat) : List Int := ((List.range k).map fun j : Nat => (j : Int)).filter fun s => decide (s ∈ sites)
def newP (sizes : List Int) (common s : Int) : q13 := ⟨s, common, sizes.map newB⟩
def newT (sizes sites : List Int) (common : Int) : q11 × Int :=
  if q27 sizes ≠ 0 then (noTrk, q27 sizes) else if 4 < (sites.length : Int) then (noTrk, 6) else if sites.any badS = true then (noTrk, 2) else if ¬ sites.Nodup then (noTrk, 8)
  else if common < 0 ∨ 1073741824 < common then (noTrk, 2) else (⟨sizes, (siteK sites 4).map (newP sizes common)⟩, 0)
theorem q355 {sites : List Int} {k : Nat} {x : Int} : x ∈ siteK sites k ↔ (0 ≤ x ∧ x < (k : Int)) ∧ x ∈ sites := by
  unfold siteK; rw [List.mem_filter, decide_eq_true_iff]; refine and_congr ⟨fun h => ?_, fun h => ?_⟩ Iff.rfl
  · obtain ⟨j, hj, rfl⟩ := List.mem_map.1 h
    have := List.mem_range.1 hj; omega
  · exact List.mem_map.2 ⟨x.toNat, List.mem_range.2 (by omega), by omega⟩
theorem q497 (sites : List Int) (k : Nat) : (siteK sites k).Pairwise fun a b => a < b := by
  unfold siteK; refine List.Pairwise.filter _ (List.pairwise_map.2 (List.pairwise_lt_range.imp fun h => by omega))
theorem q645 (sites : List Int) (k : Nat) : siteK sites (k + 1) = siteK sites k ++ (if (k : Int) ∈ sites then [(k : Int)] else []) := by
  unfold siteK; rw [List.range_succ, List.map_append, List.filter_append]
  congr 1
  by_cases h : (k : Int) ∈ sites <;> simp [h]
theorem q356 (sites : List Int) : ∀ k : Nat, (siteK sites k).length ≤ k
  | 0 => Nat.le_refl _
  | k + 1 => by
    rw [q645, List.length_append]; have := q356 sites k
    split
    · rw [List.length_singleton]; omega
    · rw [List.length_nil]; omega
theorem q646 {sites : List Int} (hb : ∀ s ∈ sites, badS s = false) (hn : sites.Nodup) : sortZ sites = siteK sites 4 := by
  refine q736 (q809 hn) (q497 _ _) fun x => ?_; rw [q737, q355]; refine ⟨fun h => ⟨?_, h⟩, fun h => h.2⟩; have := of_decide_eq_false (hb x h); omega
theorem q141 {sizes sites : List Int} {common : Int} {Φ : q11 × Int → Prop} (hΦ : Φ (newT sizes sites common)) : q93 sizes sites common Φ := by
  unfold newT at hΦ; refine q46 (fun q => ⟨fun z => absurd rfl z, fun _ => ?_⟩) fun q => ⟨fun _ => by rw [if_pos q] at hΦ; exact hΦ, fun z => absurd q z⟩
  rw [if_neg (fun z => z q)] at hΦ; refine ⟨fun q2 => by rw [if_pos q2] at hΦ; exact hΦ, fun q2 => ?_⟩; rw [if_neg q2] at hΦ; refine LoopW.anyL sites badS (Φ := fun b => (b = true → Φ (noTrk, 2)) ∧ (b = false → LoopW (Z10 sizes sites common Φ) (0, ([] : List (Int × q13))))) ⟨fun z => by rw [if_pos z] at hΦ; exact hΦ, fun z => ?_⟩ (fun k rec hk h1 h2 => ⟨fun _ => ⟨iX (by omega) (by omega), q151 (fun n => ff ((h1 (decide_eq_true n)).1 rfl)) fun n => tt ⟨iI (by omega) (by omega), h2 (decide_eq_false n)⟩⟩, fun q => absurd (show (k : Int) < (sites.length : Int) by omega) q⟩) fun rec h => ⟨fun q => absurd q (by omega), fun _ => h.2 rfl⟩
  rw [if_neg (by rw [z]; simp)] at hΦ
  have hb : ∀ s ∈ sites, badS s = false := fun s hs => by
    cases hx : badS s with
    | false => rfl
    | true => rw [List.any_eq_true.2 ⟨s, hs, hx⟩] at z; cases z
  have hs := q53 q; refine LoopW.upI sites.length (fun k => ((k : Int), (sites.take k).map fun s => (s, newP sizes common s))) (fun k => (sites.take k).Nodup) rfl (by simp) (fun k rec hk hI hrec => ?_) fun rec hI => ?_
  · have hkey : ((sites.take k).map fun s => (s, newP sizes common s)).map (·.1) = sites.take k := by rw [List.map_map]; exact List.map_id' _
    refine ⟨fun _ => ⟨iX (by omega) (by omega), fun hh => ?_, fun hh => q175 (by omega) (fun j hj => by have := q126 q hj; omega) ⟨fun z => absurd rfl z, fun _ => ⟨iI (by omega) (by omega), ?_⟩⟩⟩, fun q => absurd (show (k : Int) < (sites.length : Int) by omega) q⟩
    · have hh := q317.1 hh
      rw [hkey] at hh; rw [if_pos fun hn => ?_] at hΦ
      · exact hΦ
      · have h3 : (sites.take (k + 1)).Nodup := hn.sublist (List.take_sublist _ _)
        rw [q69 hk] at h3; have := (List.nodup_append.1 h3).2.2 _ hh _ (List.mem_singleton.2 rfl); exact this rfl
    · have hh : ix sites (k : Int) ∉ sites.take k := fun h => hh (q317.2 (by rw [hkey]; exact h))
      refine hrec ?_ _ (Prod.ext rfl ?_)
      · rw [q69 hk]
        exact List.nodup_append.2 ⟨hI, List.nodup_cons.2 ⟨List.not_mem_nil, List.nodup_nil⟩, fun a ha b hb e => hh (by rw [List.mem_singleton.1 hb] at e; rw [← e]; exact ha)⟩
      · rw [q35 _ hk]
        exact q354 (by rw [hkey]; exact hh)
  · rw [q32] at hI ⊢
    rw [if_neg (fun z => z hI)] at hΦ; have hkey : (sites.map fun s => (s, newP sizes common s)).map (fun p => p.1) = sites := by rw [List.map_map]; exact List.map_id' _
    refine ⟨fun z => absurd (show (sites.length : Int) < (sites.length : Int) from z) (by omega), fun _ => q49 (fun q5 => ff (by rw [if_pos (by omega)] at hΦ; exact hΦ)) fun q5 => tt (q21 (by omega) ⟨by rw [hkey]; exact hI, fun p hp => ?_, iL (by rw [List.length_map]; omega) (by omega), ?_⟩)⟩
    · obtain ⟨s, hs, rfl⟩ := List.mem_map.1 hp
      have := of_decide_eq_false (hb s hs); exact iI (by show -9223372036854775808 ≤ s; omega) (by show s ≤ 9223372036854775807; omega)
    · rw [if_neg (show ¬ (common < 0 ∨ 1073741824 < common) by omega)] at hΦ
      have hks : sortZ ((sites.map fun s => (s, newP sizes common s)).map fun p => p.1) = siteK sites 4 := by rw [hkey]; exact q646 hb hI
      have hl4 := q356 sites 4; generalize hz : Z9 (sites.map fun s => (s, newP sizes common s)) sizes Φ = step; have hstep : ∀ s rec, step s rec = Z9 (sites.map fun s => (s, newP sizes common s)) sizes Φ s rec := fun s rec => by rw [hz]
      refine LoopW.upT (siteK sites 4).length (fun k => ((k : Int), ((siteK sites 4).take k).map (newP sizes common))) rfl (fun k rec hk hrec => ?_) fun rec => ?_
      · rw [hstep]
        have hm : ix (siteK sites 4) (k : Int) ∈ sites := (q355.1 (q51 (iX (show (0 : Int) ≤ (k : Int) by omega) (by omega)))).2
        have hg : mget (sites.map fun s => (s, newP sizes common s)) (ix (siteK sites 4) (k : Int)) (q13.mk 0 0 ([] : List q10)) = newP sizes common (ix (siteK sites 4) (k : Int)) :=
          q743 (m := sites.map fun s => (s, newP sizes common s)) (p := (ix (siteK sites 4) (k : Int), newP sizes common (ix (siteK sites 4) (k : Int)))) (by rw [List.map_map]; exact (List.map_id' sites).symm ▸ hI) (List.mem_map.2 ⟨_, hm, rfl⟩)
        unfold Z9; simp only; rw [hks, hg]; exact ⟨fun _ => ⟨iX (by omega) (by omega), iL (by rw [q18, List.length_map, lenT (Nat.le_of_lt hk)]; omega) (by omega), iI (by omega) (by omega), hrec _ (Prod.ext rfl (q35 _ hk).symm)⟩, fun q => absurd (show (k : Int) < ((siteK sites 4).length : Int) by omega) q⟩
      · rw [hstep]
        unfold Z9; simp only; rw [hks, q32]; exact ⟨fun q => absurd q (by omega), fun _ => hΦ⟩
theorem q744 {sizes : List Int} (h : q27 sizes = 0) (k : Nat) (hk : k < sizes.length) : 0 ≤ ix sizes (k : Int) ∧ ix sizes (k : Int) ≤ 4096 := by
  have := q126 h hk; omega
theorem TrkOk.small {t : q11} (h : TrkOk t) : t.Sizes.length ≤ 8 ∧ t.Peers.length ≤ 4 ∧ ∀ p ∈ t.Peers, p.Dirty.length ≤ 8 ∧ ∀ b ∈ p.Dirty, b.Words.length ≤ 1000 := by
  have h8 := q53 h.hs; refine ⟨h8.2, h.n4, fun p hp => ?_⟩; obtain ⟨k, hk, rfl⟩ := List.getElem_of_mem hp; have hb := h.bms k hk; rw [q24 hk] at hb; exact ⟨by have := hb.len; omega, fun b hb' => (hb.words b hb').2⟩
theorem TrkOk.dirty {t : q11} (h : TrkOk t) {p : q13} (hp : p ∈ t.Peers) : BmsOk t.Sizes p.Dirty := by
  obtain ⟨k, hk, rfl⟩ := List.getElem_of_mem hp; have hb := h.bms k hk; rwa [q24 hk] at hb
theorem TrkOk.sites {t : q11} (h : TrkOk t) : (t.Peers.map (·.Site)).Pairwise fun a b => a < b := by
  rw [List.pairwise_map]; refine List.pairwise_iff_getElem.2 fun i j hi hj hij => ?_; have := h.asc i j hij hj; rwa [q24 hi, q24 hj] at this
theorem q357 {l : List Int} (h : l.Pairwise fun a b => a < b) : l.Nodup := h.imp fun q => by omega
theorem q375 {b : q10} {Φ : q10 → Prop} (hl : b.Words.length ≤ 1000000) (hΦ : Φ b) : q166 b Φ := ⟨(b.Words, ()), q261 hl rfl, hΦ⟩
theorem q104 {d : List q10} {Φ : List q10 → Prop} (hl : d.length ≤ 100000) (hw : ∀ b ∈ d, b.Words.length ≤ 1000000) (hΦ : Φ d) : Z22 d Φ := by
  refine LoopW.upT d.length (fun k => ((k : Int), d.take k)) rfl (fun k rec hk hrec => ⟨fun _ => ⟨iX (by omega) (by omega), q375 (hw _ (q51 (iX (by omega) (by omega)))) ⟨iL (by rw [q18, lenT (Nat.le_of_lt hk)]; omega) (by omega), iI (by omega) (by omega), hrec _ (Prod.ext rfl (q69 hk).symm)⟩⟩, fun q => absurd (show (k : Int) < (d.length : Int) by omega) q⟩) fun rec => ⟨fun q => absurd (show (d.length : Int) < (d.length : Int) from q) (by omega), fun _ => ?_⟩
  rw [q32]; exact hΦ
def fndK (l : List q13) (n : Int) : Nat := l.findIdx fun p => decide (p.Site = n)
theorem q445 {l : List q13} {n : Int} (h : fndK l n < l.length) : (ix l (fndK l n : Int)).Site = n := by
  rw [q24 h]; exact of_decide_eq_true (List.findIdx_getElem (w := h))
theorem q815 {l : List q13} {n : Int} : fndK l n < l.length ↔ n ∈ l.map (·.Site) := by
  constructor
  · intro h
    exact List.mem_map.2 ⟨_, q51 (iX (show (0 : Int) ≤ (fndK l n : Int) by omega) (by omega)), q445 h⟩
  · intro h
    obtain ⟨p, hp, e⟩ := List.mem_map.1 h; exact List.findIdx_lt_length_of_exists ⟨p, hp, decide_eq_true e⟩
def q66 (t : q11) (n : Int) : List q10 × Int × Int :=
  if trkE t ≠ 0 then ([], 0, trkE t) else if fndK t.Peers n < t.Peers.length then ((ix t.Peers (fndK t.Peers n : Int)).Dirty, (ix t.Peers (fndK t.Peers n : Int)).Common, 0) else ([], 0, 7)
theorem q498 {l : List q13} {k : Nat} (hk : k < l.length) (hn : (l.map (·.Site)).Nodup) : mput ((l.take k).map keyP) (ix l (k : Int)).Site (ix l (k : Int)) = (l.take (k + 1)).map keyP := by
  rw [q354]
  · rw [q35 keyP hk]; rfl
  · rw [q152]
    intro h; have h2 : ((l.take (k + 1)).map (·.Site)).Nodup := hn.sublist ((List.take_sublist _ _).map _); rw [q35 (·.Site) hk] at h2; exact (List.nodup_append.1 h2).2.2 _ h _ (List.mem_singleton.2 rfl) rfl
theorem q499 {l : List q13} {n : Int} (hn : (l.map (·.Site)).Nodup) (h : fndK l n < l.length) (z : q13) : mget (l.map keyP) n z = ix l (fndK l n : Int) := by
  have := q610 (z := z) hn (q51 (iX (show (0 : Int) ≤ (fndK l n : Int) by omega) (by omega))); rwa [q445 h] at this
theorem q267 {l : List q13} {n : Int} : mhas (l.map keyP) n = true ↔ fndK l n < l.length := by
  rw [q317, q815]; show n ∈ (l.map keyP).map (fun p => p.1) ↔ _; rw [q152]
theorem q80 {t : q11} {n : Int} {Φ : List q10 × Int × Int → Prop} (hd : ∀ p ∈ t.Peers, p.Dirty.length ≤ 100000) (hΦ : Φ (q66 t n)) : Z30 t n Φ := by
  unfold q66 at hΦ; refine q79 hd ⟨fun q => by rw [if_pos q] at hΦ; exact hΦ, fun q => ?_⟩; rw [if_neg q] at hΦ; have h := q495 (Classical.not_not.1 q); obtain ⟨h8, h4, hs⟩ := h.small; have hn := q357 h.sites; refine LoopW.upT t.Peers.length (fun k => ((k : Int), (t.Peers.take k).map keyP)) rfl (fun k rec hk hrec => ?_) fun rec => ⟨fun z => absurd (show (t.Peers.length : Int) < (t.Peers.length : Int) from z) (by omega), fun _ => ?_⟩
  · have hp := hs _ (q51 (xs := t.Peers) (i := (k : Int)) (iX (by omega) (by omega)))
    exact ⟨fun _ => ⟨iX (by omega) (by omega), q104 (by omega) (fun b hb => by have := hp.2 b hb; omega) ⟨iI (by omega) (by omega), hrec _ (Prod.ext rfl (q498 hk hn))⟩⟩, fun z => absurd (show (k : Int) < (t.Peers.length : Int) by omega) z⟩
  · rw [q32]
    refine ⟨fun z => ?_, fun z => ?_⟩
    · rw [if_neg fun q2 => z (q267.2 q2)] at hΦ; exact hΦ
    · have z := q267.1 (Classical.not_not.1 z)
      rw [if_pos z] at hΦ; rw [q499 hn z]; exact hΦ
theorem q268 {l : List q13} (h : (l.map (·.Site)).Pairwise fun a b => a < b) : sortZ ((l.map keyP).map fun p => p.1) = l.map (·.Site) := by rw [q152]; exact q493 h
theorem q299 {α β : Type} [Dt α] [Dt β] (f : α → β) {l : List α} {k : Nat} (hk : k < l.length) : ix (l.map f) (k : Int) = f (ix l (k : Int)) := by
  rw [q24 (by rw [List.length_map]; exact hk), List.getElem_map, q24 hk]
theorem q872 {l : List q13} {k : Nat} (hn : (l.map (·.Site)).Nodup) (hk : k < l.length) (z : q13) : mget (l.map keyP) (ix (l.map (·.Site)) (k : Int)) z = ix l (k : Int) := by
  rw [q299 (·.Site) hk]; exact q610 hn (q51 (iX (by omega) (by omega)))
def markP (w : q8) (p : q13) : q13 := ⟨p.Site, p.Common, markL p.Dirty [w]⟩
def q358 (t : q11) (w : q8) : q11 × Int :=
  if trkE t ≠ 0 then (noTrk, trkE t) else if fitW t.Sizes w ≠ 0 then (noTrk, fitW t.Sizes w) else (⟨t.Sizes, t.Peers.map (markP w)⟩, 0)
theorem q816 {t : q11} {w : q8} (h : TrkOk t) (hw : fitW t.Sizes w = 0) : TrkOk ⟨t.Sizes, t.Peers.map (markP w)⟩ := by
  have e : ∀ k : Nat, k < t.Peers.length → ix (t.Peers.map (markP w)) (k : Int) = markP w (ix t.Peers (k : Int)) := fun k hk => q299 _ hk; have hl : (t.Peers.map (markP w)).length = t.Peers.length := List.length_map _; refine ⟨h.hs, by rw [hl]; exact h.n4, fun k hk => ?_, fun k hk => ?_, fun k hk => ?_, fun i j hij hj => ?_⟩
  · rw [hl] at hk; rw [e k hk]
    exact q316 (l := [w]) (h.bms k hk) fun x hx => by rw [List.mem_singleton.1 hx]; exact hw
  · rw [hl] at hk; rw [e k hk]; exact h.site k hk
  · rw [hl] at hk; rw [e k hk]; exact h.com k hk
  · rw [hl] at hj; rw [e i (by omega), e j hj]; exact h.asc i j hij hj
abbrev EntD := (Int × q13) × List q10
def dE (p : q13) : EntD := ((p.Site, ⟨p.Site, p.Common, []⟩), p.Dirty)
def closeD (p : EntD) : Int × q13 := (p.1.1, ⟨p.1.2.Site, p.1.2.Common, p.2⟩)
theorem q817 (l : List q13) : (l.map dE).map closeD = l.map keyP := by rw [List.map_map]; rfl
theorem keys_dE (l : List q13) : (l.map dE).map (fun p => p.1) = l.map fun p => (p.Site, (⟨p.Site, p.Common, []⟩ : q13)) := by rw [List.map_map]; rfl
def seenL (w : q8) (l : List q13) (seen : List Nat) : List q13 := l.mapIdx fun i p => if i ∈ seen then markP w p else p
theorem q39 (w : q8) (l : List q13) (seen : List Nat) : (seenL w l seen).length = l.length := List.length_mapIdx
theorem q172 {w : q8} {l : List q13} {seen : List Nat} {k : Nat} (hk : k < l.length) : ix (seenL w l seen) (k : Int) = if k ∈ seen then markP w (ix l (k : Int)) else ix l (k : Int) := by
  rw [q24 (by rw [q39]; exact hk), q24 hk]; unfold seenL; rw [List.getElem_mapIdx]
theorem q745 (w : q8) (l : List q13) : seenL w l [] = l := by
  refine q297 (q39 _ _ _) fun k hk => ?_; rw [q39] at hk; rw [q172 hk, if_neg List.not_mem_nil]
theorem q746 {w : q8} {l : List q13} {seen : List Nat} (h : ∀ i, i < l.length → i ∈ seen) : seenL w l seen = l.map (markP w) := by
  refine q297 (by rw [q39, List.length_map]) fun k hk => ?_; rw [q39] at hk; rw [q172 hk, if_pos (h k hk), q299 _ hk]
theorem q747 {w : q8} {l : List q13} {seen : List Nat} {k : Nat} (hk : k < l.length) : (seenL w l seen).set k (markP w (ix l (k : Int))) = seenL w l (k :: seen) := by
  refine q297 (by rw [List.length_set, q39, q39]) fun j hj => ?_; rw [List.length_set, q39] at hj; rw [← q735, q199 _ _ (by rw [q39]; exact hk), q172 hj, q172 hj]; by_cases e : j = k
  · subst e; rw [if_pos rfl, if_pos List.mem_cons_self]
  · rw [if_neg e]
    by_cases h : j ∈ seen
    · rw [if_pos h, if_pos (List.mem_cons_of_mem _ h)]
    · rw [if_neg h, if_neg fun q => (List.mem_cons.1 q).elim e h]
theorem q543 (w : q8) (l : List q13) (seen : List Nat) : (seenL w l seen).map (·.Site) = l.map (·.Site) := by
  refine List.ext_getElem (by rw [List.length_map, List.length_map, q39]) fun i h1 h2 => ?_; rw [List.length_map, q39] at h1; rw [List.getElem_map, List.getElem_map]; have := q172 (w := w) (seen := seen) h1; rw [q24 (by rw [q39]; exact h1), q24 h1] at this; rw [this]
  split <;> rfl
theorem q544 {l : List q13} {k : Nat} (hk : k < l.length) : entD (l.map dE) k = dE (ix l (k : Int)) := by
  unfold entD; rw [List.getD_eq_getElem?_getD, List.getElem?_eq_getElem (by rw [List.length_map]; exact hk), List.getElem_map, q24 hk]; rfl
theorem q748 : ∀ {n : Nat} {seen : List Nat}, seen.Nodup → (∀ i ∈ seen, i < n) → seen.length ≤ n := by
  intro n
  induction n with
  | zero => intro seen _ h; cases seen with
    | nil => exact Nat.le_refl _
    | cons a r => exact absurd (h a List.mem_cons_self) (Nat.not_lt_zero _)
  | succ n ih =>
    intro seen hn h
    have h1 : (seen.erase n).length ≤ n := ih (hn.erase n) fun i hi => by
      have := h i (List.mem_of_mem_erase hi); have : i ≠ n := fun e => (hn.mem_erase_iff.1 hi).1 e; omega
    have := List.length_erase (a := n) (l := seen)
    split at this <;> omega
theorem q81 {t : q11} {w : q8} {Φ : q11 × Int → Prop} (hd : ∀ p ∈ t.Peers, p.Dirty.length ≤ 100000) (hw : w.Data.length ≤ 1000000) (hΦ : Φ (q358 t w)) : Z28 t w Φ := by
  unfold q358 at hΦ; refine q79 hd ⟨fun q => by rw [if_pos q] at hΦ; exact hΦ, fun q => ?_⟩; rw [if_neg q] at hΦ; have h := q495 (Classical.not_not.1 q); obtain ⟨h8, h4, hs⟩ := h.small; have hn := q357 h.sites; refine q46 (fun q1 => ⟨fun z => absurd rfl z, fun _ => ?_⟩) fun q1 => absurd h.hs q1; have hz : szs (zeroI t.Sizes) = t.Sizes := q150 h.hs; refine q99 hw (by show q27 (szs (zeroI t.Sizes)) = 0; rw [hz]; exact h.hs) ?_; show (fitW (szs (zeroI t.Sizes)) w ≠ 0 → Φ (noTrk, fitW (szs (zeroI t.Sizes)) w)) ∧ _; rw [hz]; refine ⟨fun q2 => by rw [if_pos q2] at hΦ; exact hΦ, fun q2 => ?_⟩; rw [if_neg q2] at hΦ; have hf := Classical.not_not.1 q2; obtain ⟨v, hv, hvl, _⟩ := q212 hf; refine LoopW.upT t.Peers.length (fun k => ((k : Int), (t.Peers.take k).map dE)) rfl (fun k rec hk hrec => ?_) fun rec => ⟨fun z => absurd (show (t.Peers.length : Int) < (t.Peers.length : Int) from z) (by omega), fun _ => ?_⟩
  · have hp := hs _ (q51 (xs := t.Peers) (i := (k : Int)) (iX (by omega) (by omega)))
    refine ⟨fun _ => ⟨iX (by omega) (by omega), q104 (by omega) (fun b hb => by have := hp.2 b hb; omega) ⟨?_, iI (by omega) (by omega), hrec _ (Prod.ext rfl (q35 dE hk).symm)⟩⟩, fun z => absurd (show (k : Int) < (t.Peers.length : Int) by omega) z⟩; rw [Bool.eq_false_iff]; intro hh; have hh := q317.1 hh; rw [keys_dE, List.map_map] at hh; have h2 : ((t.Peers.take (k + 1)).map (·.Site)).Nodup := hn.sublist ((List.take_sublist _ _).map _); rw [q35 (·.Site) hk] at h2; exact (List.nodup_append.1 h2).2.2 _ hh _ (List.mem_singleton.2 rfl) rfl
  · rw [q32]
    refine LoopW.of_inv (fun s => ∃ seen : List Nat, s = ((t.Peers.length, seen), (seenL w t.Peers seen).map dE) ∧ seen.Nodup ∧ ∀ i ∈ seen, i < t.Peers.length) (fun s => t.Peers.length - s.1.2.length) ?_ ⟨[], by rw [q745, List.length_map], List.nodup_nil, fun i hi => absurd hi List.not_mem_nil⟩
    rintro _ rec ⟨seen, rfl, hsn, hsl⟩ hrec
    have hlen : ((seenL w t.Peers seen).map dE).length = t.Peers.length := by rw [List.length_map, q39]
    have hsite := q543 w t.Peers seen; refine ⟨hlen, fun hall => ?_, fun i hi hni => ⟨hlen, hi, rfl, ?_⟩⟩
    · rw [hlen] at hall
      have hm := q746 (w := w) hall; rw [hm] at hsite ⊢; have e1 : (((t.Peers.map (markP w)).map dE).map fun p => (p.1.1, (q13.mk p.1.2.Site p.1.2.Common p.2))) = (t.Peers.map (markP w)).map keyP := q817 _; have hks : ((t.Peers.map (markP w)).map (·.Site)).Pairwise fun a b => a < b := by rw [hsite]; exact h.sites
      refine q21 (by omega) ⟨fun _ _ => rfl, ?_, ?_, ?_, ?_⟩
      · rw [e1, q152, hsite]; exact hn
      · rw [e1]
        intro p hp; obtain ⟨x, hx, rfl⟩ := List.mem_map.1 hp; obtain ⟨y, hy, rfl⟩ := List.mem_map.1 hx; obtain ⟨k, hk, rfl⟩ := List.getElem_of_mem hy; have := h.site k hk; rw [q24 hk] at this; exact iI (by show -9223372036854775808 ≤ (t.Peers[k]).Site; omega) (by show (t.Peers[k]).Site ≤ 9223372036854775807; omega)
      · rw [e1]; exact iL (by rw [List.length_map, List.length_map]; omega) (by omega)
      · have hl2 : ((t.Peers.map (markP w)).map (·.Site)).length = t.Peers.length := by rw [List.length_map, List.length_map]
        refine LoopW.upT t.Peers.length (fun k => ((k : Int), (t.Peers.take k).map (markP w))) rfl (fun k rec2 hk hrec2 => ?_) fun rec2 => ?_
        · unfold Z24
          simp only; rw [e1, q268 hks, q872 (hsite ▸ hn) (by rw [List.length_map]; exact hk), q299 _ hk]; exact ⟨fun _ => ⟨iX (by omega) (by omega), iL (by rw [q18, List.length_map, lenT (Nat.le_of_lt hk)]; omega) (by omega), iI (by omega) (by omega), hrec2 _ (Prod.ext rfl (q35 _ hk).symm)⟩, fun z => absurd (show (k : Int) < (((t.Peers.map (markP w)).map (·.Site)).length : Int) by omega) z⟩
        · unfold Z24
          simp only; rw [e1, q268 hks, q32]; exact ⟨fun z => absurd z (by omega), fun _ => hΦ⟩
    · rw [hlen] at hi
      have hx := q172 (w := w) (seen := seen) hi; rw [if_neg hni] at hx; have hb := h.bms i hi; have hin : inX v (ix t.Peers (i : Int)).Dirty.length := iX (by omega) (by have := hb.len; omega); have hml := q61 (ix t.Peers (i : Int)).Dirty w.Volume (setBm (ix (ix t.Peers (i : Int)).Dirty w.Volume) ⟨w.Start, (w.Data.length : Int)⟩).1; have hse := q494 hb hf; rw [q544 (by rw [q39]; exact hi), hx]; refine LoopW.upI 1 (fun k => ((k : Int), if k = 0 then (ix t.Peers (i : Int)).Dirty else markL (ix t.Peers (i : Int)).Dirty [w])) (fun _ => True) rfl trivial (fun k rec2 hk _ hrec2 => ?_) fun rec2 _ => ⟨fun z => absurd (show ((1 : Nat) : Int) < 1 from z) (by omega), fun _ => ⟨fun z => absurd rfl z, fun _ => ?_⟩⟩
      · obtain rfl : k = 0 := by omega
        refine ⟨fun _ => ⟨iX (by omega) (by show ((0 : Nat) : Int) < ((1 : Nat) : Int); omega), by show inX w.Volume _; rw [hv]; exact hin, ((setBm (ix (ix t.Peers (i : Int)).Dirty w.Volume) ⟨w.Start, (w.Data.length : Int)⟩).1, (setBm (ix (ix t.Peers (i : Int)).Dirty w.Volume) ⟨w.Start, (w.Data.length : Int)⟩).2, ()), q262 rfl, fun z => absurd hse z, fun _ => ⟨by show inX w.Volume _; rw [hv]; exact hin, iI (by omega) (by omega), hrec2 trivial _ rfl⟩⟩, fun z => absurd (show ((0 : Nat) : Int) < ((1 : Nat) : Int) by omega) z⟩
      · have eD : entD ((seenL w t.Peers seen).map dE) i = dE (ix t.Peers (i : Int)) := by rw [q544 (by rw [q39]; exact hi), hx]
        refine ⟨by rw [hlen]; exact hi, rfl, fun j hj => ?_, hrec _ ⟨i :: seen, ?_, List.nodup_cons.2 ⟨hni, hsn⟩, fun a ha => (List.mem_cons.1 ha).elim (fun e => by rw [e]; exact hi) (hsl a)⟩ ?_⟩
        · rw [eD, q544 (by rw [q39]; omega)]
          show (ix (seenL w t.Peers seen) (j : Int)).Site ≠ (ix t.Peers (i : Int)).Site; rw [q172 (by omega)]; have := h.asc j i hj hi
          split
          · show (ix t.Peers (j : Int)).Site ≠ _; omega
          · omega
        · rw [eD]
          refine Prod.ext rfl ?_; show ((seenL w t.Peers seen).map dE).set i (dE (markP w (ix t.Peers (i : Int)))) = _; rw [← q747 hi, List.map_set]
        · have this : (i :: seen).length ≤ t.Peers.length := q748 (List.nodup_cons.2 ⟨hni, hsn⟩) fun a ha => (List.mem_cons.1 ha).elim (fun e => by rw [e]; exact hi) (hsl a)
          rw [List.length_cons] at this; show t.Peers.length - (seen.length + 1) < t.Peers.length - seen.length; exact Nat.sub_lt_sub_left (by omega) (by omega)
theorem q446 {c : q14} {sizes : List Int} (h : cycE c sizes = 0) : ∀ w ∈ c.Writes, fitW sizes w = 0 := fun w hw => by
  unfold cycE at h
  split at h
  · rename_i q; exact absurd h q
  split at h
  · omega
  split at h
  · omega
  split at h
  · rename_i q; exact absurd h q
  unfold wrsE at h; obtain ⟨k, hk, rfl⟩ := List.getElem_of_mem hw; have := q608 (q29.1 h k hk); rwa [q24 hk] at this
def agrF (sizes : List Int) : Int → List q10 → List q14 → List q10 × Int
  | _, d, [] => (d, 0)
  | a, d, c :: r => if cycE c sizes ≠ 0 then ([], cycE c sizes) else if c.Base ≠ a then ([], 15) else agrF sizes c.Number (markL d c.Writes) r
theorem q500 (sizes : List Int) (a : Int) (d : List q10) (c : q14) (r : List q14) : agrF sizes a d (c :: r) = if cycE c sizes ≠ 0 then ([], cycE c sizes) else if c.Base ≠ a then ([], 15) else agrF sizes c.Number (markL d c.Writes) r := rfl
theorem q818 {sizes : List Int} {later : List q14} {Ψ : List q10 × Int → Prop} {step : (Int × Int × List q10) → ((Int × Int × List q10) → Prop) → Prop} {a0 : Int} {d0 : List q10}
    (h1 : ∀ (k : Nat) (a : Int) (d : List q10) rec, k < later.length → BmsOk sizes d → (cycE (ix later (k : Int)) sizes ≠ 0 → Ψ ([], cycE (ix later (k : Int)) sizes)) → (¬ cycE (ix later (k : Int)) sizes ≠ 0 → (ix later (k : Int)).Base ≠ a → Ψ ([], 15)) → (¬ cycE (ix later (k : Int)) sizes ≠ 0 → ¬ (ix later (k : Int)).Base ≠ a → rec ((ix later (k : Int)).Number, (k : Int) + 1, markL d (ix later (k : Int)).Writes)) → step (a, (k : Int), d) rec)
    (h2 : ∀ (a : Int) (d : List q10) rec, BmsOk sizes d → Ψ (d, 0) → step (a, (later.length : Int), d) rec) (hb : BmsOk sizes d0) (hΨ : Ψ (agrF sizes a0 d0 later)) : LoopW step (a0, 0, d0) := by
  refine LoopW.of_inv (fun s => ∃ (k : Nat) (a : Int) (d : List q10), s = (a, (k : Int), d) ∧ k ≤ later.length ∧ BmsOk sizes d ∧ Ψ (agrF sizes a d (later.drop k))) (fun s => later.length - s.2.1.toNat) ?_ ⟨0, a0, d0, rfl, Nat.zero_le _, hb, hΨ⟩
  rintro _ rec ⟨k, a, d, rfl, hk, hbd, hΨ⟩ hrec
  rcases Nat.lt_or_ge k later.length with hlt | hge
  · rw [q734 hlt, q500] at hΨ
    refine h1 k a d rec hlt hbd (fun q => by rw [if_pos q] at hΨ; exact hΨ) (fun q q2 => by rw [if_neg q, if_pos q2] at hΨ; exact hΨ) fun q q2 => ?_; rw [if_neg q, if_neg q2] at hΨ; refine hrec _ ⟨k + 1, _, _, rfl, hlt, q316 hbd (q446 (Classical.not_not.1 q)), hΨ⟩ ?_; show later.length - ((k : Int) + 1).toNat < later.length - ((k : Int)).toNat; omega
  · obtain rfl : k = later.length := by omega
    rw [List.drop_eq_nil_of_le (Nat.le_refl _)] at hΨ; exact h2 a d rec hbd hΨ
def q359 (t : q11) (n number : Int) (later : List q14) : q11 × Int :=
  if trkE t ≠ 0 then (noTrk, trkE t) else if ¬ fndK t.Peers n < t.Peers.length then (noTrk, 7) else if number < 0 ∨ 1073741824 < number then (noTrk, 2) else if number < (ix t.Peers (fndK t.Peers n : Int)).Common then (noTrk, 8)
  else if (agrF t.Sizes number (t.Sizes.map newB) later).2 ≠ 0 then (noTrk, (agrF t.Sizes number (t.Sizes.map newB) later).2) else (⟨t.Sizes, put t.Peers (fndK t.Peers n : Int) ⟨n, number, (agrF t.Sizes number (t.Sizes.map newB) later).1⟩⟩, 0)
def FitC (l : List q14) : Prop := l.length ≤ 100000 ∧ ∀ c ∈ l, c.Positions.length ≤ 100000 ∧ c.Writes.length ≤ 100000 ∧ ∀ w ∈ c.Writes, w.Data.length ≤ 1000000
theorem q501 : ∀ {l : List q13} {n : Int} {q : q13}, q.Site = n → fndK l n < l.length → mput (l.map keyP) n q = (put l (fndK l n : Int) q).map keyP
  | [], _, _, _, h => absurd h (Nat.not_lt_zero _)
  | p :: l, n, q, hq, h => by
    rw [q735]; by_cases e : p.Site = n
    · have h0 : fndK (p :: l) n = 0 := by unfold fndK; rw [List.findIdx_cons, decide_eq_true e]; rfl
      rw [h0]; show mput (keyP p :: l.map keyP) n q = keyP q :: l.map keyP; unfold mput; rw [if_pos (show n = (keyP p).1 from e.symm)]; show (p.Site, q) :: _ = (q.Site, q) :: _; rw [e, hq]
    · have h0 : fndK (p :: l) n = fndK l n + 1 := by unfold fndK; rw [List.findIdx_cons, decide_eq_false e]; rfl
      rw [h0] at h ⊢; show mput (keyP p :: l.map keyP) n q = keyP p :: (l.set (fndK l n) q).map keyP; unfold mput; rw [if_neg (show ¬ n = (keyP p).1 from fun z => e z.symm), q501 hq (by rw [List.length_cons] at h; omega)]; rfl
theorem q749 {l : List q13} {n : Int} {q : q13} (hq : q.Site = n) (h : fndK l n < l.length) : (put l (fndK l n : Int) q).map (·.Site) = l.map (·.Site) := by
  refine List.ext_getElem (by rw [List.length_map, List.length_map, q61]) fun i h1 h2 => ?_; rw [List.length_map] at h2; have := q199 l q h i; rw [q24 (by rw [q61]; exact h2), q24 h2] at this; rw [List.getElem_map, List.getElem_map, this]
  split
  · rename_i e
    have hs := q445 h; rw [q24 h] at hs; subst e; rw [hq, hs]
  · rfl
theorem q750 {t : q11} {n number : Int} {d : List q10} (h : TrkOk t) (hk : fndK t.Peers n < t.Peers.length) (h0 : 0 ≤ number) (h1 : number ≤ 1073741824) (hd : BmsOk t.Sizes d) : TrkOk ⟨t.Sizes, put t.Peers (fndK t.Peers n : Int) ⟨n, number, d⟩⟩ := by
  have hl : (put t.Peers (fndK t.Peers n : Int) (⟨n, number, d⟩ : q13)).length = t.Peers.length := q61 _ _ _; have e := q199 t.Peers (⟨n, number, d⟩ : q13) hk; have hsn := q445 hk
  have hsite : ∀ k : Nat, k < t.Peers.length → (ix (put t.Peers (fndK t.Peers n : Int) (⟨n, number, d⟩ : q13)) (k : Int)).Site = (ix t.Peers (k : Int)).Site := fun k hk' => by
    rw [e k]
    split
    · rename_i q; subst q; exact hsn.symm
    · rfl
  refine ⟨h.hs, by rw [hl]; exact h.n4, fun k hk' => ?_, fun k hk' => ?_, fun k hk' => ?_, fun i j hij hj => ?_⟩
  · rw [hl] at hk'; simp only; rw [e k]
    split
    · exact hd
    · exact h.bms k hk'
  · rw [hl] at hk'; simp only; rw [hsite k hk']; exact h.site k hk'
  · rw [hl] at hk'; simp only; rw [e k]
    split
    · exact ⟨h0, h1⟩
    · exact h.com k hk'
  · rw [hl] at hj; simp only; rw [hsite i (by omega), hsite j hj]; exact h.asc i j hij hj
theorem q115 {t : q11} {n number : Int} {later : List q14} {Φ : q11 × Int → Prop} (hd : ∀ p ∈ t.Peers, p.Dirty.length ≤ 100000) (hc : FitC later) (hΦ : Φ (q359 t n number later)) : Z42 t n number later Φ := by
  unfold q359 at hΦ; refine q79 hd ⟨fun q => by rw [if_pos q] at hΦ; exact hΦ, fun q => ?_⟩; rw [if_neg q] at hΦ; have h := q495 (Classical.not_not.1 q); obtain ⟨h8, h4, hs⟩ := h.small; have hn := q357 h.sites; refine LoopW.upT t.Peers.length (fun k => ((k : Int), (t.Peers.take k).map keyP)) rfl (fun k rec hk hrec => ?_) fun rec => ⟨fun z => absurd (show (t.Peers.length : Int) < (t.Peers.length : Int) from z) (by omega), fun _ => ?_⟩
  · have hp := hs _ (q51 (xs := t.Peers) (i := (k : Int)) (iX (by omega) (by omega)))
    exact ⟨fun _ => ⟨iX (by omega) (by omega), q104 (by omega) (fun b hb => by have := hp.2 b hb; omega) ⟨iI (by omega) (by omega), hrec _ (Prod.ext rfl (q498 hk hn))⟩⟩, fun z => absurd (show (k : Int) < (t.Peers.length : Int) by omega) z⟩
  rw [q32]; refine ⟨fun z => ?_, fun z => ?_⟩
  · rw [if_pos fun q2 => z (q267.2 q2)] at hΦ; exact hΦ
  have q2 := q267.1 (Classical.not_not.1 z); rw [if_neg (fun z => z q2)] at hΦ; rw [q499 hn q2]; refine q49 (fun q3 => ff (by rw [if_pos (by omega)] at hΦ; exact hΦ)) fun q3 => tt ⟨fun q4 => ?_, fun q4 => ?_⟩
  · rw [if_neg (by omega), if_pos q4] at hΦ; exact hΦ
  rw [if_neg (by omega), if_neg q4] at hΦ; refine q175 (by omega) (q744 h.hs) ⟨fun z => absurd rfl z, fun _ => ?_⟩; generalize hr : agrF t.Sizes number (t.Sizes.map newB) later = r at hΦ; refine q818 (sizes := t.Sizes) (later := later) (Ψ := fun r => (r.2 ≠ 0 → Φ (noTrk, r.2)) ∧ (¬ r.2 ≠ 0 → Φ (⟨t.Sizes, put t.Peers (fndK t.Peers n : Int) ⟨n, number, r.1⟩⟩, 0))) (fun k a d rec hk hbd f1 f2 f3 => ?_) (fun a d rec hbd f => ?_) (q113 h.hs).toBmsOk ?_
  · have hck := hc.2 _ (q51 (xs := later) (i := (k : Int)) (iX (by omega) (by omega)))
    have hx : inX (k : Int) later.length := iX (by omega) (by omega); refine ⟨fun _ => ⟨hx, q374 hck.1 hck.2.1 hck.2.2 ⟨fun q5 => (f1 q5).1 q5, fun q5 => ⟨fun q6 => (f2 q5 q6).1 (show (15 : Int) ≠ 0 by decide), fun q6 => ?_⟩⟩⟩, fun z => absurd (show (k : Int) < (later.length : Int) by omega) z⟩; have hfit := q446 (Classical.not_not.1 q5); generalize hws : (ix later (k : Int)).Writes = ws at *; show LoopW (Z38 later (k : Int) (Z37 later (k : Int) rec Φ) Φ) (0, d); refine LoopW.upT ws.length (fun j => ((j : Int), markL d (ws.take j))) rfl (fun j rec2 hj hrec2 => ?_) fun rec2 => ?_
    · have hwj := hfit _ (q51 (xs := ws) (i := (j : Int)) (iX (by omega) (by omega)))
      have hbj : BmsOk t.Sizes (markL d (ws.take j)) := q316 hbd fun x hx => hfit x (List.mem_of_mem_take hx); obtain ⟨v, hv, hvl, _⟩ := q212 hwj; have hin : inX (ix ws (j : Int)).Volume (markL d (ws.take j)).length := by rw [hv]; have := hbj.len; exact iX (by omega) (by omega)
      have hse := q494 hbj hwj; unfold Z38; simp only; rw [hws]; exact ⟨fun _ => ⟨iX (by omega) (by omega), hin, ((setBm (ix (markL d (ws.take j)) (ix ws (j : Int)).Volume) ⟨(ix ws (j : Int)).Start, ((ix ws (j : Int)).Data.length : Int)⟩).1, (setBm (ix (markL d (ws.take j)) (ix ws (j : Int)).Volume) ⟨(ix ws (j : Int)).Start, ((ix ws (j : Int)).Data.length : Int)⟩).2, ()), q262 rfl, fun z => absurd hse z, fun _ => ⟨hin, iI (by omega) (by omega), hrec2 _ (Prod.ext rfl (q642 d hj).symm)⟩⟩, fun z => absurd (show (j : Int) < (ws.length : Int) by omega) z⟩
    · unfold Z38
      simp only; rw [hws, q32]; exact ⟨fun z => absurd z (by omega), fun _ => ⟨fun z => absurd rfl z, fun _ => ⟨iI (by omega) (by have := hc.1; omega), f3 q5 q6⟩⟩⟩
  · have hpl : (put t.Peers (fndK t.Peers n : Int) (⟨n, number, d⟩ : q13)).length = t.Peers.length := q61 _ _ _
    have e1 : mput (t.Peers.map keyP) n (⟨n, number, d⟩ : q13) = (put t.Peers (fndK t.Peers n : Int) ⟨n, number, d⟩).map keyP := q501 rfl q2; have hsite := q749 (q := (⟨n, number, d⟩ : q13)) rfl q2; have hok := q750 h q2 q3.1 q3.2 hbd; have hks : ((put t.Peers (fndK t.Peers n : Int) (⟨n, number, d⟩ : q13)).map (·.Site)).Pairwise fun a b => a < b := by rw [hsite]; exact h.sites
    have f := f.2 (fun z => z rfl)
    have hin : ∀ p ∈ (put t.Peers (fndK t.Peers n : Int) (⟨n, number, d⟩ : q13)).map keyP, inI p.1 := fun p hp => by
      obtain ⟨y, hy, rfl⟩ := List.mem_map.1 hp; obtain ⟨k, hk, rfl⟩ := List.getElem_of_mem hy; have := hok.site k hk; simp only at this; rw [q24 hk] at this; exact iI (by show -9223372036854775808 ≤ q13.Site _; omega) (by show q13.Site _ ≤ 9223372036854775807; omega)
    generalize put t.Peers (fndK t.Peers n : Int) (⟨n, number, d⟩ : q13) = ps at *; refine ⟨fun z => absurd (show (later.length : Int) < (later.length : Int) from z) (by omega), fun _ => q21 (by omega) ⟨?_, ?_, ?_, ?_⟩⟩
    · rw [e1, q152, hsite]; exact hn
    · rw [e1]; exact hin
    · rw [e1]; exact iL (by rw [List.length_map]; omega) (by omega)
    · have hl2 : (ps.map (·.Site)).length = t.Peers.length := by rw [List.length_map]; exact hpl
      refine LoopW.upT ps.length (fun k => ((k : Int), ps.take k)) rfl (fun k rec2 hk hrec2 => ?_) fun rec2 => ?_
      · unfold Z39
        simp only; rw [e1, q268 hks, q872 (hsite ▸ hn) hk]; exact ⟨fun _ => ⟨iX (by omega) (by omega), iL (by rw [q18, lenT (Nat.le_of_lt hk)]; omega) (by omega), iI (by omega) (by omega), hrec2 _ (Prod.ext rfl (q69 hk).symm)⟩, fun z => absurd (show (k : Int) < ((ps.map (·.Site)).length : Int) by omega) z⟩
      · unfold Z39
        simp only; rw [e1, q268 hks, q32]; exact ⟨fun z => absurd z (by omega), fun _ => f⟩
  · rw [hr]
    exact ⟨fun z => by rw [if_pos z] at hΦ; exact hΦ, fun z => by rw [if_neg z] at hΦ; exact hΦ⟩
theorem q751 (p : Nat → Bool) : ∀ d k : Nat, (∃ e, k ≤ e ∧ e < k + d ∧ p e = true ∧ ∀ j, k ≤ j → j < e → p j = false) ∨ ∀ j, k ≤ j → j < k + d → p j = false
  | 0, k => .inr fun j h1 h2 => absurd h2 (by omega)
  | d + 1, k => by
    cases hk : p k with
    | true => exact .inl ⟨k, Nat.le_refl _, by omega, hk, fun j h1 h2 => absurd h2 (by omega)⟩
    | false =>
      rcases q751 p d (k + 1) with ⟨e, h1, h2, h3, h4⟩ | h
      · refine .inl ⟨e, by omega, by omega, h3, fun j a b => ?_⟩
        by_cases q : j = k
        · rw [q]; exact hk
        · exact h4 j (by omega) b
      · refine .inr fun j a b => ?_
        by_cases q : j = k
        · rw [q]; exact hk
        · exact h j (by omega) (by omega)
theorem q752 {L : List Nat} {c e : Nat} (h : L[c]? = some e) : L.drop c = e :: L.drop (c + 1) := by
  obtain ⟨h1, h2⟩ := List.getElem?_eq_some_iff.1 h; rw [List.drop_eq_getElem_cons h1, h2]
theorem q819 (ws : List (BitVec 64)) (j : Nat) : elB ws 0 j = bitN ws j := by
  unfold elB; rw [decide_eq_true (show (0 : Int) ≤ (j : Int) by omega), Bool.true_and]
theorem q318 (ws : List (BitVec 64)) (k : Nat) : extsK ws k = q327 (elK ws 0 k) := by
  unfold extsK elK
  congr 1
def elF (k : Nat) : Int × Unit := ((k : Int), ())
theorem q545 (b : q10) : q84 b 0 ((elL b.Size b.Words 0).map elF) := by
  refine ⟨(chkB b, ()), q52 rfl, fun q => ?_, fun q => ?_⟩
  · rw [q556 q]; rfl
  have hc : ¬ chk b.Size b.Words ≠ 0 := q; have hn := q211 hc; refine LoopW.upT b.Words.length (fun i => (((elL b.Size b.Words 0).drop (elK b.Words 0 (64 * i)).length).map elF, (i : Int))) rfl (fun i rec hi hrec => ?_) fun rec => ⟨fun z => absurd (show (b.Words.length : Int) < (b.Words.length : Int) from z) (by omega), fun _ => ?_⟩
  · refine ⟨fun _ => ⟨iX (by omega) (by omega), (maskW (i : Int) 0 b.Size, ()), q219 (by omega) (by omega) (by omega) (by omega) (by omega) (by omega) rfl, ?_⟩, fun z => absurd (show (i : Int) < (b.Words.length : Int) by omega) z⟩
    refine LoopW.of_inv (fun s => ∃ p : Nat, s.1 = ((elL b.Size b.Words 0).drop (elK b.Words 0 p).length).map elF ∧ elX b.Size b.Words 0 i p s.2 ∧ 64 * i ≤ p ∧ p ≤ 64 * (i + 1)) (fun s => s.1.length) ?_ ⟨64 * i, rfl, q665 _ _ _ _, Nat.le_refl _, by omega⟩
    rintro ⟨_, x⟩ rec2 ⟨p, rfl, hx, h1, h2⟩ hrec2
    have hx : elX b.Size b.Words 0 i p x := hx; refine ⟨fun hne => ?_, fun he => ?_⟩
    · obtain ⟨t1, t2, t3, t4, t5, t6⟩ := q558 hx hne
      obtain ⟨g1, g2, g3⟩ := q783 hc h1 hx hne; refine ⟨iI (by omega) (by omega), ((Lib.ctz 64 x.toNat : Int), ()), ⟨hne, rfl⟩, iI (by simp only; omega) (by simp only; omega), ?_⟩
      have hd : (elL b.Size b.Words 0)[(elK b.Words 0 p).length]? = some (64 * i + Lib.ctz 64 x.toNat) := by
        rw [List.getD_eq_getElem?_getD, List.getElem?_eq_getElem g1] at g2; rw [List.getElem?_eq_getElem g1]; exact congrArg some g2
      have hd2 := q752 hd; simp only; rw [hd2]; refine ⟨Prod.ext ?_ rfl, hrec2 _ ⟨64 * i + Lib.ctz 64 x.toNat + 1, ?_, t6, by omega, by omega⟩ ?_, trivial⟩
      · show (i : Int) * 64 + (Lib.ctz 64 x.toNat : Int) = ((64 * i + Lib.ctz 64 x.toNat : Nat) : Int)
        omega
      · rw [g3]
      · simp only
        rw [hd2, List.map_cons, List.length_cons]; omega
    · have he : x = 0#64 := Classical.not_not.1 he
      subst he; refine ⟨iI (by omega) (by omega), hrec _ (Prod.ext ?_ rfl)⟩; have := elK_skip' h2 (elX_end hc hi h1 hx); simp only; rw [this]
  · have := elK_top (a := 0) hc (p := 64 * b.Words.length) (by omega) (Nat.le_refl _)
    rw [this, List.drop_eq_nil_of_le (Nat.le_refl _)]; rfl
def toX (e : Int × Int) : q16 := ⟨e.1, e.2⟩
def exts (b : q10) : List q16 := (extR b.Size b.Words).map toX
theorem ix_toX (es : List (Int × Int)) (k : Nat) : ix (es.map toX) (k : Int) = toX (es.getD k (0, 0)) := by
  show (es.map toX).getD k default = _; rw [List.getD_eq_getElem?_getD, List.getD_eq_getElem?_getD, List.getElem?_map]; cases es[k]? <;> rfl
theorem q447 (es : List (Int × Int)) (h : 0 < es.length) : ix (es.map toX) (((es.map toX).length : Int) - 1) = toX (es.getD (es.length - 1) (0, 0)) := by
  rw [← ix_toX]
  congr 1
  rw [List.length_map]; omega
theorem put_toX (es : List (Int × Int)) (h : 0 < es.length) (x : Int) : put (es.map toX) (((es.map toX).length : Int) - 1) ⟨(es.getD (es.length - 1) (0, 0)).1, x⟩ = (bumpE es (es.length - 1) x).map toX := by
  unfold put bumpE; rw [List.map_set, show (((es.map toX).length : Int) - 1).toNat = es.length - 1 by rw [List.length_map]; omega]; rfl
theorem q448 {es : List (Int × Int)} {i : Int} : ((0 < ((es.map toX).length : Int)) ∧ ((((ix (es.map toX) (((es.map toX).length : Int) - 1)).Start) + ((ix (es.map toX) (((es.map toX).length : Int) - 1)).Count)) = i)) ↔ q239 es i := by
  unfold q239; by_cases h : 0 < es.length
  · rw [q447 es h]
    simp only [toX, List.length_map]; constructor
    · rintro ⟨_, h2⟩; exact ⟨h, h2⟩
    · rintro ⟨_, h2⟩; exact ⟨by omega, h2⟩
  · constructor
    · rintro ⟨h1, _⟩; rw [List.length_map] at h1; omega
    · rintro ⟨h1, _⟩; exact absurd h1 h
theorem q820 {es : List (Int × Int)} {k : Nat} (hf : exB es (k : Int)) (hl : es.length ≤ k) (hk : k ≤ 100000) (h : 0 < ((es.map toX).length : Int)) : inI (((es.map toX).length : Int) - 1) ∧ inX (((es.map toX).length : Int) - 1) (es.map toX).length ∧
    inI (((ix (es.map toX) (((es.map toX).length : Int) - 1)).Start) + ((ix (es.map toX) (((es.map toX).length : Int) - 1)).Count)) := by
  have h' : 0 < es.length := by rw [List.length_map] at h; omega
  have hg := q513 hf (show es.length - 1 < es.length by omega); have e : (es.map toX).length = es.length := List.length_map _; rw [q447 es h']; simp only [toX]; exact ⟨iI (by omega) (by omega), iX (by omega) (by omega), iI (by omega) (by omega)⟩
theorem q753 {es : List (Int × Int)} {k : Nat} (hf : exB es (k : Int)) (hl : es.length ≤ k) (hk : k ≤ 100000) (h : q239 es (k : Int)) : inI (((es.map toX).length : Int) - 1) ∧ inX (((es.map toX).length : Int) - 1) (es.map toX).length ∧
    inI (((ix (es.map toX) (((es.map toX).length : Int) - 1)).Count) + 1) ∧
    put (es.map toX) (((es.map toX).length : Int) - 1) ⟨(ix (es.map toX) (((es.map toX).length : Int) - 1)).Start, ((ix (es.map toX) (((es.map toX).length : Int) - 1)).Count) + 1⟩ = (addX es (k : Int)).map toX := by
  have h' := h.1; have hg := q513 hf (show es.length - 1 < es.length by omega); have e : (es.map toX).length = es.length := List.length_map _; rw [q447 es h', q660 h, ← put_toX es h']; simp only [toX]; exact ⟨iI (by omega) (by omega), iX (by omega) (by omega), iI (by omega) (by omega), trivial⟩
theorem q611 {es : List (Int × Int)} {e : Nat} (h : ¬ q239 es (e : Int)) : es.map toX ++ [(q16.mk (e : Int) 1)] = (addX es (e : Int)).map toX := by
  rw [q781 h, List.map_append]; rfl
theorem q153 {b : q10} {Φ : List q16 → Prop} (hΦ : Φ (exts b)) : Z47 b Φ := by
  refine ⟨_, q545 b, ?_⟩; unfold exts at hΦ; by_cases hc : chk b.Size b.Words ≠ 0
  · rw [q556 hc]
    rw [q661 hc] at hΦ; exact ⟨1, hΦ⟩
  have hn := q211 hc; rw [q662 hc]; rw [extR_ok hc rfl] at hΦ; generalize hN : b.Size.toNat = n at hΦ; refine LoopW.of_inv (fun s => ∃ p : Nat, s = (((elK b.Words 0 n).drop (elK b.Words 0 p).length).map elF, (extsK b.Words p).map toX) ∧ p ≤ n) (fun s => s.1.length) ?_ ⟨0, rfl, Nat.zero_le _⟩
  rintro _ rec ⟨p, rfl, hp⟩ hrec
  rcases q751 (elB b.Words 0) (n - p) p with ⟨e, h1, h2, h3, h4⟩ | h
  · have hk := elK_skip' h1 h4
    have hg := q514 h3 (n := n) (by omega); have he : extsK b.Words p = extsK b.Words e := by rw [q318, q318, hk]
    have hy : extsK b.Words (e + 1) = addX (extsK b.Words e) (e : Int) := q466 (by rw [← q819]; exact h3); have hlen : (elK b.Words 0 (e + 1)).length = (elK b.Words 0 e).length + 1 := by rw [q663 h3, q18]
    rw [← hk]; have hd := q752 hg; have hf := q157 b.Words e; have hrec' : rec (((elK b.Words 0 n).drop ((elK b.Words 0 e).length + 1)).map elF, (addX (extsK b.Words e) (e : Int)).map toX) := hrec _ ⟨e + 1, by rw [hlen, hy], by omega⟩ (by simp only; rw [← hk, hd, List.map_cons, List.length_cons]; omega); have hdrop : ((elK b.Words 0 n).drop (elK b.Words 0 e).length).map elF = elF e :: ((elK b.Words 0 n).drop ((elK b.Words 0 e).length + 1)).map elF := by rw [hd]; rfl
    rw [hdrop, he]; refine ⟨fun hpos => ?_, fun hneg => ⟨iL (by rw [q18, List.length_map]; omega) (by omega), ?_⟩⟩
    · obtain ⟨g1, g2, g3⟩ := q820 hf.1 hf.2 (by omega) hpos
      refine ⟨g1, g2, g1, g2, g3, fun hj => ?_, fun hj => ⟨iL (by rw [q18, List.length_map]; omega) (by omega), ?_⟩⟩
      · obtain ⟨_, _, k3, k4⟩ := q753 hf.1 hf.2 (by omega) (q448.1 ⟨hpos, hj⟩)
        refine ⟨g1, g2, k3, g2, ?_⟩; rw [k4]; exact hrec'
      · have := q611 (es := extsK b.Words e) (e := e) fun q => hj (q448.2 q).2
        show rec (_, (extsK b.Words e).map toX ++ [(q16.mk (e : Int) 1)]); rw [this]; exact hrec'
    · have := q611 (es := extsK b.Words e) (e := e) fun q => hneg (q448.2 q).1
      show rec (_, (extsK b.Words e).map toX ++ [(q16.mk (e : Int) 1)]); rw [this]; exact hrec'
  · have hk := elK_skip' hp fun j a c => h j a (by omega)
    rw [← hk, List.drop_eq_nil_of_le (Nat.le_refl _)]; have he : extsK b.Words p = extsK b.Words n := by rw [q318, q318, hk]
    rw [he]; exact hΦ
theorem q821 (b : q10) : (exts b).length ≤ 4096 := by
  unfold exts extR; rw [List.length_map]
  split
  · exact Nat.zero_le _
  · rename_i h
    have := (q157 b.Words b.Size.toNat).2; have := q846 (Classical.not_not.1 h); omega
theorem q214 {a b : List q16} {Φ : Bool → Prop} (hl : a.length ≤ 1000000) (hΦ : Φ (decide (a = b))) : Z49 a b Φ := by
  refine ⟨fun h => ?_, fun h => ?_⟩
  · rw [decide_eq_false (by rintro rfl; exact h rfl)] at hΦ; exact hΦ
  · have hl2 : a.length = b.length := by omega
    have e : decide (a = b) = allN (fun k => decide (ix a (k : Int) = ix b (k : Int))) a.length := by
      rw [Bool.eq_iff_iff, q351, decide_eq_true_iff]; constructor
      · rintro rfl k _; exact decide_eq_true rfl
      · intro h; exact q297 hl2 fun k hk => of_decide_eq_true (h k hk)
    rw [e] at hΦ; refine LoopW.allL a.length _ hΦ (fun k rec hk _ h1 h2 => ?_) fun rec h1 _ => ?_
    · exact ⟨fun _ => ⟨iX (by omega) (by omega), iX (by omega) (by omega), fun hq => h1 (decide_eq_false hq), fun hq => ⟨iI (by omega) (by omega), h2 (decide_eq_true (Classical.not_not.1 hq))⟩⟩, fun q => absurd (by omega) q⟩
    · exact ⟨fun q => absurd q (by omega), fun _ => h1⟩
def encF : Nat → Nat → List (BitVec 8)
  | 0, n => [BitVec.ofNat 8 n]
  | f + 1, n => if 128 ≤ n then BitVec.ofNat 8 (n % 128 + 128) :: encF f (n / 128) else [BitVec.ofNat 8 n]
def capN (x : Int) : Nat := if x < 0 ∨ 9007199254740991 < x then 0 else x.toNat
def encI (x : Int) : List (BitVec 8) := encF 8 (capN x)
theorem q401 (x : Int) : capN x ≤ 9007199254740991 := by unfold capN; split <;> omega
theorem q647 {n : Nat} (h : n < 128) : ∀ f, encF f n = [BitVec.ofNat 8 n]
  | 0 => rfl
  | f + 1 => by unfold encF; rw [if_neg (by omega)]
theorem q822 {n f : Nat} (h : 128 ≤ n) : encF (f + 1) n = BitVec.ofNat 8 (n % 128 + 128) :: encF f (n / 128) := by
  conv => lhs; unfold encF
  rw [if_pos h]
theorem q612 : ∀ f n, 0 < (encF f n).length ∧ (encF f n).length ≤ f + 1
  | 0, n => ⟨by unfold encF; exact Nat.one_pos, by unfold encF; exact Nat.le_refl _⟩
  | f + 1, n => by
    have := q612 f (n / 128); unfold encF
    split
    · rw [List.length_cons]; omega
    · show 0 < 1 ∧ 1 ≤ f + 2; omega
theorem q82 (x : Int) : 0 < (encI x).length ∧ (encI x).length ≤ 9 := q612 8 _
def q85 {α : Type} (enc : α → List (BitVec 8)) (l : List α) : List (BitVec 8) := encI (l.length : Int) ++ l.flatMap enc
theorem or_hi {x : Nat} (h : x < 128) : x ||| 128 = x + 128 := by
  have := Nat.two_pow_add_eq_or_of_lt (i := 7) (b := x) (by omega) 1; rw [Nat.or_comm]; have e : (2 ^ 7 * 1 : Nat) = 128 := by decide
  rw [e] at this; omega
theorem byte_hi (m : Nat) : (BitVec.ofInt 8 ((m : Int) % 128) ||| (128#8)) = BitVec.ofNat 8 (m % 128 + 128) := by
  have e : ((m : Int) % 128) = ((m % 128 : Nat) : Int) := by omega
  rw [e, BitVec.ofInt_natCast]
  apply BitVec.eq_of_toNat_eq
  rw [BitVec.toNat_or, BitVec.toNat_ofNat, BitVec.toNat_ofNat]; show (m % 128 % 256 ||| 128) = (m % 128 + 128) % 256; rw [show m % 128 % 256 = m % 128 by omega, or_hi (by omega)]; omega
abbrev By := List (BitVec 8)
def q231 (K : By → Prop) : (Int × By) → ((Int × By) → Prop) → Prop
  | (v3, v4), rec2 =>
    (128 ≤ v3 →
      (0 ≤ v3 ∧ 128 ≠ (0 : Int)) ∧
      lenOk (v4 ++ ([((BitVec.ofInt 8 (v3 % 128)) ||| (128#8))] : List (BitVec 8))).length 1 ∧
      (0 ≤ v3 ∧ inI v3 ∧ (0 : Int) < 128) ∧
      rec2 ((v3 / 128), (v4 ++ ([((BitVec.ofInt 8 (v3 % 128)) ||| (128#8))] : List (BitVec 8))))) ∧
    (¬ (128 ≤ v3) →
      lenOk (v4 ++ ([(BitVec.ofInt 8 v3)] : List (BitVec 8))).length 1 ∧
      K (v4 ++ ([(BitVec.ofInt 8 v3)] : List (BitVec 8))))
theorem put_inv {step : (Int × By) → ((Int × By) → Prop) → Prop} {K : By → Prop} {n : Nat} {out : By} (hn : n ≤ 9007199254740991) (ho : out.length ≤ 900000)
    (h1 : ∀ (m : Nat) (o : By) rec, 128 ≤ m → m ≤ 9007199254740991 → o.length < 1000000 → rec (((m / 128 : Nat) : Int), o ++ [BitVec.ofNat 8 (m % 128 + 128)]) → step ((m : Int), o) rec)
    (h2 : ∀ (m : Nat) (o : By) rec, m < 128 → o.length < 1000000 → K (o ++ [BitVec.ofNat 8 m]) → step ((m : Int), o) rec)
    (hK : K (out ++ encF 8 n)) : LoopW step ((n : Int), out) := by
  refine LoopW.of_inv (fun s => ∃ (f m : Nat) (o : By), s = ((m : Int), o) ∧ f ≤ 8 ∧ m < 128 ^ (f + 1) ∧ m ≤ 9007199254740991 ∧ o.length + f ≤ 900008 ∧ K (o ++ encF f m)) (fun s => s.1.toNat) ?_ ⟨8, n, out, rfl, Nat.le_refl _, by omega, hn, by omega, hK⟩
  rintro _ rec ⟨f, m, o, rfl, hf, hm, hm2, hl, hK⟩ hrec
  rcases Nat.lt_or_ge m 128 with h | h
  · rw [q647 h] at hK
    exact h2 m o rec h (by omega) hK
  · cases f with
    | zero => exact absurd hm (by omega)
    | succ f =>
      rw [q822 h] at hK; refine h1 m o rec h hm2 (by omega) (hrec _ ⟨f, m / 128, _, rfl, by omega, ?_, by omega, ?_, ?_⟩ ?_)
      · rw [Nat.pow_succ] at hm; exact Nat.div_lt_of_lt_mul (by rw [Nat.mul_comm]; exact hm)
      · rw [q18]; omega
      · rw [List.append_assoc]; exact hK
      · show (((m / 128 : Nat) : Int)).toNat < ((m : Int)).toNat
        omega
theorem q213 {K : By → Prop} {n : Nat} {out : By} (hn : n ≤ 9007199254740991) (ho : out.length ≤ 900000) (hK : K (out ++ encF 8 n)) : LoopW (q231 K) ((n : Int), out) := by
  refine put_inv hn ho (fun m o rec h hm hl hr => ⟨fun _ => ⟨⟨by omega, by omega⟩, ?_, ⟨by omega, iI (by omega) (by omega), by omega⟩, ?_⟩, fun q => absurd (show (128 : Int) ≤ m by omega) q⟩) (fun m o rec h hl hk => ⟨fun q => absurd q (by omega), fun _ => ⟨?_, ?_⟩⟩) hK
  · exact iL (by rw [q18]; omega) (by omega)
  · rw [byte_hi]; exact hr
  · exact iL (by rw [q18]; omega) (by omega)
  · rw [BitVec.ofInt_natCast]; exact hk
theorem q402 {x : Int} {J : Int → Prop} (h : J (capN x : Int)) : (x < 0 → J 0) ∧ (¬ (x < 0) → (9007199254740991 < x → J 0) ∧ (¬ (9007199254740991 < x) → J x)) := by
  unfold capN at h; refine ⟨fun q => ?_, fun q => ⟨fun r => ?_, fun r => ?_⟩⟩
  · rw [if_pos (.inl q)] at h; exact h
  · rw [if_pos (.inr r)] at h; exact h
  · rw [if_neg (by omega)] at h
    rw [show ((x.toNat : Nat) : Int) = x by omega] at h; exact h
theorem q613 {α : Type} [Dt α] {l : List α} {k : Nat} (h : k ≤ l.length) : sub l (k : Int) (l.length : Int) = l.drop k := by
  unfold sub; rw [show ((k : Int)).toNat = k by omega, List.take_of_length_le (by rw [List.length_drop]; omega)]
theorem q449 {x0 : By} {Φ : By → Prop} (h : x0.length ≤ 1000000) (hΦ : Φ x0) : Z52 x0 Φ := ⟨fun e => by rw [e] at hΦ; exact hΦ, iL h (by omega), hΦ⟩
theorem q200 {α : Type} (enc : α → By) (l : List α) (k : Nat) : ((l.take k).flatMap enc).length ≤ (l.flatMap enc).length := by
  conv => rhs; rw [← List.take_append_drop k l]
  rw [List.flatMap_append, List.length_append]; omega
theorem q201 {α : Type} [Dt α] (enc : α → By) {l : List α} {k : Nat} (h : k < l.length) : (l.take (k + 1)).flatMap enc = (l.take k).flatMap enc ++ enc (ix l (k : Int)) := by
  rw [q69 h, List.flatMap_append, List.flatMap_cons, List.flatMap_nil, List.append_nil]
theorem q173 {α : Type} (enc : α → By) (l : List α) : (q85 enc l).length = (encI (l.length : Int)).length + (l.flatMap enc).length := List.length_append
theorem q142 {x0 : By} {n : Int} {Φ : By → Prop} (h : x0.length ≤ 900000) (hΦ : Φ (x0 ++ encI n)) : q95 x0 n Φ := by
  refine q449 (by omega) (q402 (J := Z60 x0 Φ) ?_); have e : Z59 Φ = q231 Φ := by funext ⟨a, b⟩ rec; rfl
  show LoopW (Z59 Φ) _; rw [e]; exact q213 (q401 n) h hΦ
theorem q360 {x0 : By} {l : List Int} {Φ : By → Prop} (h : x0.length + (q85 encI l).length ≤ 900000) (hΦ : Φ (x0 ++ q85 encI l)) : Z58 x0 l Φ := by
  rw [q173] at h; refine q449 (by omega) (q402 (J := Z57 l x0 Φ) ?_); have e : Z56 l Φ = q231 (fun o => LoopW (Z55 l Φ) (0, o)) := by funext ⟨a, b⟩ rec; rfl
  show LoopW (Z56 l Φ) _; rw [e]; refine q213 (q401 _) (by omega) ?_; have fl := q200 encI l
  have el : (x0 ++ encF 8 (capN (l.length : Int))).length ≤ 900000 - (l.flatMap encI).length := by
    rw [List.length_append]; have : (encF 8 (capN (l.length : Int))).length = (encI (l.length : Int)).length := rfl; omega
  have ln : l.length ≤ (l.flatMap encI).length := by
    clear hΦ h e fl el
    induction l with
    | nil => exact Nat.le_refl _
    | cons x r ih => rw [List.flatMap_cons, List.length_append, List.length_cons]; have := q82 x; omega
  refine LoopW.upT l.length (fun k => ((k : Int), (x0 ++ encF 8 (capN (l.length : Int))) ++ (l.take k).flatMap encI)) (by rw [List.take_zero, List.flatMap_nil, List.append_nil]; rfl) (fun k rec hk hr => ⟨fun _ => ⟨iX (by omega) (by omega), ?_⟩, fun q => absurd (show (k : Int) < (l.length : Int) by omega) q⟩) fun rec => ⟨fun q => absurd q (by omega), fun _ => ?_⟩
  · refine q402 (J := Z54 (k : Int) _ rec Φ) ?_
    have e2 : Z53 (k : Int) rec Φ = q231 (fun o => inI ((k : Int) + 1) ∧ rec ((k : Int) + 1, o)) := by funext ⟨a, b⟩ rec2; rfl
    show LoopW (Z53 (k : Int) rec Φ) _; rw [e2]; refine q213 (q401 _) (by rw [List.length_append]; have := fl k; omega) ⟨iI (by omega) (by omega), hr _ ?_⟩; rw [q201 encI hk, ← List.append_assoc]; rfl
  · rw [q32, List.append_assoc]; exact hΦ
theorem q285 {α : Type} [Dt α] (enc : α → By) {l : List α} {k : Nat} (h : k < l.length) : ((l.take k).flatMap enc).length + (enc (ix l (k : Int))).length ≤ (l.flatMap enc).length := by
  have := q200 enc l (k + 1); rw [q201 enc h, List.length_append] at this; exact this
def w0 : q8 := ⟨0, 0, []⟩
def encX (e : q16) : By := encI e.Start ++ encI e.Count
theorem q614 (e : q16) : 0 < (encX e).length ∧ (encX e).length ≤ 18 := by
  unfold encX; have := q82 e.Start; have := q82 e.Count; rw [List.length_append]; omega
theorem q754 {α : Type} {enc : α → By} (h : ∀ x, 0 < (enc x).length) : ∀ l : List α, l.length ≤ (l.flatMap enc).length
  | [] => Nat.le_refl _
  | x :: r => by
    rw [List.flatMap_cons, List.length_append, List.length_cons]; have := h x; have := q754 h r; omega
theorem q361 {α : Type} {enc : α → By} {b : Nat} : ∀ {l : List α}, (∀ x ∈ l, (enc x).length ≤ b) → (l.flatMap enc).length ≤ b * l.length
  | [], _ => Nat.zero_le _
  | x :: r, h => by
    rw [List.flatMap_cons, List.length_append, List.length_cons, Nat.mul_succ]; have := h x List.mem_cons_self; have := q361 (l := r) fun y hy => h y (List.mem_cons_of_mem _ hy); omega
theorem q269 {x0 : By} {l : List q16} {Φ : By → Prop} (h : x0.length + (q85 encX l).length ≤ 900000) (hΦ : Φ (x0 ++ q85 encX l)) : Z68 x0 l Φ := by
  rw [q173] at h; refine q449 (by omega) (q402 (J := Z67 l x0 Φ) ?_); have e : Z66 l Φ = q231 (fun o => LoopW (Z65 l Φ) (0, o)) := by funext ⟨a, b⟩ rec; rfl
  show LoopW (Z66 l Φ) _; rw [e]; refine q213 (q401 _) (by omega) ?_; have fl := q200 encX l
  have el : (x0 ++ encF 8 (capN (l.length : Int))).length ≤ 900000 - (l.flatMap encX).length := by
    rw [List.length_append]; have : (encF 8 (capN (l.length : Int))).length = (encI (l.length : Int)).length := rfl; omega
  have ln := q754 (enc := encX) (fun x => (q614 x).1) l; refine LoopW.upT l.length (fun k => ((k : Int), (x0 ++ encF 8 (capN (l.length : Int))) ++ (l.take k).flatMap encX)) (by rw [List.take_zero, List.flatMap_nil, List.append_nil]; rfl) (fun k rec hk hr => ⟨fun _ => ⟨iX (by omega) (by omega), ?_⟩, fun q => absurd (show (k : Int) < (l.length : Int) by omega) q⟩) fun rec => ⟨fun q => absurd q (by omega), fun _ => ?_⟩
  · refine q402 (J := Z64 l (k : Int) _ rec Φ) ?_
    have fa := q285 encX hk; have fx : (encX (ix l (k : Int))).length = (encI (ix l (k : Int)).Start).length + (encI (ix l (k : Int)).Count).length := List.length_append; have e2 : Z63 l (k : Int) rec Φ = q231 (fun o => ((ix l (k : Int)).Count < 0 → LoopW (Z61 (k : Int) rec Φ) (0, o)) ∧ (¬ ((ix l (k : Int)).Count < 0) → (9007199254740991 < (ix l (k : Int)).Count → LoopW (Z61 (k : Int) rec Φ) (0, o)) ∧ (¬ (9007199254740991 < (ix l (k : Int)).Count) → LoopW (Z61 (k : Int) rec Φ) ((ix l (k : Int)).Count, o)))) := by funext ⟨a, b⟩ rec2; rfl
    show LoopW (Z63 l (k : Int) rec Φ) _; rw [e2]; refine q213 (q401 _) (by rw [List.length_append]; omega) (q402 (J := fun c => LoopW (Z61 (k : Int) rec Φ) (c, _)) ?_); have e3 : Z61 (k : Int) rec Φ = q231 (fun o => inI ((k : Int) + 1) ∧ rec ((k : Int) + 1, o)) := by funext ⟨a, b⟩ rec3; rfl
    rw [e3]; have : (encF 8 (capN (ix l (k : Int)).Start)).length = (encI (ix l (k : Int)).Start).length := rfl; refine q213 (q401 _) (by rw [List.length_append, List.length_append]; omega) ⟨iI (by omega) (by omega), hr _ ?_⟩; rw [q201 encX hk, ← List.append_assoc]; refine Prod.ext rfl ?_; show (_ ++ encI (ix l (k : Int)).Start) ++ encI (ix l (k : Int)).Count = _ ++ (encI (ix l (k : Int)).Start ++ encI (ix l (k : Int)).Count)
    rw [List.append_assoc]
  · rw [q32, List.append_assoc]; exact hΦ
def encB (b : q10) : By := q85 encX (exts b)
def encPr (p : q13) : By := (encI p.Site ++ encI p.Common) ++ p.Dirty.flatMap encB
def encT (t : q11) : By := (q85 encI t.Sizes ++ encI (t.Peers.length : Int)) ++ t.Peers.flatMap encPr
def q546 (t : q11) : By := if trkE t ≠ 0 then [] else encT t
theorem q648 {b : q10} {n : Nat} (h : b.Size ≤ (n : Int)) : (exts b).length ≤ n := by
  unfold exts extR; rw [List.length_map]
  split
  · exact Nat.zero_le _
  · have := (q157 b.Words b.Size.toNat).2
    omega
theorem q823 {b : q10} (h : b.Size ≤ 200) : (encB b).length ≤ 3609 := by
  have h1 := q648 (n := 200) h; have h2 := q361 (enc := encX) (b := 18) (l := exts b) fun x _ => (q614 x).2; have h3 := q82 ((exts b).length : Int); unfold encB; rw [q173]; omega
def q615 (sizes : List Int) : Prop := ∀ k : Nat, k < sizes.length → ix sizes (k : Int) ≤ 200
theorem TrkOk.bsize {t : q11} (h : TrkOk t) (hz : q615 t.Sizes) {p : q13} (hp : p ∈ t.Peers) : p.Dirty.length ≤ 8 ∧ ∀ b ∈ p.Dirty, b.Size ≤ 200 := by
  have hd := h.dirty hp; refine ⟨by have := (h.small.2.2 p hp).1; omega, fun b hb => ?_⟩; obtain ⟨v, hv, rfl⟩ := List.getElem_of_mem hb; have hvl : v < t.Sizes.length := by have := hd.len; omega
  have := (hd.chk v hvl).2; rw [q24 hv] at this; have := hz v hvl; omega
theorem q502 {t : q11} (h : TrkOk t) (hz : q615 t.Sizes) {p : q13} (hp : p ∈ t.Peers) : (p.Dirty.flatMap encB).length ≤ 28872 ∧ (encPr p).length ≤ 28890 := by
  have hb := h.bsize hz hp; have h1 := q361 (enc := encB) (b := 3609) (l := p.Dirty) fun b hb' => q823 (hb.2 b hb'); have h2 := q82 p.Site; have h3 := q82 p.Common; have h4 : (p.Dirty.flatMap encB).length ≤ 28872 := by omega
  refine ⟨h4, ?_⟩; unfold encPr; rw [List.length_append, List.length_append]; omega
theorem q824 {t : q11} (h : TrkOk t) (hz : q615 t.Sizes) : (q85 encI t.Sizes).length ≤ 81 ∧ (t.Peers.flatMap encPr).length ≤ 115560 ∧ (encT t).length ≤ 115650 := by
  have h8 := h.small; have h1 := q361 (enc := encPr) (b := 28890) (l := t.Peers) fun p hp => (q502 h hz hp).2; have h2 := q361 (enc := encI) (b := 9) (l := t.Sizes) fun x _ => (q82 x).2; have h3 := q82 (t.Sizes.length : Int); have h4 := q82 (t.Peers.length : Int); have h5 : (q85 encI t.Sizes).length ≤ 81 := by rw [q173]; omega
  have h6 : (t.Peers.flatMap encPr).length ≤ 115560 := by omega
  refine ⟨h5, h6, ?_⟩; unfold encT; rw [List.length_append, List.length_append]; omega
theorem q286 {t : q11} {Φ : By → Prop} (hd : ∀ p ∈ t.Peers, p.Dirty.length ≤ 100000) (hz : trkE t = 0 → q615 t.Sizes) (hΦ : Φ (q546 t)) : Z71 t Φ := by
  unfold q546 at hΦ; refine q79 hd ⟨fun q => by rw [if_pos q] at hΦ; exact hΦ, fun q => ?_⟩; rw [if_neg q] at hΦ; have q := Classical.not_not.1 q; have h := q495 q; have hz := hz q; obtain ⟨h8, h4, hs⟩ := h.small; obtain ⟨b1, b2, b3⟩ := q824 h hz; have b4 := q82 (t.Peers.length : Int); refine ⟨(q85 encI t.Sizes, ()), q360 (by show 0 + _ ≤ _; omega) rfl, (q85 encI t.Sizes ++ encI (t.Peers.length : Int), ()), q142 (by show (q85 encI t.Sizes).length ≤ _; omega) rfl, ?_⟩; refine LoopW.upT t.Peers.length (fun k => ((k : Int), (q85 encI t.Sizes ++ encI (t.Peers.length : Int)) ++ (t.Peers.take k).flatMap encPr)) (by rw [List.take_zero, List.flatMap_nil, List.append_nil]; rfl) (fun k rec hk hr => ⟨fun _ => ?_, fun q => absurd (show (k : Int) < (t.Peers.length : Int) by omega) q⟩) fun rec => ⟨fun q => absurd (show (t.Peers.length : Int) < (t.Peers.length : Int) from q) (by omega), fun _ => ?_⟩
  · have fa := q285 encPr hk
    have hpm := q51 (xs := t.Peers) (i := (k : Int)) (iX (by omega) (by omega)); have hb := h.bsize hz hpm; have e1 := q82 (ix t.Peers (k : Int)).Site; have e2 := q82 (ix t.Peers (k : Int)).Common; have e3 := (q502 h hz hpm).1; generalize hp : ix t.Peers (k : Int) = p at *; refine ⟨iX (by omega) (by omega), (_, ()), q142 (by rw [List.length_append, List.length_append]; omega) rfl, (_, ()), q142 (by rw [List.length_append, List.length_append, List.length_append]; omega) rfl, ?_⟩; refine LoopW.upT p.Dirty.length (fun j => ((j : Int), (((q85 encI t.Sizes ++ encI (t.Peers.length : Int)) ++ (t.Peers.take k).flatMap encPr) ++ encI p.Site ++ encI p.Common) ++ (p.Dirty.take j).flatMap encB)) (by rw [List.take_zero, List.flatMap_nil, List.append_nil]; rfl) (fun j rec2 hj hr2 => ?_) fun rec2 => ?_
    · have fb := q285 encB hj
      unfold Z69; simp only; rw [hp]; refine ⟨fun _ => ⟨iX (by omega) (by omega), q153 (q269 ?_ ⟨iI (by omega) (by omega), hr2 _ (Prod.ext rfl ?_)⟩)⟩, fun q => absurd (show (j : Int) < (p.Dirty.length : Int) by omega) q⟩
      · have : (encB (ix p.Dirty (j : Int))).length = (q85 encX (exts (ix p.Dirty (j : Int)))).length := rfl
        rw [List.length_append, List.length_append, List.length_append, List.length_append, List.length_append]; omega
      · rw [q201 encB hj, ← List.append_assoc]; rfl
    · unfold Z69
      simp only; rw [hp]; refine ⟨fun q => absurd q (by omega), fun _ => ⟨iI (by omega) (by omega), hr _ (Prod.ext rfl ?_)⟩⟩; rw [q32, q201 encPr hk, hp]; unfold encPr; simp only [List.append_assoc]
  · rw [q32]; exact hΦ
theorem q59 {t : q11} (h : trkE t = 0) : ∀ p ∈ t.Peers, p.Dirty.length ≤ 100000 := fun p hp => by
  have := ((q495 h).small.2.2 p hp).1; omega
theorem q362 {l : List q10} {want : List (List q16)} {Φ : Bool → Prop} (hl : l.length ≤ 1000) (h : l.map exts = want) (hΦ : Φ true) : Z51 l want Φ := by
  subst h; refine ⟨fun q => absurd (by rw [List.length_map]) q, fun _ => LoopW.upT l.length (fun k => (k : Int)) rfl (fun k rec hk hr => ⟨fun _ => ⟨iX (by omega) (by omega), (exts (ix l (k : Int)), ()), q153 rfl, iX (by omega) (by rw [List.length_map]; omega), (true, ()), q214 (by have := q821 (ix l (k : Int)); show (exts (ix l (k : Int))).length ≤ 1000000; omega) ?_, fun q => absurd rfl q, fun _ => ⟨iI (by omega) (by omega), hr _ rfl⟩⟩, fun q => absurd (show (k : Int) < (l.length : Int) by omega) q⟩) fun rec => ⟨fun q => absurd (show (l.length : Int) < (l.length : Int) from q) (by omega), fun _ => hΦ⟩⟩; rw [q299 _ hk]; show (decide (exts (ix l (k : Int)) = exts (ix l (k : Int))), ()) = (true, ())
  rw [decide_eq_true rfl]
abbrev sA : Sec := Sec.mk (1#8) (0#8) (0#8) (0#8) (0#8) (0#8) (0#8) (0#8)
def aw1 : q11 × Int := newT [4, 2] [3, 1] 0
def aw2 : q11 × Int := q358 aw1.1 (q8.mk 0 0 [sA, sA])
def aw3 : q11 × Int := q358 aw2.1 (q8.mk 1 1 [sA])
def awC : List q14 := [q14.mk 1 2 0 [] [q8.mk 0 1 [sA]]]
def aw5 : q11 × Int := q359 aw3.1 3 1 awC
def aw7 : q11 × Int := newT [4] [2] 5
def aw8 : q11 × Int := q358 aw7.1 (q8.mk 0 0 [sA, sA])
theorem aw_trk : trkE aw1.1 = 0 ∧ trkE aw2.1 = 0 ∧ trkE aw3.1 = 0 ∧ trkE aw5.1 = 0 ∧ trkE aw7.1 = 0 ∧ trkE aw8.1 = 0 := ⟨by kernel_rfl, by kernel_rfl, by kernel_rfl, by kernel_rfl, by kernel_rfl, by kernel_rfl⟩
theorem aw_err : aw1.2 = 0 ∧ aw2.2 = 0 ∧ aw3.2 = 0 ∧ aw5.2 = 0 ∧ aw7.2 = 0 ∧ aw8.2 = 0 := ⟨by kernel_rfl, by kernel_rfl, by kernel_rfl, by kernel_rfl, by kernel_rfl, by kernel_rfl⟩
theorem q825 : (q66 aw3.1 1).2 = (0, 0) ∧ (q66 aw5.1 3).2 = (1, 0) := ⟨by kernel_rfl, by kernel_rfl⟩
theorem q826 : (q66 aw3.1 1).1.map exts = [[q16.mk 0 2], [q16.mk 1 1]] ∧ (q66 aw5.1 3).1.map exts = [[q16.mk 1 1], []] := ⟨by kernel_rfl, by kernel_rfl⟩
theorem aw_enc : bsOf ((q546 aw8.1).map fun x => x) = strK1 := by kernel_rfl
theorem q755 {α β : Type} {f : α → β} {l : List α} {m : List β} (h : l.map f = m) : l.length = m.length := by rw [← h, List.length_map]
theorem q222 {Φ : Bool → Prop} (hΦ : Φ true) : q119 Φ := by
  obtain ⟨t1, t2, t3, t5, t7, t8⟩ := aw_trk; obtain ⟨e1, e2, e3, e5, e7, e8⟩ := aw_err; obtain ⟨d4, d6⟩ := q825; obtain ⟨m4, m6⟩ := q826; refine q141 ?_; refine q81 (t := aw1.1) (q59 t1) (by decide) ?_; refine q81 (t := aw2.1) (q59 t2) (by decide) ?_; refine q80 (t := aw3.1) (q59 t3) ?_
  refine q115 (t := aw3.1) (later := awC) (q59 t3) ⟨by decide, fun c hc => by
    rw [List.mem_singleton.1 hc]
    exact ⟨by decide, by decide, fun w hw => by rw [List.mem_singleton.1 hw]; decide⟩⟩ ?_
  refine q80 (t := aw5.1) (q59 t5) ?_
  have J1 : Z72 Φ () := by
    unfold Z72; refine q141 ?_; refine q81 (t := aw7.1) (w := q8.mk 0 0 [sA, sA]) (q59 t7) (by decide) ?_; refine ⟨fun _ => ⟨fun _ => ?_, fun q => absurd e8 q⟩, fun q => absurd e7 q⟩; refine q286 (t := aw8.1) (q59 t8) (fun _ => ?_) ⟨fun _ _ => rfl, ?_⟩
    · intro k hk
      have hs : aw8.1.Sizes = [4] := by kernel_rfl
      rw [hs] at hk ⊢; have hk : k < 1 := hk; obtain rfl : k = 0 := by omega
      decide
    · rw [decide_eq_true aw_enc]; exact hΦ
  show inI (aw1.2 + aw2.2) ∧ inI ((aw1.2 + aw2.2) + aw3.2) ∧ inI (((aw1.2 + aw2.2) + aw3.2) + (q66 aw3.1 1).2.2) ∧ inI ((((aw1.2 + aw2.2) + aw3.2) + (q66 aw3.1 1).2.2) + aw5.2) ∧ inI (((((aw1.2 + aw2.2) + aw3.2) + (q66 aw3.1 1).2.2) + aw5.2) + (q66 aw5.1 3).2.2) ∧ ((((((aw1.2 + aw2.2) + aw3.2) + (q66 aw3.1 1).2.2) + aw5.2) + (q66 aw5.1 3).2.2) ≠ 0 → _) ∧ (¬ ((((((aw1.2 + aw2.2) + aw3.2) + (q66 aw3.1 1).2.2) + aw5.2) + (q66 aw5.1 3).2.2) ≠ 0) → ((q66 aw3.1 1).2.1 ≠ 0 → _) ∧ (¬ ((q66 aw3.1 1).2.1 ≠ 0) → ((q66 aw5.1 3).2.1 ≠ 1 → _) ∧ (¬ ((q66 aw5.1 3).2.1 ≠ 1) → Z51 (q66 aw3.1 1).1 _ _)))
  rw [e1, e2, e3, e5, d4, d6]; refine ⟨iI (by decide) (by decide), iI (by decide) (by decide), iI (by decide) (by decide), iI (by decide) (by decide), iI (by decide) (by decide), fun q => absurd rfl q, fun _ => ⟨fun q => absurd rfl q, fun _ => ⟨fun q => absurd rfl q, fun _ => ?_⟩⟩⟩; refine q362 (by rw [q755 m4]; decide) m4 (tt ?_); exact q362 (by rw [q755 m6]; decide) m6 (tt J1)
theorem new_ok {sizes sites : List Int} {common : Int} (h : (newT sizes sites common).2 = 0) : TrkOk (newT sizes sites common).1 := by
  unfold newT at h ⊢
  split at h
  · rename_i q; exact absurd h q
  rename_i q; rw [if_neg q]
  split at h
  · exact absurd (show (6 : Int) = 0 from h) (by decide)
  rename_i q2; rw [if_neg q2]
  split at h
  · exact absurd (show (2 : Int) = 0 from h) (by decide)
  rename_i q3; rw [if_neg q3]
  split at h
  · exact absurd (show (8 : Int) = 0 from h) (by decide)
  rename_i q4; rw [if_neg q4]
  split at h
  · exact absurd (show (2 : Int) = 0 from h) (by decide)
  rename_i q5; rw [if_neg q5]; have hs := Classical.not_not.1 q; have hl : ((siteK sites 4).map (newP sizes common)).length = (siteK sites 4).length := List.length_map _; have hl4 := q356 sites 4; have e : ∀ k : Nat, k < (siteK sites 4).length → ix ((siteK sites 4).map (newP sizes common)) (k : Int) = newP sizes common (ix (siteK sites 4) (k : Int)) := fun k hk => q299 _ hk; refine ⟨hs, by rw [hl]; exact hl4, fun k hk => ?_, fun k hk => ?_, fun k hk => ?_, fun i j hij hj => ?_⟩
  · rw [hl] at hk; rw [e k hk]; exact (q113 hs).toBmsOk
  · rw [hl] at hk; rw [e k hk]
    have := (q355.1 (q51 (xs := siteK sites 4) (i := (k : Int)) (iX (by omega) (by omega)))).1; exact ⟨this.1, this.2⟩
  · rw [hl] at hk; rw [e k hk]
    show 0 ≤ common ∧ common ≤ 1073741824; omega
  · rw [hl] at hj; rw [e i (by omega), e j hj]
    have := List.pairwise_iff_getElem.1 (q497 sites 4) i j (by omega) hj hij; show ix (siteK sites 4) (i : Int) < ix (siteK sites 4) (j : Int); rw [q24 (show i < (siteK sites 4).length by omega), q24 hj]; exact this
def wrM (m : List (q9 × Sec)) (v s : Int) : List Sec → List (q9 × Sec)
  | [] => m
  | d :: r => wrM (mput m ⟨v, s⟩ d) v (s + 1) r
theorem q616 {v : Int} {d : Sec} : ∀ (l : List Sec) (m : List (q9 × Sec)) (s : Int), wrM m v s (l ++ [d]) = mput (wrM m v s l) ⟨v, s + (l.length : Int)⟩ d
  | [], m, s => by
    show mput m ⟨v, s⟩ d = mput m ⟨v, s + 0⟩ d; rw [Int.add_zero]
  | x :: l, m, s => by
    rw [List.cons_append, wrM, wrM, q616 l, show s + 1 + (l.length : Int) = s + ((x :: l).length : Int) by rw [List.length_cons]; omega]
def effM (l : List q8) : List (q9 × Sec) := l.foldl (fun m w => wrM m w.Volume w.Start w.Data) []
theorem q129 (l : List q8) (w : q8) : effM (l ++ [w]) = wrM (effM l) w.Volume w.Start w.Data := by simp [effM]
theorem q617 {κ ν : Type} [DecidableEq κ] (k : κ) (v : ν) : ∀ m : List (κ × ν), (mput m k v).length ≤ m.length + 1
  | [] => by simp [mput]
  | p :: r => by
    unfold mput
    split
    · simp
    · have := q617 k v r
      simp only [List.length_cons]; omega
theorem q547 {v : Int} : ∀ (l : List Sec) (m : List (q9 × Sec)) (s : Int), (wrM m v s l).length ≤ m.length + l.length
  | [], m, s => Nat.le_refl _
  | d :: r, m, s => by
    have h1 := q547 (v := v) r (mput m ⟨v, s⟩ d) (s + 1); have h2 := q617 (⟨v, s⟩ : q9) d m; rw [wrM, List.length_cons]; omega
theorem q618 {c : Nat} : ∀ (l : List q8) (m : List (q9 × Sec)), (∀ w ∈ l, w.Data.length ≤ c) → (l.foldl (fun m w => wrM m w.Volume w.Start w.Data) m).length ≤ m.length + l.length * c
  | [], m, _ => by simp
  | w :: l, m, h => by
    have h1 := q618 l (wrM m w.Volume w.Start w.Data) fun x hx => h x (List.mem_cons_of_mem _ hx); have h2 := q547 (v := w.Volume) w.Data m w.Start; have h3 := h w (List.mem_cons_self ..); rw [List.foldl_cons, List.length_cons, Nat.succ_mul]; omega
theorem q619 {κ ν : Type} [DecidableEq κ] {p : κ → Prop} {k : κ} {v : ν} (hk : p k) : ∀ {m : List (κ × ν)}, (∀ q ∈ m, p q.1) → ∀ q ∈ mput m k v, p q.1
  | [], _, q, hq => by
    obtain rfl : q = (k, v) := by simpa [mput] using hq
    exact hk
  | a :: r, h, q, hq => by
    unfold mput at hq
    split at hq
    · rcases List.mem_cons.1 hq with rfl | hq
      · exact h a (List.mem_cons_self ..)
      · exact h q (List.mem_cons_of_mem _ hq)
    · rcases List.mem_cons.1 hq with rfl | hq
      · exact h _ (List.mem_cons_self ..)
      · exact q619 hk (fun q hq => h q (List.mem_cons_of_mem _ hq)) q hq
theorem q548 {p : q9 → Prop} {v : Int} : ∀ (l : List Sec) (m : List (q9 × Sec)) (s : Int), (∀ j : Nat, j < l.length → p ⟨v, s + (j : Int)⟩) → (∀ q ∈ m, p q.1) → ∀ q ∈ wrM m v s l, p q.1
  | [], m, s, _, h => h
  | d :: r, m, s, hp, h => by
    refine q548 r _ (s + 1) (fun j hj => ?_) (q619 ?_ h)
    · have := hp (j + 1) (by rw [List.length_cons]; omega)
      rwa [show s + ((j + 1 : Nat) : Int) = s + 1 + (j : Int) by omega] at this
    · have := hp 0 (by rw [List.length_cons]; omega)
      rwa [show s + ((0 : Nat) : Int) = s by omega] at this
def q116 (w : q8) : Int := if w.Volume < 0 ∨ 8 ≤ w.Volume then 7 else if w.Data.length = 0 then 1 else if w.Start < 0 ∨ 4096 - (w.Data.length : Int) < w.Start then 2 else 0
theorem q363 {w : q8} (h : q116 w = 0) : 0 ≤ w.Volume ∧ w.Volume < 8 ∧ 0 < w.Data.length ∧ 0 ≤ w.Start ∧ w.Start + (w.Data.length : Int) ≤ 4096 := by
  unfold q116 at h
  split at h
  · omega
  · split at h
    · omega
    · split at h
      · omega
      · omega
theorem q827 {w : q8} (hl : w.Data.length ≤ 1000000) {Φ : Int → Prop} (h : Φ (q116 w)) : Z84 w Φ := by
  unfold q116 at h
  have J : ∀ b : Bool, (b = true ↔ w.Volume < 0 ∨ 8 ≤ w.Volume) → Z83 w Φ b := fun b hb => by
    refine ⟨fun e => by rw [if_pos (hb.1 e)] at h; exact h, fun e => ?_⟩; rw [if_neg fun q => e (hb.2 q)] at h; refine ⟨fun q => by rw [if_pos (by omega)] at h; exact h, fun q => ?_⟩; rw [if_neg (by omega)] at h; refine ⟨fun r => by rw [if_pos (.inl r)] at h; exact h, fun r => ⟨iI (by omega) (by omega), fun s => by rw [if_pos (.inr s)] at h; exact h, fun s => by rw [if_neg (by omega)] at h; exact h⟩⟩
  exact ⟨fun q => J true ⟨fun _ => .inl q, fun _ => rfl⟩, fun q => J _ (by simp; omega)⟩
def PlL (l : List q8) : Prop := ∀ w ∈ l, q116 w = 0
theorem q649 {l : List q8} (h : PlL l) : ∀ q ∈ effM l, 0 ≤ q.1.volume ∧ q.1.volume < 8 ∧ 0 ≤ q.1.sector ∧ q.1.sector < 4096 := by
  have key : ∀ (l : List q8) (m : List (q9 × Sec)), PlL l → (∀ q ∈ m, 0 ≤ q.1.volume ∧ q.1.volume < 8 ∧ 0 ≤ q.1.sector ∧ q.1.sector < 4096) → ∀ q ∈ l.foldl (fun m w => wrM m w.Volume w.Start w.Data) m, 0 ≤ q.1.volume ∧ q.1.volume < 8 ∧ 0 ≤ q.1.sector ∧ q.1.sector < 4096 := by
    intro l
    induction l with
    | nil => intro m _ h; exact h
    | cons w l ih =>
      intro m h hm; have := q363 (h w (List.mem_cons_self ..)); exact ih _ (fun x hx => h x (List.mem_cons_of_mem _ hx)) (q548 (p := fun c => 0 ≤ c.volume ∧ c.volume < 8 ∧ 0 ≤ c.sector ∧ c.sector < 4096) _ _ _ (fun j hj => ⟨by show 0 ≤ w.Volume; omega, by show w.Volume < 8; omega, by show 0 ≤ w.Start + (j : Int); omega, by show w.Start + (j : Int) < 4096; omega⟩) hm)
  exact key l [] h fun q hq => by cases hq
def clsW (xs : List q8) (ys : List Sec) : List q8 := put xs ((xs.length : Int) - 1) ⟨(ix xs ((xs.length : Int) - 1)).Volume, (ix xs ((xs.length : Int) - 1)).Start, ys⟩
def grpS (m : List (q9 × Sec)) (st : q9 × List q8 × List Sec) (p : q9) : q9 × List q8 × List Sec :=
  if p ≠ st.1 then (⟨p.volume, p.sector + 1⟩, clsW st.2.1 st.2.2 ++ [⟨p.volume, p.sector, []⟩], [] ++ [mget m p sec0]) else (⟨p.volume, p.sector + 1⟩, st.2.1, st.2.2 ++ [mget m p sec0])
def grpL (m : List (q9 × Sec)) (l : List q9) : q9 × List q8 × List Sec := l.foldl (grpS m) (⟨-1, 0⟩, [], [])
theorem q364 (m : List (q9 × Sec)) (l : List q9) (p : q9) : grpL m (l ++ [p]) = grpS m (grpL m l) p := by simp [grpL]
def canL (m : List (q9 × Sec)) : List q8 := clsW (grpL m (sortG pleB (m.map (·.1)))).2.1 (grpL m (sortG pleB (m.map (·.1)))).2.2
theorem q450 (xs : List q8) (ys : List Sec) : (clsW xs ys).length = xs.length := q61 _ _ _
theorem q232 {α : Type} {P : List α → Prop} (h0 : P []) (h1 : ∀ l x, P l → P (l ++ [x])) (l : List α) : P l := by
  rw [← List.reverse_reverse l]
  induction l.reverse with
  | nil => exact h0
  | cons x r ih => rw [List.reverse_cons]; exact h1 _ _ ih
theorem q270 : ∀ (n : Nat) (l : List Nat), l.Nodup → (∀ i ∈ l, i < n) → l.length ≤ n
  | 0, [], _, _ => Nat.le_refl _
  | 0, i :: _, _, h => absurd (h i (List.mem_cons_self ..)) (Nat.not_lt_zero i)
  | n + 1, l, hd, h => by
    by_cases hn : n ∈ l
    · have h1 := q270 n (l.erase n) (hd.erase n) fun i hi => by
        have h2 := (List.Nodup.mem_erase_iff hd).1 hi; have h3 := h i h2.2; have := h2.1; omega
      rw [List.length_erase_of_mem hn] at h1; omega
    · have h1 := q270 n l hd fun i hi => by
        have h3 := h i hi; have : i ≠ n := by rintro rfl; exact hn hi
        omega
      omega
theorem q620 (m : List (q9 × Sec)) : ∀ l : List q9, (grpL m l).2.1.length ≤ l.length ∧ (grpL m l).2.2.length ≤ l.length ∧ (l ≠ [] → (∀ p ∈ l, p ≠ ⟨-1, 0⟩) → 0 < (grpL m l).2.1.length) := by
  refine q232 ⟨Nat.le_refl _, Nat.le_refl _, fun h => absurd rfl h⟩ fun l p ih => ?_; obtain ⟨h1, h2, h3⟩ := ih; rw [q364, q18]; unfold grpS
  split
  · refine ⟨?_, ?_, fun _ _ => ?_⟩
    · simp only [List.length_append, q450, List.length_singleton]; omega
    · simp only [List.length_append, List.length_nil, List.length_singleton]; omega
    · simp only [List.length_append, q450, List.length_singleton]; omega
  · rename_i hp
    refine ⟨by simp only; omega, by simp only [List.length_append, List.length_singleton]; omega, fun _ hall => ?_⟩; by_cases hl : l = []
    · subst hl
      exact absurd (Classical.not_not.1 hp) (hall p (by simp))
    · exact h3 hl fun q hq => hall q (List.mem_append_left _ hq)
theorem q621 {p : q9} {Φ : q9 → Prop} (h : inI (p.sector + 1)) (hΦ : Φ ⟨p.volume, p.sector + 1⟩) : Z85 p Φ := ⟨h, hΦ⟩
theorem group_W {m : List (q9 × Sec)} {ps : List q9} {Φ : List q8 × Int → Prop} (hb : ps.length ≤ 100000000) (hp : ∀ p ∈ ps, 0 ≤ p.volume ∧ p.volume < 8 ∧ 0 ≤ p.sector ∧ p.sector < 4096) (hΦ : Φ (clsW (grpL m ps).2.1 (grpL m ps).2.2, 0)) : LoopW (Z92 m ps Φ) (0, -1, 0, [], []) := by
  have lOk : ∀ {n : Nat}, n ≤ 100000001 → lenOk n 40 := fun h => ⟨by omega, by simp only [maxLen]; omega⟩
  have lOk8 : ∀ {n : Nat}, n ≤ 100000001 → lenOk n 8 := fun h => ⟨by omega, by simp only [maxLen]; omega⟩
  refine LoopW.upT ps.length (fun k => ((k : Int), (grpL m (ps.take k)).1.volume, (grpL m (ps.take k)).1.sector, (grpL m (ps.take k)).2.1, (grpL m (ps.take k)).2.2)) rfl (fun k rec hk hrec => ?_) fun rec => ?_
  · obtain ⟨l1, l2, l3⟩ := q620 m (ps.take k)
    rw [lenT (by omega)] at l1 l2; have hmem : ix ps (k : Int) ∈ ps := q51 ⟨by omega, by omega⟩; have hpl := hp _ hmem; have hst : grpL m (ps.take (k + 1)) = grpS m (grpL m (ps.take k)) (ix ps (k : Int)) := by rw [q69 hk, q364]
    obtain ⟨n1, n2, n3⟩ := q620 m (ps.take (k + 1))
    have n4 := n3 (by rw [q69 hk]; simp) (fun p hq => by
      have := hp p (List.mem_of_mem_take hq)
      rintro rfl
      simp at this)
    rw [lenT (by omega)] at n1 n2
    have J : ∀ xs ys, (⟨(ix ps (k : Int)).volume, (ix ps (k : Int)).sector + 1⟩, xs, ys ++ [mget m (ix ps (k : Int)) sec0]) = grpL m (ps.take (k + 1)) → Z91 m ps (k : Int) rec Φ (xs, ys) := fun xs ys e => by
      have e1 : xs = (grpL m (ps.take (k + 1))).2.1 := by rw [← e]
      have e2 : ys ++ [mget m (ix ps (k : Int)) sec0] = (grpL m (ps.take (k + 1))).2.2 := by rw [← e]
      refine ⟨iI (by omega) (by rw [e1]; omega), iX (by rw [e1]; omega) (by omega), by omega, lOk8 (by rw [e2]; omega), q621 (iI (by omega) (by omega)) ⟨iI (by omega) (by omega), hrec _ ?_⟩⟩; rw [← e]; rfl
    refine ⟨fun _ => ⟨iX (by omega) (by omega), ?_⟩, fun h => absurd (show (k : Int) < (ps.length : Int) by omega) h⟩; show (ix ps (k : Int) ≠ _ → _) ∧ (¬ (ix ps (k : Int) ≠ _) → _)
    refine ⟨fun h => ⟨lOk ?_, J _ _ ?_⟩, fun h => J _ _ ?_⟩
    · have := q450 (grpL m (ps.take k)).2.1 (grpL m (ps.take k)).2.2
      unfold clsW at this; rw [q18, this]; omega
    · rw [hst]; unfold grpS; rw [if_pos h]; rfl
    · rw [hst]; unfold grpS; rw [if_neg h]
  · refine ⟨fun h => absurd h (by simp), fun _ => ?_⟩
    rw [show ps.take ps.length = ps from q32 ps]; exact hΦ
theorem q828 {m : List (q9 × Sec)} {Φ : List q8 × Int → Prop} (hb : m.length ≤ 100000000) (hp : ∀ q ∈ m, 0 ≤ q.1.volume ∧ q.1.volume < 8 ∧ 0 ≤ q.1.sector ∧ q.1.sector < 4096) (hΦ : Φ (canL m, 0)) : LoopW (Z93 m Φ) ((m.length, []), []) := by
  have hent : ∀ i, i < m.length → ent m i ∈ m := fun i hi => by
    unfold ent; rw [List.getD_eq_getElem?_getD, List.getElem?_eq_getElem hi]; exact List.getElem_mem hi
  refine LoopW.of_inv (fun s => s.1.1 = m.length ∧ s.1.2.Nodup ∧ (∀ i ∈ s.1.2, i < m.length) ∧ s.2 = s.1.2.reverse.map fun i => (ent m i).1) (fun s => m.length - s.1.2.length) ?_ ⟨rfl, List.nodup_nil, (fun _ h => by cases h), rfl⟩
  rintro ⟨⟨n, seen⟩, ps⟩ rec ⟨h1, h2, h3, h4⟩ hrec
  simp only at h1 h2 h3 h4; subst h1 h4; have hle : seen.length ≤ m.length := q270 _ _ h2 h3; refine ⟨rfl, fun hall => ?_, fun i hi hni => ⟨rfl, hi, ?_, hrec _ ⟨rfl, List.nodup_cons.2 ⟨hni, h2⟩, fun j hj => ?_, ?_⟩ ?_⟩⟩
  · have hperm : seen.Perm (List.range m.length) := (List.perm_ext_iff_of_nodup h2 List.nodup_range).2 fun i => ⟨fun hi => List.mem_range.2 (h3 i hi), fun hi => hall i (List.mem_range.1 hi)⟩
    have hmap : (List.range m.length).map (fun i => (ent m i).1) = m.map (·.1) := by
      apply List.ext_getElem
      · simp
      · intro i hi1 hi2
        have hi : i < m.length := by simpa using hi2
        simp only [List.getElem_map, List.getElem_range]; unfold ent; rw [List.getD_eq_getElem?_getD, List.getElem?_eq_getElem hi]; rfl
    have hp2 : (seen.reverse.map fun i => (ent m i).1).Perm (m.map (·.1)) := by
      rw [← hmap]; exact ((List.reverse_perm seen).trans hperm).map _
    have hsort : sortG pleB (seen.reverse.map fun i => (ent m i).1) = sortG pleB (m.map (·.1)) := q602 q196 q197 q603 ((q50 pleB _).trans hp2) (q137 q196 q197 _); refine ⟨by rw [hp2.length_eq, List.length_map]; omega, ?_⟩; rw [hsort]; have hlen : (sortG pleB (m.map (·.1))).length = m.length := by rw [(q50 pleB _).length_eq, List.length_map]
    refine group_W (by rw [hlen]; exact hb) (fun p hp' => ?_) hΦ; obtain ⟨q, hq, rfl⟩ := List.mem_map.1 ((q50 pleB _).mem_iff.1 hp'); exact hp q hq
  · refine ⟨?_, ?_⟩
    · rw [q18, List.length_map, List.length_reverse]; omega
    · rw [q18, List.length_map, List.length_reverse]; simp only [maxLen]; omega
  · rcases List.mem_cons.1 hj with rfl | hj
    · exact hi
    · exact h3 j hj
  · simp
  · have h6 : (i :: seen).length ≤ m.length := q270 _ _ (List.nodup_cons.2 ⟨hni, h2⟩) fun j hj => by
      rcases List.mem_cons.1 hj with rfl | hj
      · exact hi
      · exact h3 j hj
    show m.length - (i :: seen).length < m.length - seen.length; rw [List.length_cons] at h6 ⊢; omega
theorem q829 {l : List q8} {Φ : List q8 × Int → Prop} (hl : l.length ≤ 20000) (hp : PlL l) (hΦ : Φ (canL (effM l), 0)) : LoopW (Z94 l Φ) (0, []) := by
  have hpl : ∀ k, k < l.length → q116 (ix l (k : Int)) = 0 := fun k hk => hp _ (q51 ⟨by omega, by omega⟩)
  have hlen : (effM l).length ≤ 100000000 := by
    have := q618 (c := 4096) l [] fun w hw => by have := q363 (hp w hw); omega
    have h2 := Nat.mul_le_mul_right 4096 hl; show (l.foldl _ []).length ≤ _; simp only [List.length_nil] at this; omega
  refine LoopW.upT l.length (fun k => ((k : Int), effM (l.take k))) rfl (fun k rec hk hrec => ?_) fun rec => ?_
  · refine ⟨fun _ => ⟨iX (by omega) (by omega), ?_⟩, fun h => absurd (show (k : Int) < (l.length : Int) by omega) h⟩
    obtain ⟨a1, a2, a3, a4, a5⟩ := q363 (hpl k hk); have hrec := hrec _ rfl; rw [q69 hk, q129] at hrec; refine LoopW.upT (ix l (k : Int)).Data.length (fun j => ((j : Int), (ix l (k : Int)).Volume, (ix l (k : Int)).Start + (j : Int), wrM (effM (l.take k)) (ix l (k : Int)).Volume (ix l (k : Int)).Start ((ix l (k : Int)).Data.take j))) (by simp [wrM]) (fun j rec3 hj h3 => ?_) fun rec3 => ?_
    · refine ⟨fun _ => ⟨iX (by omega) (by omega), q621 (iI (by show _ ≤ (ix l (k : Int)).Start + (j : Int) + 1; omega) (by show (ix l (k : Int)).Start + (j : Int) + 1 ≤ _; omega)) ⟨iI (by omega) (by omega), h3 _ ?_⟩⟩, fun h => absurd (show (j : Int) < ((ix l (k : Int)).Data.length : Int) by omega) h⟩
      rw [q69 hj, q616, lenT (by omega)]; rw [show (ix l (k : Int)).Start + ((j + 1 : Nat) : Int) = (ix l (k : Int)).Start + (j : Int) + 1 by omega]; rfl
    · refine ⟨fun h => absurd h (by simp), fun _ => ⟨iI (by omega) (by omega), ?_⟩⟩
      rw [show (ix l (k : Int)).Data.take (ix l (k : Int)).Data.length = (ix l (k : Int)).Data from q32 _]; exact hrec
  · refine ⟨fun h => absurd h (by simp), fun _ => ?_⟩
    rw [show l.take l.length = l from q32 l]; exact ⟨by omega, ⟨by rw [Int.toNat_natCast]; omega, by rw [Int.toNat_natCast]; simp only [maxLen]; omega⟩, q828 hlen (q649 hp) hΦ⟩
def foldR (l : List q8) : List q8 × Int := if q71 (fun k => q116 (ix l (k : Int))) l.length ≠ 0 then ([], q71 (fun k => q116 (ix l (k : Int))) l.length) else (canL (effM l), 0)
theorem q307 {l : List q8} {Φ : List q8 × Int → Prop} (hl : l.length ≤ 20000) (hd : ∀ w ∈ l, w.Data.length ≤ 1000000) (hΦ : Φ (foldR l)) : Z96 l Φ := by
  unfold foldR at hΦ; refine LoopW.errI l.length (fun k => (k : Int)) (fun k => q116 (ix l (k : Int))) (Ψ := fun e => Φ (if e ≠ 0 then ([], e) else (canL (effM l), 0))) rfl hΦ (fun k rec hk hI h1 h0 => ?_) fun rec hI h0 => ?_
  · refine ⟨fun _ => ⟨iX (by omega) (by omega), q827 (hd _ (q51 ⟨by omega, by omega⟩)) ⟨fun e => ?_, fun e => ⟨iI (by omega) (by omega), h0 (Classical.not_not.1 e) _ rfl⟩⟩⟩, fun h => absurd (show (k : Int) < (l.length : Int) by omega) h⟩
    have := h1 e; rwa [if_pos e] at this
  · refine ⟨fun h => absurd h (by simp), fun _ => ?_⟩
    rw [if_neg (by simp)] at h0; refine q829 hl (fun w hw => ?_) h0; obtain ⟨k, hk, rfl⟩ := List.getElem_of_mem hw; have := hI k hk; rwa [q24 hk] at this
theorem q756 {κ ν : Type} [DecidableEq κ] (k : κ) (v : ν) (c : κ) : ∀ m : List (κ × ν), mfind (mput m k v) c = if c = k then some v else mfind m c
  | [] => by unfold mput mfind mfind; rfl
  | p :: m => by
    unfold mput; by_cases h : k = p.1
    · rw [if_pos h]
      unfold mfind; by_cases hc : c = k
      · rw [if_pos (by rw [hc, h]), if_pos hc]
      · rw [if_neg (fun t => hc (t.trans h.symm)), if_neg hc, if_neg (fun t => hc (t.trans h.symm))]
    · rw [if_neg h]
      unfold mfind; rw [q756 k v c m]; by_cases hc : c = k
      · rw [if_neg (fun t => h (hc.symm.trans t)), if_pos hc, if_pos hc]
      · rw [if_neg hc, if_neg hc]
theorem q202 {κ ν : Type} [DecidableEq κ] (c : κ) : ∀ m : List (κ × ν), c ∈ m.map (·.1) ↔ ∃ d, mfind m c = some d
  | [] => by simp [mfind]
  | p :: m => by
    unfold mfind; by_cases h : c = p.1
    · rw [if_pos h]; simp [h]
    · rw [if_neg h, ← q202 c m, List.map_cons, List.mem_cons]
      exact ⟨fun q => q.resolve_left h, .inr⟩
theorem q757 {κ ν : Type} [DecidableEq κ] (k : κ) (v : ν) {m : List (κ × ν)} (c : κ) : c ∈ (mput m k v).map (·.1) ↔ c = k ∨ c ∈ m.map (·.1) := by
  rw [q202, q202, q756]; by_cases h : c = k
  · rw [if_pos h]; exact ⟨fun _ => .inl h, fun _ => ⟨v, rfl⟩⟩
  · rw [if_neg h]; exact ⟨.inr, fun q => q.resolve_left h⟩
theorem q403 {κ ν : Type} [DecidableEq κ] (k : κ) (v : ν) : ∀ {m : List (κ × ν)}, (m.map (·.1)).Nodup → ((mput m k v).map (·.1)).Nodup
  | [], _ => by simp [mput]
  | p :: m, h => by
    have h1 := List.nodup_cons.1 (show (p.1 :: m.map (·.1)).Nodup from h); unfold mput; by_cases hk : k = p.1
    · rw [if_pos hk]; exact h
    · rw [if_neg hk]
      refine List.nodup_cons.2 ⟨fun q => ?_, q403 k v h1.2⟩; rcases (q757 k v p.1).1 q with q | q
      · exact hk q.symm
      · exact h1.1 q
theorem q503 {v : Int} : ∀ (l : List Sec) (m : List (q9 × Sec)) (s : Int), (m.map (·.1)).Nodup → ((wrM m v s l).map (·.1)).Nodup
  | [], _, _, h => h
  | _ :: l, _, _, h => q503 l _ _ (q403 _ _ h)
theorem q650 (l : List q8) : ((effM l).map (·.1)).Nodup := by
  refine q232 (P := fun l => ((effM l).map (·.1)).Nodup) List.nodup_nil (fun l w h => ?_) l; rw [q129]; exact q503 _ _ _ h
theorem ix_cons {α : Type} [Dt α] (x : α) (l : List α) (i : Int) (h : 0 ≤ i) : ix (x :: l) i = if i = 0 then x else ix l (i - 1) := by
  obtain ⟨k, rfl⟩ := Int.eq_ofNat_of_zero_le h; cases k with
  | zero => rfl
  | succ k => rw [if_neg (by omega), show ((k + 1 : Nat) : Int) - 1 = (k : Int) by omega]; rfl
theorem q319 {v : Int} (q : q9) : ∀ (l : List Sec) (m : List (q9 × Sec)) (s : Int), mfind (wrM m v s l) q = if q.volume = v ∧ s ≤ q.sector ∧ q.sector < s + (l.length : Int) then some (ix l (q.sector - s)) else mfind m q
  | [], m, s => by rw [if_neg (by rw [List.length_nil]; omega)]; rfl
  | d :: l, m, s => by
    have el : ((d :: l).length : Int) = (l.length : Int) + 1 := by rw [List.length_cons]; rfl
    rw [wrM, q319 q l, q756, el]; by_cases h : q.volume = v ∧ s ≤ q.sector ∧ q.sector < s + ((l.length : Int) + 1)
    · rw [if_pos h, ix_cons _ _ _ (by omega)]
      by_cases h0 : q.sector = s
      · rw [if_neg (by omega), if_pos (q97 h.1 h0), if_pos (by omega)]
      · rw [if_pos (by omega), if_neg (by omega), show q.sector - (s + 1) = q.sector - s - 1 by omega]
    · rw [if_neg h, if_neg (by omega), if_neg (fun t => h (by rw [t]; exact ⟨rfl, Int.le_refl _, by show s < _; omega⟩))]
theorem wrM_sum {v : Int} (l : List Sec) (m : List (q9 × Sec)) (s : Int) : (wrM m v s l).length ≤ m.length + l.length := q547 l m s
def secN (l : List q8) : Nat := (l.map (·.Data.length)).sum
theorem q233 (a b : List q8) : secN (a ++ b) = secN a + secN b := by unfold secN; rw [List.map_append, List.sum_append_nat]
theorem q622 (w : q8) : secN [w] = w.Data.length := by simp [secN]
theorem q830 (l : List q8) : (effM l).length ≤ secN l := by
  refine q232 (P := fun l => (effM l).length ≤ secN l) (Nat.le_refl _) (fun l w h => ?_) l; rw [q129, q233, q622]; have := wrM_sum (v := w.Volume) w.Data (effM l) w.Start; omega
def behW (w : q8) : q9 := ⟨w.Volume, w.Start + (w.Data.length : Int)⟩
def stepR (m : List (q9 × Sec)) (R : List q8) (p : q9) : List q8 :=
  match R with
  | [] => [⟨p.volume, p.sector, [mget m p sec0]⟩]
  | w :: r => if p = behW w then ⟨w.Volume, w.Start, w.Data ++ [mget m p sec0]⟩ :: r else ⟨p.volume, p.sector, [mget m p sec0]⟩ :: w :: r
theorem q758 (xs : List q8) (w : q8) (ys : List Sec) : clsW (xs ++ [w]) ys = xs ++ [⟨w.Volume, w.Start, ys⟩] := by
  have e : (((xs ++ [w]).length : Nat) : Int) - 1 = (xs.length : Int) := by rw [q18]; omega
  have g : ix (xs ++ [w]) (xs.length : Int) = w := by rw [q24 (by rw [q18]; omega)]; simp
  unfold clsW; rw [e, g]; show (xs ++ [w]).set xs.length _ = _; rw [List.set_append_right _ _ (Nat.le_refl _), Nat.sub_self]; rfl
def InvG (st : q9 × List q8 × List Sec) : List q8 → Prop
  | [] => st = (⟨-1, 0⟩, [], [])
  | w :: r => st.1 = behW w ∧ st.2.2 = w.Data ∧ ∃ d, st.2.1 = r.reverse ++ [⟨w.Volume, w.Start, d⟩]
theorem InvG.cls {st : q9 × List q8 × List Sec} : ∀ {R : List q8}, InvG st R → clsW st.2.1 st.2.2 = R.reverse
  | [], h => by rw [show st = (⟨-1, 0⟩, [], []) from h]; rfl
  | w :: r, ⟨_, h2, d, h3⟩ => by rw [h3, q758, h2, List.reverse_cons]
theorem q831 (m : List (q9 × Sec)) (ps : List q9) : (∀ p ∈ ps, 0 ≤ p.volume) → InvG (grpL m ps) (ps.foldl (stepR m) []) := by
  refine q232 (P := fun ps => (∀ p ∈ ps, 0 ≤ p.volume) → InvG (grpL m ps) (ps.foldl (stepR m) [])) (fun _ => rfl) (fun ps p ih h => ?_) ps; have ih := ih fun q hq => h q (List.mem_append_left _ hq); have hp := h p (by simp); rw [q364, List.foldl_append]; show InvG (grpS m (grpL m ps) p) (stepR m (ps.foldl (stepR m) []) p); have hc := ih.cls; generalize ps.foldl (stepR m) [] = R at ih hc ⊢; generalize grpL m ps = st at ih hc ⊢; unfold grpS; cases R with
  | nil =>
    have e : st = (⟨-1, 0⟩, [], []) := ih; rw [if_pos (by rw [e]; rintro rfl; exact absurd hp (by show ¬ ((0 : Int) ≤ -1); omega)), hc]; exact ⟨rfl, rfl, [], rfl⟩
  | cons w r =>
    obtain ⟨h1, h2, d, h3⟩ := ih; unfold stepR; by_cases hb : p = behW w
    · simp only [if_pos hb]
      rw [if_neg (by rw [h1, hb]; exact fun t => t rfl)]; refine ⟨?_, by show st.2.2 ++ _ = _; rw [h2], d, h3⟩; show (⟨p.volume, p.sector + 1⟩ : q9) = behW ⟨w.Volume, w.Start, w.Data ++ [mget m p sec0]⟩; unfold behW; rw [hb, q18]; exact q97 rfl (by show w.Start + (w.Data.length : Int) + 1 = w.Start + ((w.Data.length + 1 : Nat) : Int); omega)
    · simp only [if_neg hb]
      rw [if_pos (by rw [h1]; exact hb), hc]; exact ⟨rfl, rfl, [], rfl⟩
def ltQ (a b : q9) : Prop := a.volume < b.volume ∨ a.volume = b.volume ∧ a.sector < b.sector
def gapW (y x : q8) : Prop := y.Volume < x.Volume ∨ y.Volume = x.Volume ∧ y.Start + (y.Data.length : Int) < x.Start
structure Grp (m : List (q9 × Sec)) (ps : List q9) (R : List q8) : Prop where
  ne : ∀ w ∈ R, 0 < w.Data.length
  gap : R.Pairwise fun x y => gapW y x
  mem : ∀ w ∈ R, ∀ j : Nat, j < w.Data.length → (⟨w.Volume, w.Start + (j : Int)⟩ : q9) ∈ ps ∧ ix w.Data (j : Int) = mget m ⟨w.Volume, w.Start + (j : Int)⟩ sec0
  cov : ∀ p ∈ ps, ∃ w ∈ R, w.Volume = p.volume ∧ w.Start ≤ p.sector ∧ p.sector < w.Start + (w.Data.length : Int)
  sum : secN R = ps.length
theorem ix_snoc {α : Type} [Dt α] (xs : List α) (x : α) (j : Nat) (h : j < (xs ++ [x]).length) : ix (xs ++ [x]) (j : Int) = if j = xs.length then x else ix xs (j : Int) := by
  rw [q18] at h; by_cases e : j = xs.length
  · rw [if_pos e, q24 (by rw [q18]; omega)]; simp [e]
  · rw [if_neg e, q24 (by rw [q18]; omega), q24 (by omega), List.getElem_append_left (by omega)]
theorem Grp.step {m : List (q9 × Sec)} {ps : List q9} {R : List q8} (g : Grp m ps R) {p : q9} (hp : ∀ q ∈ ps, ltQ q p) : Grp m (ps ++ [p]) (stepR m R p) := by
  have one : ∀ (w : q8), w ∈ R → w.Volume < p.volume ∨ w.Volume = p.volume ∧ w.Start + (w.Data.length : Int) ≤ p.sector := fun w hw => by
    have h0 := g.ne w hw; have h1 := hp _ (g.mem w hw (w.Data.length - 1) (by omega)).1; unfold ltQ at h1; simp only at h1; omega
  have nw : ∀ j : Nat, j < [mget m p sec0].length → (⟨p.volume, p.sector + (j : Int)⟩ : q9) ∈ ps ++ [p] ∧ ix [mget m p sec0] (j : Int) = mget m ⟨p.volume, p.sector + (j : Int)⟩ sec0 := fun j hj => by
    obtain rfl : j = 0 := by simpa using hj
    have e : (⟨p.volume, p.sector + ((0 : Nat) : Int)⟩ : q9) = p := q97 rfl (by show p.sector + ((0 : Nat) : Int) = p.sector; omega); rw [e]; exact ⟨by simp, rfl⟩
  have old : ∀ w ∈ R, ∀ j : Nat, j < w.Data.length → (⟨w.Volume, w.Start + (j : Int)⟩ : q9) ∈ ps ++ [p] ∧ ix w.Data (j : Int) = mget m ⟨w.Volume, w.Start + (j : Int)⟩ sec0 := fun w hw j hj => ⟨List.mem_append_left _ (g.mem w hw j hj).1, (g.mem w hw j hj).2⟩
  have push : (∀ w ∈ R, p ≠ behW w) → Grp m (ps ++ [p]) (⟨p.volume, p.sector, [mget m p sec0]⟩ :: R) := fun hb => by
    refine ⟨fun w hw => ?_, List.pairwise_cons.2 ⟨fun y hy => ?_, g.gap⟩, fun w hw => ?_, fun q hq => ?_, ?_⟩
    · rcases List.mem_cons.1 hw with rfl | hw
      · exact Nat.zero_lt_one
      · exact g.ne w hw
    · have h1 := one y hy
      have h2 := hb y hy; unfold gapW; rcases h1 with h1 | h1
      · exact .inl h1
      · refine .inr ⟨h1.1, ?_⟩
        show y.Start + (y.Data.length : Int) < p.sector; have : y.Start + (y.Data.length : Int) ≠ p.sector := fun t => h2 (q97 h1.1.symm t.symm); omega
    · rcases List.mem_cons.1 hw with rfl | hw
      · exact nw
      · exact old w hw
    · rcases List.mem_append.1 hq with hq | hq
      · obtain ⟨w, hw, h⟩ := g.cov q hq
        exact ⟨w, List.mem_cons_of_mem _ hw, h⟩
      · obtain rfl := List.mem_singleton.1 hq
        exact ⟨_, List.mem_cons_self .., rfl, Int.le_refl _, by show q.sector < q.sector + ((1 : Nat) : Int); omega⟩
    · have := g.sum
      unfold secN at *; rw [List.map_cons, List.sum_cons, this, q18]; show 1 + ps.length = _; omega
  cases R with
  | nil => exact push fun w hw => absurd hw List.not_mem_nil
  | cons w r =>
    have gp := List.pairwise_cons.1 g.gap; unfold stepR; by_cases hb : p = behW w
    · simp only [if_pos hb]
      have hv : w.Volume = p.volume := by rw [hb]; rfl
      have hsx : w.Start + (w.Data.length : Int) = p.sector := by rw [hb]; rfl
      refine ⟨fun x hx => ?_, List.pairwise_cons.2 ⟨fun y hy => gp.1 y hy, gp.2⟩, fun x hx => ?_, fun q hq => ?_, ?_⟩
      · rcases List.mem_cons.1 hx with rfl | hx
        · show 0 < (w.Data ++ _).length
          rw [q18]; omega
        · exact g.ne x (List.mem_cons_of_mem _ hx)
      · rcases List.mem_cons.1 hx with rfl | hx
        · intro j hj
          have hj : j < (w.Data ++ [mget m p sec0]).length := hj; show (⟨w.Volume, w.Start + (j : Int)⟩ : q9) ∈ ps ++ [p] ∧ ix (w.Data ++ [mget m p sec0]) (j : Int) = _; rw [ix_snoc _ _ _ hj]; rw [q18] at hj; by_cases e : j = w.Data.length
          · have ep : (⟨w.Volume, w.Start + (j : Int)⟩ : q9) = p := q97 hv (by show w.Start + (j : Int) = _; omega)
            rw [if_pos e]; exact ⟨by rw [ep]; simp, by show _ = mget m (⟨w.Volume, w.Start + (j : Int)⟩ : q9) sec0; rw [ep]⟩
          · rw [if_neg e]
            exact old w (List.mem_cons_self ..) j (by omega)
        · exact old x (List.mem_cons_of_mem _ hx)
      · rcases List.mem_append.1 hq with hq | hq
        · obtain ⟨x, hx, h1, h2, h3⟩ := g.cov q hq
          rcases List.mem_cons.1 hx with rfl | hx
          · exact ⟨_, List.mem_cons_self .., h1, h2, by show q.sector < x.Start + ((x.Data ++ [mget m p sec0]).length : Int); rw [q18]; omega⟩
          · exact ⟨x, List.mem_cons_of_mem _ hx, h1, h2, h3⟩
        · obtain rfl := List.mem_singleton.1 hq
          exact ⟨_, List.mem_cons_self .., hv, by show w.Start ≤ _; omega, by show q.sector < w.Start + ((w.Data ++ [mget m q sec0]).length : Int); rw [q18]; omega⟩
      · have := g.sum
        unfold secN at *; rw [List.map_cons, List.sum_cons] at *; rw [q18, q18]; omega
    · simp only [if_neg hb]
      refine push fun y hy => ?_; rcases List.mem_cons.1 hy with rfl | hy
      · exact hb
      · rintro rfl
        have h1 := gp.1 y hy; have h2 := one w (List.mem_cons_self ..); have h3 := g.ne w (List.mem_cons_self ..); unfold gapW at h1; unfold behW at h2; simp only at h2; omega
theorem grp_all (m : List (q9 × Sec)) (ps : List q9) : ps.Pairwise ltQ → Grp m ps (ps.foldl (stepR m) []) := by
  refine q232 (P := fun ps => ps.Pairwise ltQ → Grp m ps (ps.foldl (stepR m) [])) (fun _ => ⟨fun w hw => absurd hw List.not_mem_nil, List.Pairwise.nil, fun w hw => absurd hw List.not_mem_nil, fun p hp => absurd hp List.not_mem_nil, rfl⟩) (fun ps p ih h => ?_) ps; rw [List.foldl_append]; have h1 := List.pairwise_append.1 h; exact (ih h1.1).step fun q hq => h1.2.2 q hq p (by simp)
theorem q549 {m : List (q9 × Sec)} (hn : (m.map (·.1)).Nodup) : (sortG pleB (m.map (·.1))).Pairwise ltQ := by
  have h1 := q137 q196 q197 (m.map (·.1)); have h2 : (sortG pleB (m.map (·.1))).Nodup := (q50 pleB _).nodup_iff.2 hn; refine (List.Pairwise.and h1 h2).imp fun {a b} h => ?_; have := h.1; unfold pleB at this; simp only [decide_eq_true_eq] at this; unfold ltQ; have : ¬ (a.volume = b.volume ∧ a.sector = b.sector) := fun t => h.2 (q97 t.1 t.2); omega
theorem q832 {m : List (q9 × Sec)} (hn : (m.map (·.1)).Nodup) (hv : ∀ q ∈ m, 0 ≤ q.1.volume) : ∃ R, Grp m (sortG pleB (m.map (·.1))) R ∧ canL m = R.reverse := by
  refine ⟨_, grp_all m _ (q549 hn), (q831 m _ fun p hp => ?_).cls⟩; obtain ⟨q, hq, rfl⟩ := List.mem_map.1 ((q50 pleB _).mem_iff.1 hp); exact hv q hq
structure Can (m : List (q9 × Sec)) (ws : List q8) : Prop where
  ne : ∀ w ∈ ws, 0 < w.Data.length
  gap : ws.Pairwise gapW
  mem : ∀ w ∈ ws, ∀ j : Nat, j < w.Data.length → mfind m ⟨w.Volume, w.Start + (j : Int)⟩ = some (ix w.Data (j : Int))
  cov : ∀ p d, mfind m p = some d → ∃ w ∈ ws, w.Volume = p.volume ∧ w.Start ≤ p.sector ∧ p.sector < w.Start + (w.Data.length : Int)
  sum : secN ws = m.length
theorem q504 (l : List q8) : secN l.reverse = secN l := by
  unfold secN; rw [List.map_reverse, List.sum_reverse]
theorem q833 {m : List (q9 × Sec)} (hn : (m.map (·.1)).Nodup) (hv : ∀ q ∈ m, 0 ≤ q.1.volume) : Can m (canL m) := by
  obtain ⟨R, g, e⟩ := q832 hn hv; have pm : ∀ p, p ∈ sortG pleB (m.map (·.1)) ↔ ∃ d, mfind m p = some d := fun p => ((q50 pleB _).mem_iff).trans (q202 p m); rw [e]; refine ⟨fun w hw => g.ne w (List.mem_reverse.1 hw), List.pairwise_reverse.2 g.gap, fun w hw j hj => ?_, fun p d h => ?_, ?_⟩
  · obtain ⟨h1, h2⟩ := g.mem w (List.mem_reverse.1 hw) j hj
    obtain ⟨d, hd⟩ := (pm _).1 h1; unfold mget at h2; rw [hd] at h2; rw [hd, h2]
  · obtain ⟨w, hw, h⟩ := g.cov p ((pm p).2 ⟨d, h⟩)
    exact ⟨w, List.mem_reverse.2 hw, h⟩
  · rw [q504, g.sum, (q50 pleB _).length_eq, List.length_map]
theorem q873 {sizes : List Int} (hs : ¬ q27 sizes ≠ 0) {l : List q8} (hf : ∀ w ∈ l, fitW sizes w = 0) : ∀ q ∈ effM l, 0 ≤ q.1.volume ∧ q.1.volume < (sizes.length : Int) ∧ 0 ≤ q.1.sector ∧ q.1.sector < ix sizes q.1.volume := by
  revert hf
  refine q232 (P := fun l => (∀ w ∈ l, fitW sizes w = 0) → ∀ q ∈ effM l, 0 ≤ q.1.volume ∧ q.1.volume < (sizes.length : Int) ∧ 0 ≤ q.1.sector ∧ q.1.sector < ix sizes q.1.volume) (fun _ q hq => absurd hq List.not_mem_nil) (fun l w ih h => ?_) l; have ih := ih fun x hx => h x (List.mem_append_left _ hx); obtain ⟨v, s, hw⟩ := q282 hs (h w (by simp)); have e1 := hw.vol; have e2 := hw.start; have e3 := hw.hv; have e4 := hw.le; rw [q129]; refine q548 (p := fun c => 0 ≤ c.volume ∧ c.volume < (sizes.length : Int) ∧ 0 ≤ c.sector ∧ c.sector < ix sizes c.volume) _ _ _ (fun j hj => ?_) ih; rw [e1, e2]; exact ⟨by show (0 : Int) ≤ (v : Int); omega, by show (v : Int) < _; omega, by show (0 : Int) ≤ (s : Int) + (j : Int); omega, by show (s : Int) + (j : Int) < ix sizes (v : Int); omega⟩
theorem q759 {m : List (q9 × Sec)} {p : q9} {d : Sec} (h : mfind m p = some d) : ∃ q ∈ m, q.1 = p := by
  have := (q202 p m).2 ⟨d, h⟩; obtain ⟨q, hq, e⟩ := List.mem_map.1 this; exact ⟨q, hq, e⟩
theorem can_fit {sizes : List Int} {m : List (q9 × Sec)} {ws : List q8} (c : Can m ws) (hm : ∀ q ∈ m, 0 ≤ q.1.volume ∧ q.1.volume < (sizes.length : Int) ∧ 0 ≤ q.1.sector ∧ q.1.sector < ix sizes q.1.volume) : ∀ w ∈ ws, fitW sizes w = 0 := fun w hw => by
  have h0 := c.ne w hw; obtain ⟨q1, hq1, e1⟩ := q759 (c.mem w hw 0 h0); obtain ⟨q2, hq2, e2⟩ := q759 (c.mem w hw (w.Data.length - 1) (by omega)); have b1 := hm q1 hq1; have b2 := hm q2 hq2; rw [e1] at b1; rw [e2] at b2; simp only at b1 b2; unfold fitW; rw [if_neg (by omega), if_neg (by omega), if_neg (by omega)]
theorem can_ord {sizes : List Int} {m : List (q9 × Sec)} {ws : List q8} (c : Can m ws) (hf : ∀ w ∈ ws, fitW sizes w = 0) : wrsE sizes ws = 0 := by
  refine q29.2 fun k hk => ?_; unfold ordW; rw [if_neg (fun t => t (hf _ (q51 (iX (by omega) (by omega)))))]; by_cases h0 : k = 0
  · rw [if_pos h0]
  · rw [if_neg h0]
    have g := List.pairwise_iff_getElem.1 c.gap (k - 1) k (by omega) hk (by omega); rw [← q24 (by omega), ← q24 hk, show ((k - 1 : Nat) : Int) = (k : Int) - 1 by omega] at g; unfold gapW at g; rw [if_neg (by omega)]
theorem q760 {sizes : List Int} (hs : ¬ q27 sizes ≠ 0) {l : List q8} (hf : ∀ w ∈ l, fitW sizes w = 0) : Can (effM l) (canL (effM l)) := q833 (q650 l) fun q hq => (q873 hs hf q hq).1
theorem pairE {α β : Type} {a a' : α} {b b' : β} (h1 : a = a') (h2 : b = b') : (a, b) = (a', b') := by rw [h1, h2]
theorem q223 {β : Type} (f : Nat → β) (k : Nat) : (List.range (k + 1)).map f = (List.range k).map f ++ [f k] := by rw [List.range_succ, List.map_append]; rfl
def cyc0 : q14 := ⟨0, 0, 0, [], []⟩
theorem q404 {c : Nat} : ∀ l : List q8, (∀ w ∈ l, w.Data.length ≤ c) → secN l ≤ l.length * c
  | [], _ => Nat.zero_le _
  | w :: l, h => by
    have h1 := q404 l fun x hx => h x (List.mem_cons_of_mem _ hx); have h2 := h w (List.mem_cons_self ..); have : secN (w :: l) = w.Data.length + secN l := by simp [secN]
    rw [this, List.length_cons, Nat.succ_mul]; omega
theorem q761 {l : List q8} : ∀ w ∈ l, w.Data.length ≤ secN l := fun w hw => by
  obtain ⟨a, b, rfl⟩ := List.append_of_mem hw; rw [q233, show w :: b = [w] ++ b from rfl, q233, q622]; omega
theorem can_len {m : List (q9 × Sec)} {ws : List q8} (c : Can m ws) : ws.length ≤ m.length := by
  rw [← c.sum]
  have : ∀ l : List q8, (∀ w ∈ l, 0 < w.Data.length) → l.length ≤ secN l := by
    intro l
    induction l with
    | nil => intro _; exact Nat.zero_le _
    | cons w l ih =>
      intro h; have h1 := ih fun x hx => h x (List.mem_cons_of_mem _ hx); have h2 := h w (List.mem_cons_self ..); have : secN (w :: l) = w.Data.length + secN l := by simp [secN]
      rw [this, List.length_cons]; omega
  exact this ws c.ne
structure q874 (c : q12) : Prop where
  sizes : c.Sizes.length ≤ 20
  pos : c.Positions.length ≤ 20
  nodes : c.Nodes.length ≤ 60
  len : c.Writes.length ≤ 40
  data : ∀ w ∈ c.Writes, w.Data.length ≤ 24
def cap0 : q12 := ⟨0, [], [], [], []⟩
def openR (sizes : List Int) (nodes number : Int) : q12 × Int :=
  if q27 sizes ≠ 0 then (cap0, q27 sizes) else if nodes < 1 ∨ 8 < nodes then (cap0, 6) else if number < 0 ∨ 1073741823 < number then (cap0, 2) else (⟨number, sizes, List.replicate nodes.toNat 0, [], []⟩, 0)
theorem q451 {sizes : List Int} {nodes number : Int} {Φ : q12 × Int → Prop} (hΦ : Φ (openR sizes nodes number)) : q193 sizes nodes number Φ := by
  unfold openR at hΦ; refine q46 (fun hs => ⟨fun q => absurd rfl q, fun _ => ?_⟩) fun hs => ⟨fun _ => by rw [if_pos hs] at hΦ; exact hΦ, fun q => absurd hs q⟩
  rw [if_neg (by omega)] at hΦ; refine q38 ⟨fun r => ?_, fun r => ?_⟩
  · have := of_decide_eq_false (Bool.eq_false_iff.2 r)
    rw [if_pos (by omega)] at hΦ; exact hΦ
  · have g := of_decide_eq_true (Classical.not_not.1 r)
    rw [if_neg (by omega)] at hΦ; refine q38 ⟨fun r => ?_, fun r => ?_⟩
    · have := of_decide_eq_false (Bool.eq_false_iff.2 r)
      rw [if_pos (by omega)] at hΦ; exact hΦ
    · have := of_decide_eq_true (Classical.not_not.1 r)
      rw [if_neg (by omega)] at hΦ; have h8 := q53 hs; exact ⟨(sizes, ()), q21 (by omega) rfl, by omega, iL (by omega) (by omega), hΦ⟩
def nodW (c : q12) (k : Nat) : Int := if ix c.Nodes (k : Int) < 0 ∨ (c.Positions.length : Int) ≤ ix c.Nodes (k : Int) then 7 else fitW c.Sizes (ix c.Writes (k : Int))
def cptE (c : q12) : Int :=
  if q27 c.Sizes ≠ 0 then q27 c.Sizes else if c.Number < 0 ∨ 1073741823 < c.Number then 2 else if posR 1 c.Positions ≠ 0 then posR 1 c.Positions else if c.Nodes.length ≠ c.Writes.length ∨ 4096 < c.Writes.length then 6 else q71 (nodW c) c.Writes.length
def addE (c : q12) (n : Int) (w : q8) : Int :=
  if cptE c ≠ 0 then cptE c else if n < 0 ∨ (c.Positions.length : Int) ≤ n then 7 else if fitW c.Sizes w ≠ 0 then fitW c.Sizes w else if 4096 ≤ c.Writes.length then 11 else 0
def addR (c : q12) (n : Int) (w : q8) : q12 × Int :=
  if addE c n w ≠ 0 then (cap0, addE c n w) else (⟨c.Number, c.Sizes, c.Positions, c.Nodes ++ [n], c.Writes ++ [w]⟩, 0)
theorem q130 {w : q8} {Φ : q8 → Prop} (hw : w.Data.length ≤ 1000000) (hΦ : Φ w) : Z78 w Φ := q128 hw hΦ
theorem q365 {c : q12} {Φ : q12 → Prop} (hs : c.Sizes.length ≤ 100000) (hp : c.Positions.length ≤ 100000) (hn : c.Nodes.length ≤ 100000) (hl : c.Writes.length ≤ 100000) (hd : ∀ w ∈ c.Writes, w.Data.length ≤ 1000000) (hΦ : Φ c) : Z80 c Φ := by
  refine ⟨(c.Sizes, ()), q21 (by omega) rfl, (c.Positions, ()), q21 (by omega) rfl, (c.Nodes, ()), q21 (by omega) rfl, ?_⟩; refine LoopW.upT c.Writes.length (fun k => ((k : Int), c.Writes.take k)) rfl (fun k rec hk hr => ⟨fun _ => ⟨iX (by omega) (by omega), ?_⟩, fun _ => by omega⟩) fun rec => ⟨fun _ => by omega, fun _ => by rw [q32]; exact hΦ⟩
  have hm := hd _ (q51 (iX (i := (k : Int)) (n := c.Writes.length) (by omega) (by omega))); exact q130 hm ⟨iL (by rw [q18, lenT (by omega)]; omega) (by omega), iI (by omega) (by omega), hr _ (by rw [q69 hk]; rfl)⟩
theorem q505 {c : q12} {n : Int} {w : q8} {Φ : q12 × Int → Prop} (hp : c.Positions.length ≤ 100000) (hn : c.Nodes.length ≤ 100000) (hl : c.Writes.length ≤ 100000) (hd : ∀ w ∈ c.Writes, w.Data.length ≤ 1000000) (hw : w.Data.length ≤ 1000000) (hΦ : Φ (addR c n w)) : q230 c n w Φ := by
  have er : ∀ e, addE c n w = e → e ≠ 0 → Φ (cap0, e) := fun e h1 h2 => by
    unfold addR at hΦ; rw [h1, if_pos h2] at hΦ; exact hΦ
  have cr : ∀ e, cptE c = e → e ≠ 0 → Φ (cap0, e) := fun e h1 h2 => er e (by unfold addE; rw [h1, if_pos h2]) h2; refine q46 (fun hs => ⟨fun q => absurd rfl q, fun _ => ?_⟩) fun hs => ⟨fun _ => cr _ (by unfold cptE; rw [if_pos hs]) hs, fun q => absurd (show q27 c.Sizes = 0 from Classical.not_not.1 q) hs⟩
  have h8 := q53 hs; have e := q150 hs; have hs' : imgE (zeroI c.Sizes) = 0 := by unfold imgE; rw [e]; exact hs
  refine q38 ⟨fun r => ?_, fun r => ?_⟩
  · have := of_decide_eq_false (Bool.eq_false_iff.2 r)
    exact cr 2 (by unfold cptE; rw [if_neg (by omega), if_pos (by omega)]) (by omega)
  have a1 := of_decide_eq_true (Classical.not_not.1 r); refine q100 hp ⟨fun t => cr _ (by unfold cptE; rw [if_neg (by omega), if_neg (by omega), if_pos t]) t, fun t => ?_⟩; have t := Classical.not_not.1 t; refine ⟨fun u => ⟨fun x => cr 6 (by unfold cptE; rw [if_neg (by omega), if_neg (by omega), if_neg (by omega), if_pos (by omega)]) (by omega), fun x => ?_⟩, fun u => cr 6 (by unfold cptE; rw [if_neg (by omega), if_neg (by omega), if_neg (by omega), if_pos (by omega)]) (by omega)⟩; have ce : cptE c = q71 (nodW c) c.Writes.length := by unfold cptE; rw [if_neg (by omega), if_neg (by omega), if_neg (by omega), if_neg (by omega)]
  refine LoopW.errI c.Writes.length (fun k => (k : Int)) (nodW c) (Ψ := fun o => o = cptE c) rfl ce.symm (fun k rec hk hj g1 g2 => ⟨fun _ => ⟨iX (by omega) (by omega), iX (by omega) (by omega), iI (by omega) (by omega), q38 ⟨fun y => ?_, fun y => ?_⟩⟩, fun _ => by omega⟩) fun rec _ c0 => ⟨fun _ => by omega, fun _ => ⟨iI (by omega) (by omega), q38 ⟨fun y => ?_, fun y => ?_⟩⟩⟩
  · have := of_decide_eq_false (Bool.eq_false_iff.2 y)
    unfold nodW at g1; rw [if_pos (by omega)] at g1; exact cr 7 (g1 (by omega)).symm (by omega)
  · have := of_decide_eq_true (Classical.not_not.1 y)
    unfold nodW at g1 g2; rw [if_neg (by omega)] at g1 g2; refine q99 (hd _ (q51 (iX (i := (k : Int)) (n := c.Writes.length) (by omega) (by omega)))) hs' ?_; rw [e]; exact ⟨fun z => cr _ (g1 z).symm z, fun z => ⟨iI (by omega) (by omega), g2 (Classical.not_not.1 z) _ rfl⟩⟩
  · have := of_decide_eq_false (Bool.eq_false_iff.2 y)
    exact er 7 (by unfold addE; rw [if_neg (by omega), if_pos (by omega)]) (by omega)
  · have a2 := of_decide_eq_true (Classical.not_not.1 y)
    refine q99 hw hs' ?_; rw [e]; refine ⟨fun z => er _ (by unfold addE; rw [if_neg (by omega), if_neg (by omega), if_pos z]) z, fun z => ⟨fun v => er 11 (by unfold addE; rw [if_neg (by omega), if_neg (by omega), if_neg z, if_pos (by omega)]) (by omega), fun v => ?_⟩⟩; refine q365 (by omega) hp hn hl hd ⟨iL (by rw [q18]; omega) (by omega), (w, ()), q130 hw rfl, iL (by rw [q18]; omega) (by omega), ?_⟩; have e0 : addE c n w = 0 := by unfold addE; rw [if_neg (by omega), if_neg (by omega), if_neg z, if_neg (by omega)]
    unfold addR at hΦ; rw [if_neg (fun t => t e0)] at hΦ; exact hΦ
def tabL {α : Type} (n : Nat) (f : Nat → α) : List α := (List.range n).map f
theorem q54 {α : Type} (n : Nat) (f : Nat → α) : (tabL n f).length = n := by unfold tabL; rw [List.length_map, List.length_range]
theorem q506 {α : Type} [Dt α] {n i : Nat} {f : Nat → α} (h : i < n) : ix (tabL n f) (i : Int) = f i := by
  rw [q24 (by rw [q54]; exact h)]; unfold tabL; simp
theorem q203 {α : Type} {n : Nat} {f g : Nat → α} (h : ∀ i, i < n → f i = g i) : tabL n f = tabL n g := by
  unfold tabL; exact List.map_congr_left fun i hi => h i (List.mem_range.1 hi)
theorem q550 {α : Type} [Dt α] {n a : Nat} {f g : Nat → α} {x : α} (ha : a < n) (h0 : g a = x) (h : ∀ i, i < n → i ≠ a → g i = f i) : put (tabL n f) (a : Int) x = tabL n g := by
  refine q297 (by rw [q61, q54, q54]) fun i hi => ?_; rw [q61, q54] at hi; rw [q606 _ _ (by rw [q54]; exact ha), q506 hi, q506 hi]; by_cases e : i = a
  · rw [if_pos e, e, h0]
  · rw [if_neg e, h i hi e]
theorem q623 {α : Type} (k : Nat) (f : Nat → α) : tabL (k + 1) f = tabL k f ++ [f k] := q223 f k
theorem q624 {α : Type} [Dt α] (l : List α) : tabL l.length (fun i => ix l (i : Int)) = l := q297 (q54 _ _) fun i hi => by rw [q54] at hi; rw [q506 hi]
theorem LoopW.split {α S : Type} {step : List α × S → (List α × S → Prop) → Prop} (xs : List α) (f : List α → S) {s0 : S} (hs : s0 = f []) (h : ∀ pre x r rec, xs = pre ++ x :: r → (∀ s, s = (r, f (pre ++ [x])) → rec s) → step (x :: r, f pre) rec) (he : ∀ rec, step ([], f xs) rec) : LoopW step (xs, s0) := by
  have key : ∀ r pre, xs = pre ++ r → LoopN step (r.length + 1) (r, f pre) := by
    intro r
    induction r with
    | nil => intro pre e; rw [List.append_nil] at e; subst e; exact he _
    | cons x r ih => intro pre e; exact h pre x r _ e fun s hs => by rw [hs]; exact ih (pre ++ [x]) (by rw [e, List.append_assoc]; rfl)
  rw [hs]; exact ⟨_, key xs [] rfl⟩
def cnt (N : List Int) (n : Int) : Nat → Nat
  | 0 => 0
  | k + 1 => cnt N n k + if ix N (k : Int) = n then 1 else 0
theorem q875 (N : List Int) (n : Int) : ∀ k, cnt N n k ≤ k
  | 0 => Nat.le_refl _
  | k + 1 => by
    have := q875 N n k; unfold cnt; split <;> omega
theorem q452 (N : List Int) (n : Int) (k : Nat) : cnt N n (k + 1) = cnt N n k + if ix N (k : Int) = n then 1 else 0 := rfl
def pos0 (x : Int) : Int := if x < 0 then 0 else x
theorem q762 (x : Int) : pos0 (pos0 x - 1) = pos0 (x - 1) := by unfold pos0; split <;> split <;> (try split) <;> omega
def leftF (d : Nat → Int) (N : List Int) (m k : Nat) : List Int := tabL m fun i => pos0 (d i - (cnt N (i : Int) k : Int))
def partF (d : Nat → Int) (N : List Int) (k : Nat) : Bool := decide (0 < pos0 (d (ix N (k : Int)).toNat - (cnt N (ix N (k : Int)) k : Int)))
theorem q763 {d : Nat → Int} {N : List Int} {m k : Nat} {x : Int} (h0 : 0 ≤ ix N (k : Int)) (h1 : ix N (k : Int) < (m : Int)) (hx : x = pos0 (pos0 (d (ix N (k : Int)).toNat - (cnt N (ix N (k : Int)) k : Int)) - 1)) : put (leftF d N m k) (ix N (k : Int)) x = leftF d N m (k + 1) := by
  obtain ⟨a, ha⟩ := Int.eq_ofNat_of_zero_le h0; rw [ha] at hx ⊢; unfold leftF; refine q550 (by omega) ?_ fun i hi hne => ?_
  · rw [hx]
    show pos0 (d a - (cnt N (a : Int) (k + 1) : Int)) = _; rw [q452, if_pos ha, Int.toNat_natCast, q762, show d a - ((cnt N (a : Int) k + 1 : Nat) : Int) = d a - (cnt N (a : Int) k : Int) - 1 by omega]
  · show pos0 (d i - (cnt N (i : Int) (k + 1) : Int)) = _
    rw [q452, if_neg (by rw [ha]; omega)]; rfl
theorem q453 {d : Nat → Int} {N : List Int} {m k : Nat} {n : Int} (h0 : 0 ≤ n) (h1 : n < (m : Int)) : ix (leftF d N m k) n = pos0 (d n.toNat - (cnt N n k : Int)) := by
  obtain ⟨a, rfl⟩ := Int.eq_ofNat_of_zero_le h0; unfold leftF; rw [q506 (by omega), Int.toNat_natCast]
def dT (c : q12) (to : List Int) (i : Nat) : Int := ix to (i : Int) - ix c.Positions (i : Int)
def dW (c : q12) (to : List Int) (i : Nat) : Int := Go.IntKind.wrap Go.IntKind.i64 (ix to (i : Int) - ix c.Positions (i : Int))
def inB (c : q12) (to : List Int) (k : Nat) : Bool := partF (dT c to) c.Nodes k
def badI (c : q12) (to : List Int) (i : Nat) : Prop := ix to (i : Int) < ix c.Positions (i : Int) ∨ ix c.Positions (i : Int) + (cnt c.Nodes (i : Int) c.Nodes.length : Int) < ix to (i : Int)
instance (c : q12) (to : List Int) (i : Nat) : Decidable (badI c to i) := by unfold badI; infer_instance
def badB (c : q12) (to : List Int) : Bool := (List.range to.length).any fun i => decide (badI c to i)
theorem q507 {c : q12} {to : List Int} {i : Nat} (hi : i < to.length) (h : badI c to i) : badB c to = true := List.any_eq_true.2 ⟨i, List.mem_range.2 hi, decide_eq_true h⟩
theorem q405 {c : q12} {to : List Int} (h : ∀ i, i < to.length → ¬ badI c to i) : badB c to = false := by
  rw [Bool.eq_false_iff]; intro q; obtain ⟨i, hi, hb⟩ := List.any_eq_true.1 q; exact h i (List.mem_range.1 hi) (of_decide_eq_true hb)
theorem q764 {a b : Int} (ha : inI a) (hb : 0 ≤ b ∧ b ≤ 1073741824) : Go.IntKind.wrap Go.IntKind.i64 (a - b) = a - b ∨ (4611686018427387904 ≤ Go.IntKind.wrap Go.IntKind.i64 (a - b) ∧ Go.IntKind.wrap Go.IntKind.i64 (a - b) ≤ 9223372036854775807 ∧ a < b) := by
  have h1 := ha.1; have h2 := ha.2; by_cases h : -9223372036854775808 ≤ a - b
  · exact .inl (q87 h (by omega))
  · refine .inr ?_
    have e : Go.IntKind.wrap Go.IntKind.i64 (a - b) = a - b + 18446744073709551616 := by
      have w : Go.IntKind.wrap Go.IntKind.i64 (a - b) = if 9223372036854775808 ≤ (a - b) % 18446744073709551616 then (a - b) % 18446744073709551616 - 18446744073709551616 else (a - b) % 18446744073709551616 := by
        simp [IntKind.wrap, IntKind.bits, IntKind.signed]
      rw [w]
      split <;> omega
    rw [e]; omega
def selW (c : q12) (q : Nat → Bool) (n : Nat) : List q8 := ((List.range n).filter q).map fun j : Nat => ix c.Writes (j : Int)
def latL (c : q12) (p : Nat → Bool) (k : Nat) : List q8 := selW c (fun j => decide (k < j) && p j) c.Writes.length
def hidW (w : q8) (l : List q8) : q8 := ⟨w.Volume, w.Start, tabL w.Data.length fun j => mget (effM l) ⟨w.Volume, w.Start + (j : Int)⟩ (ix w.Data (j : Int))⟩
def outN (c : q12) (p : Nat → Bool) (n : Nat) : List Int := ((List.range n).filter fun j => !p j).map fun j : Nat => ix c.Nodes (j : Int)
def outW (c : q12) (p : Nat → Bool) (n : Nat) : List q8 := ((List.range n).filter fun j => !p j).map fun j : Nat => hidW (ix c.Writes (j : Int)) (latL c p j)
def cloE (c : q12) (time : Int) (to : List Int) : Int :=
  if cptE c ≠ 0 then cptE c else if time < 0 ∨ 1073741824 < time then 24 else if to.length ≠ c.Positions.length then 6 else if badB c to = true then 2 else 0
def cloR (c : q12) (time : Int) (to : List Int) : q12 × q14 × Int :=
  if cloE c time to ≠ 0 then (cap0, cyc0, cloE c time to) else (⟨c.Number + 1, c.Sizes, to, outN c (inB c to) c.Writes.length, outW c (inB c to) c.Writes.length⟩, ⟨c.Number, c.Number + 1, time, to, canL (effM (selW c (inB c to) c.Writes.length))⟩, 0)
theorem sel_len {c : q12} {q : Nat → Bool} {n : Nat} : (selW c q n).length ≤ n := by
  unfold selW; rw [List.length_map]; have := List.length_filter_le q (List.range n); rw [List.length_range] at this; exact this
theorem q765 {c : q12} {q : Nat → Bool} {n : Nat} (hn : n ≤ c.Writes.length) : ∀ w ∈ selW c q n, w ∈ c.Writes := fun w hw => by
  obtain ⟨j, hj, rfl⟩ := List.mem_map.1 hw; have := List.mem_range.1 (List.mem_filter.1 hj).1; exact q51 (iX (by omega) (by omega))
structure CapOk (c : q12) : Prop where
  sz : q27 c.Sizes = 0
  num : 0 ≤ c.Number ∧ c.Number ≤ 1073741823
  pos : ∀ k : Nat, k < c.Positions.length → 0 ≤ ix c.Positions (k : Int) ∧ ix c.Positions (k : Int) ≤ 1073741824
  len : c.Nodes.length = c.Writes.length
  node : ∀ k : Nat, k < c.Writes.length → 0 ≤ ix c.Nodes (k : Int) ∧ ix c.Nodes (k : Int) < (c.Positions.length : Int)
  fit : ∀ w ∈ c.Writes, fitW c.Sizes w = 0
theorem posR_ix {least : Int} {l : List Int} (h : posR least l = 0) : ∀ k : Nat, k < l.length → 0 ≤ ix l (k : Int) ∧ ix l (k : Int) ≤ 1073741824 := fun k hk => by
  unfold posR at h
  split at h
  · omega
  · have := q29.1 h k hk
    split at this <;> omega
theorem q834 {c : q12} (h : cptE c = 0) : CapOk c := by
  unfold cptE at h
  split at h
  · next q => exact absurd h q
  split at h
  · omega
  split at h
  · next q => exact absurd h q
  split at h
  · omega
  next q1 q2 q3 q4 =>
    have nd : ∀ k : Nat, k < c.Writes.length → (0 ≤ ix c.Nodes (k : Int) ∧ ix c.Nodes (k : Int) < (c.Positions.length : Int)) ∧ fitW c.Sizes (ix c.Writes (k : Int)) = 0 := fun k hk => by
      have := q29.1 h k hk; unfold nodW at this
      split at this
      · omega
      · exact ⟨by omega, this⟩
    refine ⟨Classical.not_not.1 q1, by omega, posR_ix (Classical.not_not.1 q3), by omega, fun k hk => (nd k hk).1, fun w hw => ?_⟩; obtain ⟨k, hk, rfl⟩ := List.getElem_of_mem hw; have := (nd k hk).2; rwa [q24 hk] at this
theorem fit_pl {sizes : List Int} (hs : q27 sizes = 0) {w : q8} (h : fitW sizes w = 0) : q116 w = 0 := by
  obtain ⟨v, s, hf⟩ := q282 (by omega) h; have h1 := hf.vol; have h2 := hf.start; have h3 := hf.hv; have h4 := hf.len; have h5 := hf.le; have h6 := hf.top; have h8 := q53 hs; unfold q116; rw [if_neg (by omega), if_neg (by omega), if_neg (by omega)]
theorem CapOk.pl {c : q12} (h : CapOk c) : PlL c.Writes := fun w hw => fit_pl h.sz (h.fit w hw)
theorem CapOk.sel {c : q12} (h : CapOk c) (q : Nat → Bool) {n : Nat} (hn : n ≤ c.Writes.length) : PlL (selW c q n) := fun w hw => h.pl w (q765 hn w hw)
def itL (c : q12) (q : Nat → Bool) : List (Int × q8 × Unit) := ((List.range c.Writes.length).filter q).map fun j : Nat => ((j : Int), ix c.Writes (j : Int), ())
theorem it_ok {c : q12} {part : List Bool} {b : Bool} {q : Nat → Bool} (hn : c.Writes.length ≤ 1000000) (hl : part.length = c.Writes.length) (hq : ∀ j : Nat, j < c.Writes.length → (ix part (j : Int) = b ↔ q j = true)) : q20 ⟨c, part⟩ b (itL c q) := by
  unfold itL; rw [List.range_eq_range']; refine LoopW.upT c.Writes.length (fun k => (((List.range' k (c.Writes.length - k)).filter q).map fun j : Nat => ((j : Int), ix c.Writes (j : Int), ()), (k : Int))) rfl (fun k rec hk hr => ⟨fun _ => ⟨iX (by omega) (by show (k : Int) < (c.Writes.length : Int); omega), iX (by omega) (by show (k : Int) < (part.length : Int); omega), fun e => ?_, fun e => ?_⟩, fun r => absurd (show (k : Int) < (c.Writes.length : Int) by omega) r⟩) fun rec => ⟨fun r => absurd r (by show ¬ (c.Writes.length : Int) < (c.Writes.length : Int); omega), fun _ => by rw [Nat.sub_self]; rfl⟩
  · have es : c.Writes.length - k = (c.Writes.length - (k + 1)) + 1 := by omega
    rw [es, List.range'_succ, List.filter_cons_of_pos ((hq k hk).1 e), List.map_cons]; exact ⟨rfl, ⟨iI (by omega) (by omega), hr _ rfl⟩, trivial⟩
  · have es : c.Writes.length - k = (c.Writes.length - (k + 1)) + 1 := by omega
    rw [es, List.range'_succ, List.filter_cons_of_neg (fun t => e ((hq k hk).2 t))]; exact ⟨iI (by omega) (by omega), hr _ rfl⟩
theorem q876 {c : q12} {q : Nat → Bool} {pre : List (Int × q8 × Unit)} {x : Int × q8 × Unit} {r : List (Int × q8 × Unit)} (h : itL c q = pre ++ x :: r) : ∃ j : Nat, j < c.Writes.length ∧ q j = true ∧ x = ((j : Int), ix c.Writes (j : Int), ()) := by
  have : x ∈ itL c q := by rw [h]; simp
  unfold itL at this; obtain ⟨j, hj, rfl⟩ := List.mem_map.1 this; have := List.mem_filter.1 hj; exact ⟨j, List.mem_range.1 this.1, this.2, rfl⟩
theorem q877 {c : q12} {q : Nat → Bool} {pre : List (Int × q8 × Unit)} {x : Int × q8 × Unit} {r : List (Int × q8 × Unit)} (h : itL c q = pre ++ x :: r) : pre.length + 1 ≤ c.Writes.length := by
  have h1 : (itL c q).length ≤ c.Writes.length := by
    unfold itL; rw [List.length_map]; have := List.length_filter_le q (List.range c.Writes.length); rw [List.length_range] at this; exact this
  rw [h, List.length_append, List.length_cons] at h1; omega
def geL (k : Nat) (pre : List (Int × q8 × Unit)) : List q8 := (pre.filter fun x => decide ((k : Int) ≤ x.1)).map (·.2.1)
theorem q625 (k : Nat) (pre : List (Int × q8 × Unit)) (x : Int × q8 × Unit) : geL k (pre ++ [x]) = if (k : Int) ≤ x.1 then geL k pre ++ [x.2.1] else geL k pre := by
  unfold geL; rw [List.filter_append]; by_cases h : (k : Int) ≤ x.1
  · rw [if_pos h]; simp [h]
  · rw [if_neg h]; simp [h]
theorem q835 {c : q12} {part : List Bool} {q : Nat → Bool} {k : Nat} {w : q8} {Φ : q8 → Prop} (hc : CapOk c) (hn : c.Writes.length ≤ 1000000) (hl : part.length = c.Writes.length) (hq : ∀ j : Nat, j < c.Writes.length → (ix part (j : Int) = true ↔ q j = true)) (hw : q116 w = 0) (hΦ : Φ (hidW w (geL k (itL c q)))) : Z100 ⟨c, part⟩ (k : Int) w Φ := by
  have w0 := q363 hw; refine q130 (by omega) ⟨itL c q, it_ok hn hl hq, ?_⟩; refine LoopW.split (itL c q) (fun pre => tabL w.Data.length fun j => mget (effM (geL k pre)) ⟨w.Volume, w.Start + (j : Int)⟩ (ix w.Data (j : Int))) ?_ (fun pre x r rec hx hr => ?_) fun rec => hΦ
  · show w.Data = _
    conv => lhs; rw [← q624 w.Data]
    rfl
  · obtain ⟨j, hj, hqj, rfl⟩ := q876 hx
    have x0 := q363 (hc.pl _ (q51 (iX (i := (j : Int)) (n := c.Writes.length) (by omega) (by omega))))
    have J2 : ∀ b : Bool, (b = true ↔ (j : Int) < (k : Int) ∨ (ix c.Writes (j : Int)).Volume ≠ w.Volume) → Z98 w (tabL w.Data.length fun j => mget (effM (geL k pre)) ⟨w.Volume, w.Start + (j : Int)⟩ (ix w.Data (j : Int))) rec ((j : Int), ix c.Writes (j : Int), ()) r Φ b := fun b hb => by
      refine ⟨fun t => hr _ (pairE rfl ?_), fun t => ?_⟩
      · rw [q625]
        by_cases h : (k : Int) ≤ (j : Int)
        · rw [if_pos h]
          refine q203 fun i hi => ?_; unfold mget; rw [q129, q319, if_neg]
          rintro ⟨h1, _⟩
          have h1 : w.Volume = (ix c.Writes (j : Int)).Volume := h1; rcases hb.1 t with h2 | h2
          · omega
          · exact h2 h1.symm
        · rw [if_neg h]
      · have hjk : (k : Int) ≤ (j : Int) := by
          by_cases h : (j : Int) < (k : Int)
          · exact absurd (hb.2 (.inl h)) t
          · omega
        have hvv : (ix c.Writes (j : Int)).Volume = w.Volume := Classical.byContradiction fun h => t (hb.2 (.inr h)); refine LoopW.upT w.Data.length (fun a => ((a : Int), tabL w.Data.length fun i => if i < a then mget (effM (geL k pre ++ [ix c.Writes (j : Int)])) ⟨w.Volume, w.Start + (i : Int)⟩ (ix w.Data (i : Int)) else mget (effM (geL k pre)) ⟨w.Volume, w.Start + (i : Int)⟩ (ix w.Data (i : Int)))) ?_ (fun a rec2 ha hr2 => ⟨fun _ => ⟨iI (by omega) (by omega), iI (by show _ ≤ w.Start + (a : Int) - (ix c.Writes (j : Int)).Start; omega) (by show w.Start + (a : Int) - (ix c.Writes (j : Int)).Start ≤ _; omega), iI (by show _ ≤ ((ix c.Writes (j : Int)).Data.length : Int) - 1; omega) (by show ((ix c.Writes (j : Int)).Data.length : Int) - 1 ≤ _; omega), q38 ?_⟩, fun u => absurd (show (a : Int) < ((tabL w.Data.length _).length : Int) by rw [q54]; omega) u⟩) fun rec2 => ⟨fun u => absurd u (by rw [q54]; omega), fun _ => hr _ (pairE rfl ?_)⟩
        · refine pairE rfl (q203 fun i _ => by rw [if_neg (Nat.not_lt_zero i)])
        · have ef : mfind (effM (geL k pre ++ [ix c.Writes (j : Int)])) ⟨w.Volume, w.Start + (a : Int)⟩ = if 0 ≤ w.Start + (a : Int) - (ix c.Writes (j : Int)).Start ∧ w.Start + (a : Int) - (ix c.Writes (j : Int)).Start ≤ ((ix c.Writes (j : Int)).Data.length : Int) - 1 then some (ix (ix c.Writes (j : Int)).Data (w.Start + (a : Int) - (ix c.Writes (j : Int)).Start)) else mfind (effM (geL k pre)) ⟨w.Volume, w.Start + (a : Int)⟩ := by
            rw [q129, q319]; by_cases h : 0 ≤ w.Start + (a : Int) - (ix c.Writes (j : Int)).Start ∧ w.Start + (a : Int) - (ix c.Writes (j : Int)).Start ≤ ((ix c.Writes (j : Int)).Data.length : Int) - 1
            · rw [if_pos h, if_pos ⟨hvv.symm, by show _ ≤ w.Start + (a : Int); omega, by show w.Start + (a : Int) < _; omega⟩]
            · rw [if_neg h, if_neg (fun u => h ⟨by have : (ix c.Writes (j : Int)).Start ≤ w.Start + (a : Int) := u.2.1; omega, by have : w.Start + (a : Int) < (ix c.Writes (j : Int)).Start + ((ix c.Writes (j : Int)).Data.length : Int) := u.2.2; omega⟩)]
          refine ⟨fun u => ?_, fun u => ?_⟩
          · have u := of_decide_eq_true u
            have u : 0 ≤ w.Start + (a : Int) - (ix c.Writes (j : Int)).Start ∧ w.Start + (a : Int) - (ix c.Writes (j : Int)).Start ≤ ((ix c.Writes (j : Int)).Data.length : Int) - 1 := u; refine ⟨iX u.1 (by show w.Start + (a : Int) - (ix c.Writes (j : Int)).Start < ((ix c.Writes (j : Int)).Data.length : Int); omega), iX (by omega) (by rw [q54]; omega), iI (by omega) (by omega), hr2 _ (pairE rfl ?_)⟩; refine q550 ha ?_ fun i hi hne => ?_
            · rw [if_pos (by omega)]
              unfold mget; rw [ef, if_pos u]
            · by_cases h : i < a
              · rw [if_pos h, if_pos (by omega)]
              · rw [if_neg h, if_neg (by omega)]
          · have u : ¬ (0 ≤ w.Start + (a : Int) - (ix c.Writes (j : Int)).Start ∧ w.Start + (a : Int) - (ix c.Writes (j : Int)).Start ≤ ((ix c.Writes (j : Int)).Data.length : Int) - 1) := fun v => u (decide_eq_true v)
            refine ⟨iI (by omega) (by omega), hr2 _ (pairE rfl ?_)⟩; refine q203 fun i hi => ?_; by_cases h : i < a
            · rw [if_pos h, if_pos (by omega)]
            · rw [if_neg h]
              by_cases h2 : i = a
              · subst h2
                rw [if_pos (by omega)]; unfold mget; rw [ef, if_neg u]
              · rw [if_neg (by omega)]
        · rw [q625, if_pos hjk]
          exact q203 fun i hi => if_pos hi
    exact ⟨fun u => J2 true ⟨fun _ => .inl u, fun _ => rfl⟩, fun u => J2 _ (by
      rw [decide_eq_true_eq]
      exact ⟨.inr, fun h => h.resolve_left u⟩)⟩
theorem ge_lat {c : q12} {p : Nat → Bool} {k : Nat} (hp : p k = false) : geL k (itL c p) = latL c p k := by
  unfold geL latL selW itL; rw [List.filter_map, List.map_map]
  have e : (List.filter ((fun x : Int × q8 × Unit => decide ((k : Int) ≤ x.1)) ∘ fun j : Nat => ((j : Int), ix c.Writes (j : Int), ())) ((List.range c.Writes.length).filter p)) = (List.range c.Writes.length).filter fun j => decide (k < j) && p j := by
    rw [List.filter_filter]; refine List.filter_congr fun j _ => ?_; show (decide ((k : Int) ≤ (j : Int)) && p j) = _; by_cases hj : p j = true
    · rw [hj, Bool.and_true, Bool.and_true]
      refine decide_eq_decide.2 ?_; have : j ≠ k := by rintro rfl; rw [hp] at hj; exact Bool.noConfusion hj
      omega
    · rw [Bool.of_not_eq_true hj, Bool.and_false, Bool.and_false]
  rw [e]; rfl
end Go.Proofs.YtgojhiknicmopaaGreatDoor
