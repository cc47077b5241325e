/- Part 5 of the proof of the statement CutCombinesCardSaid: lemmas. No condition of its own. -/
import Derived.Lib.TrailingZeros
import Derived.Test.YtpmjodnmnffmhaaGreatDoorM4
namespace Go.Proofs.YtpmjodnmnffmhaaGreatDoor
open Go.RowKit
theorem mo : Tryz.prog.follows .mixedOrders = true := by kernel_rfl
theorem ok56 : ct56.Ok Tryz.prog tab gh := Ct.lift (E := ⟨Tryz.prog, tab, [], pl56, [], gh, []⟩) ⟨tabOk, trivial, mo, trivial, ghUp, trivial⟩ 9 ct56 fun x Φ => by rw [eq56]; exact id
theorem ok57 : ct57.Ok Tryz.prog tab gh := Ct.lift (E := ⟨Tryz.prog, tab, [], pl57, [], gh, []⟩) ⟨tabOk, trivial, mo, trivial, ghUp, trivial⟩ 9 ct57 fun x Φ => by rw [eq57]; exact id
theorem ok12 : ct12.Ok Tryz.prog tab gh := Ct.lift (E := ⟨Tryz.prog, tab, [ct56, ct57], pl12, [], gh, []⟩) ⟨tabOk, ⟨ok56, ok57, trivial⟩, mo, trivial, ghUp, trivial⟩ 9 ct12 fun x Φ => by rw [eq12]; exact id
theorem ok103 : ct103.Ok Tryz.prog tab gh := Ct.lift (E := ⟨Tryz.prog, tab, [], pl103, [], gh, []⟩) ⟨tabOk, trivial, mo, trivial, ghUp, trivial⟩ 9 ct103 fun x Φ => by rw [eq103]; exact id
theorem ok104 : ct104.Ok Tryz.prog tab gh := Ct.lift (E := ⟨Tryz.prog, tab, [], pl104, [], gh, []⟩) ⟨tabOk, trivial, mo, trivial, ghUp, trivial⟩ 9 ct104 fun x Φ => by rw [eq104]; exact id
theorem ok105 : ct105.Ok Tryz.prog tab gh := Ct.lift (E := ⟨Tryz.prog, tab, [], pl105, [], gh, []⟩) ⟨tabOk, trivial, mo, trivial, ghUp, trivial⟩ 9 ct105 fun x Φ => by rw [eq105]; exact id
theorem ok58 : ct58.Ok Tryz.prog tab gh := Ct.lift (E := ⟨Tryz.prog, tab, [ct103, ct104, ct105], pl58, [], gh, []⟩) ⟨tabOk, ⟨ok103, ok104, ok105, trivial⟩, mo, trivial, ghUp, trivial⟩ 9 ct58 fun x Φ => by rw [eq58]; exact id
theorem ok161 : ct161.Ok Tryz.prog tab gh := Ct.lift (E := ⟨Tryz.prog, tab, [], pl161, [], gh, []⟩) ⟨tabOk, trivial, mo, trivial, ghUp, trivial⟩ 9 ct161 fun x Φ => by rw [eq161]; exact id
theorem ok142 : ct142.Ok Tryz.prog tab gh := Ct.lift (E := ⟨Tryz.prog, tab, [ct161], pl142, [], gh, []⟩) ⟨tabOk, ⟨ok161, trivial⟩, mo, trivial, ghUp, trivial⟩ 9 ct142 fun x Φ => by rw [eq142]; exact id
theorem ok144 : ct144.Ok Tryz.prog tab gh := Ct.lift (E := ⟨Tryz.prog, tab, [], pl144, [], gh, []⟩) ⟨tabOk, trivial, mo, trivial, ghUp, trivial⟩ 9 ct144 fun x Φ => by rw [eq144]; exact id
theorem ok97 : ct97.Ok Tryz.prog tab gh := Ct.lift (E := ⟨Tryz.prog, tab, [ct142, ct144], pl97, [], gh, []⟩) ⟨tabOk, ⟨ok142, ok144, trivial⟩, mo, trivial, ghUp, trivial⟩ 9 ct97 fun x Φ => by rw [eq97]; exact id
theorem ok189 : ct189.Ok Tryz.prog tab gh := Ct.lift (E := ⟨Tryz.prog, tab, [], pl189, [], gh, []⟩) ⟨tabOk, trivial, mo, trivial, ghUp, trivial⟩ 9 ct189 fun x Φ => by rw [eq189]; exact id
theorem ok160 : ct160.Ok Tryz.prog tab gh := Ct.lift (E := ⟨Tryz.prog, tab, [ct189], pl160, [], gh, []⟩) ⟨tabOk, ⟨ok189, trivial⟩, mo, trivial, ghUp, trivial⟩ 9 ct160 fun x Φ => by rw [eq160]; exact id
theorem ok133 : ct133.Ok Tryz.prog tab gh := Ct.lift (E := ⟨Tryz.prog, tab, [ct142, ct160], pl133, [], gh, []⟩) ⟨tabOk, ⟨ok142, ok160, trivial⟩, mo, trivial, ghUp, trivial⟩ 9 ct133 fun x Φ => by rw [eq133]; exact id
theorem ok147 : ct147.Ok Tryz.prog tab gh := Ct.lift (E := ⟨Tryz.prog, tab, [], pl147, [], gh, []⟩) ⟨tabOk, trivial, mo, trivial, ghUp, trivial⟩ 9 ct147 fun x Φ => by rw [eq147]; exact id
theorem ok126 : ct126.Ok Tryz.prog tab gh := Ct.lift (E := ⟨Tryz.prog, tab, [ct133, ct147], pl126, [], gh, []⟩) ⟨tabOk, ⟨ok133, ok147, trivial⟩, mo, trivial, ghUp, trivial⟩ 9 ct126 fun x Φ => by rw [eq126]; exact id
theorem ok79 : ct79.Ok Tryz.prog tab gh := Ct.lift (E := ⟨Tryz.prog, tab, [ct97, ct126], pl79, [], gh, []⟩) ⟨tabOk, ⟨ok97, ok126, trivial⟩, mo, trivial, ghUp, trivial⟩ 9 ct79 fun x Φ => by rw [eq79]; exact id
theorem ok32 : ct32.Ok Tryz.prog tab gh := Ct.lift (E := ⟨Tryz.prog, tab, [ct79], pl32, [], gh, []⟩) ⟨tabOk, ⟨ok79, trivial⟩, mo, trivial, ghUp, trivial⟩ 9 ct32 fun x Φ => by rw [eq32]; exact id
theorem ok165 : ct165.Ok Tryz.prog tab gh := Ct.lift (E := ⟨Tryz.prog, tab, [], pl165, [], gh, []⟩) ⟨tabOk, trivial, mo, trivial, ghUp, trivial⟩ 9 ct165 fun x Φ => by rw [eq165]; exact id
theorem ok148 : ct148.Ok Tryz.prog tab gh := Ct.lift (E := ⟨Tryz.prog, tab, [ct165], pl148, [], gh, []⟩) ⟨tabOk, ⟨ok165, trivial⟩, mo, trivial, ghUp, trivial⟩ 9 ct148 fun x Φ => by rw [eq148]; exact id
theorem ok106 : ct106.Ok Tryz.prog tab gh := Ct.lift (E := ⟨Tryz.prog, tab, [ct148], pl106, [], gh, []⟩) ⟨tabOk, ⟨ok148, trivial⟩, mo, trivial, ghUp, trivial⟩ 9 ct106 fun x Φ => by rw [eq106]; exact id
theorem ok107 : ct107.Ok Tryz.prog tab gh := Ct.lift (E := ⟨Tryz.prog, tab, [], pl107, [], gh, []⟩) ⟨tabOk, trivial, mo, trivial, ghUp, trivial⟩ 9 ct107 fun x Φ => by rw [eq107]; exact id
theorem ok70 : ct70.Ok Tryz.prog tab gh := Ct.lift (E := ⟨Tryz.prog, tab, [], pl70, [], gh, []⟩) ⟨tabOk, trivial, mo, trivial, ghUp, trivial⟩ 9 ct70 fun x Φ => by rw [eq70]; exact id
theorem ok108 : ct108.Ok Tryz.prog tab gh := Ct.lift (E := ⟨Tryz.prog, tab, [ct70], pl108, [], gh, []⟩) ⟨tabOk, ⟨ok70, trivial⟩, mo, trivial, ghUp, trivial⟩ 9 ct108 fun x Φ => by rw [eq108]; exact id
theorem ok43 : ct43.Ok Tryz.prog tab gh := Ct.lift (E := ⟨Tryz.prog, tab, [], pl43, [], gh, []⟩) ⟨tabOk, trivial, mo, trivial, ghUp, trivial⟩ 9 ct43 fun x Φ => by rw [eq43]; exact id
def Tryz.layS_ren : Go.Shelf.Ren := ⟨fun | 5 => 109 | 8 => 150 | 7 => 149 | 19 => 175 | 20 => 176 | 10 => 166 | 11 => 167 | 12 => 168 | 13 => 169 | 14 => 170 | 15 => 171 | 16 => 172 | 17 => 173 | 18 => 174 | 30 => 190 | 31 => 191 | 32 => 192 | 33 => 193 | 34 => 194 | 35 => 187 | 40 => 200 | n => n, fun | 23 => 22 | 25 => 3 | 3 => 3 | 32 => 185 | 22 => 22 | 0 => 0 | 44 => 207 | 46 => 210 | 4 => 4 | 36 => 215 | 35 => 214 | 41 => 173 | 5 => 5 | 9 => 9 | 53 => 230 | 57 => 234 | 63 => 241 | 64 => 51 | n => n, fun | n => n⟩
theorem Tryz.layS : Go.Proofs.SlLaysM.n5 Tryz.prog Tryz.layS_ren := {
  mixed := by kernel_rfl
  f5 := ⟨Tryz.f109.name, by decide, Tryz.func109.trans (congrArg some (by kernel_rfl))⟩
  f7 := ⟨Tryz.f149.name, by decide, Tryz.func149.trans (congrArg some (by kernel_rfl))⟩
  f8 := Tryz.func150.trans (congrArg some (by kernel_rfl))
  f10 := ⟨Tryz.f166.name, by decide, Tryz.func166.trans (congrArg some (by kernel_rfl))⟩
  f11 := ⟨Tryz.f167.name, by decide, Tryz.func167.trans (congrArg some (by kernel_rfl))⟩
  f12 := ⟨Tryz.f168.name, by decide, Tryz.func168.trans (congrArg some (by kernel_rfl))⟩
  f13 := ⟨Tryz.f169.name, by decide, Tryz.func169.trans (congrArg some (by kernel_rfl))⟩
  f14 := ⟨Tryz.f170.name, by decide, Tryz.func170.trans (congrArg some (by kernel_rfl))⟩
  f15 := ⟨Tryz.f171.name, by decide, Tryz.func171.trans (congrArg some (by kernel_rfl))⟩
  f16 := ⟨Tryz.f172.name, by decide, Tryz.func172.trans (congrArg some (by kernel_rfl))⟩
  f17 := ⟨Tryz.f173.name, by decide, Tryz.func173.trans (congrArg some (by kernel_rfl))⟩
  f18 := ⟨Tryz.f174.name, by decide, Tryz.func174.trans (congrArg some (by kernel_rfl))⟩
  f19 := Tryz.func175.trans (congrArg some (by kernel_rfl))
  f20 := Tryz.func176.trans (congrArg some (by kernel_rfl))
  f30 := ⟨Tryz.f190.name, by decide, Tryz.func190.trans (congrArg some (by kernel_rfl))⟩
  f31 := Tryz.func191.trans (congrArg some (by kernel_rfl))
  f32 := Tryz.func192.trans (congrArg some (by kernel_rfl))
  f33 := ⟨Tryz.f193.name, by decide, Tryz.func193.trans (congrArg some (by kernel_rfl))⟩
  f34 := ⟨Tryz.f194.name, by decide, Tryz.func194.trans (congrArg some (by kernel_rfl))⟩
  f35 := ⟨Tryz.f187.name, by decide, Tryz.func187.trans (congrArg some (by kernel_rfl))⟩
  f40 := ⟨Tryz.f200.name, by decide, Tryz.func200.trans (congrArg some (by kernel_rfl))⟩
  t0 := Tryz.underlying0
  a0 := Tryz.isAgg0
  z0 := Tryz.sizeOf0
  v0 := Tryz.zeroValue0
  t3 := Tryz.underlying3
  a3 := Tryz.isAgg3
  z3 := Tryz.sizeOf3
  v3 := Tryz.zeroValue3
  t4 := Tryz.underlying4
  a4 := Tryz.isAgg4
  z4 := Tryz.sizeOf4
  v4 := Tryz.zeroValue4
  t5 := Tryz.underlying5
  a5 := Tryz.isAgg5
  z5 := Tryz.sizeOf5
  v5 := Tryz.zeroValue5
  t9 := Tryz.underlying9
  a9 := Tryz.isAgg9
  z9 := Tryz.sizeOf9
  v9 := Tryz.zeroValue9
  t22 := Tryz.underlying22
  a22 := Tryz.isAgg22
  z22 := Tryz.sizeOf22
  v22 := Tryz.zeroValue22
  t23 := Tryz.underlying22
  a23 := Tryz.isAgg22
  z23 := Tryz.sizeOf22
  v23 := Tryz.zeroValue22
  t25 := Tryz.underlying3
  a25 := Tryz.isAgg3
  z25 := Tryz.sizeOf3
  v25 := Tryz.zeroValue3
  t32 := Tryz.underlying185
  a32 := Tryz.isAgg185
  z32 := Tryz.sizeOf185
  v32 := Tryz.zeroValue185
  t35 := Tryz.underlying214
  a35 := Tryz.isAgg214
  z35 := Tryz.sizeOf214
  v35 := Tryz.zeroValue214
  t36 := Tryz.underlying215
  a36 := Tryz.isAgg215
  z36 := Tryz.sizeOf215
  v36 := Tryz.zeroValue215
  t41 := Tryz.underlying173
  a41 := Tryz.isAgg173
  z41 := Tryz.sizeOf173
  v41 := Tryz.zeroValue173
  t44 := Tryz.underlying207
  a44 := Tryz.isAgg207
  z44 := Tryz.sizeOf207
  v44 := Tryz.zeroValue207
  t46 := Tryz.underlying210
  a46 := Tryz.isAgg210
  z46 := Tryz.sizeOf210
  v46 := Tryz.zeroValue210
  t53 := Tryz.underlying230
  a53 := Tryz.isAgg230
  z53 := Tryz.sizeOf230
  v53 := Tryz.zeroValue230
  t57 := Tryz.underlying234
  a57 := Tryz.isAgg234
  z57 := Tryz.sizeOf234
  v57 := Tryz.zeroValue234
  t63 := Tryz.underlying241
  a63 := Tryz.isAgg241
  z63 := Tryz.sizeOf241
  v63 := Tryz.zeroValue241
  t64 := Tryz.underlying51
  a64 := Tryz.isAgg51
  z64 := Tryz.sizeOf51
  v64 := Tryz.zeroValue51 }
theorem tnh109 {xs : List (Int)} {Φ : List (Int) → Prop} (hlen : xs.length ≤ 1099511627776) (hW : Φ (sortI xs)) {H : Hp} {w : World} {base : Nat} {v : Value} {n : Nat} {s : List Value} (_ : ∀ b o, H b = some o → w.heap[b]? = some o) (_ : ∀ b, v.ownBlock = some b → H b = none) (ho : w.ownsRow base 3 1 v n s) (hn : n = xs.length) (hd : DtL (α := Int) H s xs) : Calls Tryz.prog 109 (v :: fnVs []).toArray w fun e w' => e = .returned (.tuple #[]) ∧ ∃ (ys : List (Int)) (s' : List Value), Φ ys ∧ DtL (α := Int) H s' ys ∧ ys.length = xs.length ∧ w.grownBy w' v.ownBlock ∧ w'.ownsRow base 3 1 v n s' := by
  obtain rfl := DtL.ints hd
  obtain ⟨_, ⟨hv, h0⟩ | ⟨g, cap, cur, hv, _⟩⟩ := id ho
  · subst hv
    have hx : xs = [] := List.eq_nil_of_length_eq_zero (hn.symm.trans h0)
    have hc := AnyM.slices_Sort_int_none Tryz.layS none 0 w
    change Calls Tryz.prog 109 _ _ _ at hc
    refine hc.mono fun e w' ⟨h2, h3⟩ => ⟨h2, xs, _, ?_, hd, rfl, ?_, ?_⟩
    · rw [hx] at hW ⊢; exact hW
    · rw [h3]; exact ⟨rfl, rfl, rfl, Nat.le_refl _, fun _ _ _ => rfl⟩
    · rw [h3]; exact ho
  · subst hv
    obtain ⟨hH, hb⟩ := owns_holds (enc := Value.int .i64) (d := xs.toArray) ho (by simp)
    have hc := AnyM.slices_Sort_int Tryz.layS g 0 cap xs w hH hb (by omega)
    change Calls Tryz.prog 109 _ _ _ at hc
    rw [← hn] at hc
    refine hc.mono fun e w' ⟨h2, m, os, h3⟩ => ⟨h2, sortI xs, _, hW, DtL.ofInts _, (sortI_perm xs).length_eq, ?_, ?_⟩
    · rw [h3]; exact sorted_grown _ _ _ _ _
    · rw [h3, sortI_merge]
      have := sorted_owns (Value.int .i64) m (sortI xs).toArray os ho (by rw [List.size_toArray, (sortI_perm xs).length_eq, hn]; exact (Nat.mul_one _).symm)
      exact this
theorem tnok109 : tn109.Ok Tryz.prog gh := fun _ _ hW _ _ _ _ _ _ _ hag hap ho hn hd => tnh109 hW.1 hW.2 hag hap ho hn hd
theorem pk22 (v : Value) (cs : List Value) : PkR Tryz.prog 22 v cs = (cs = [v]) := by kernel_rfl
set_option maxRecDepth 100000 in
theorem ok110 : ct110.Ok Tryz.prog tab gh := by
  intro x Φ hW H vs hG hA
  obtain ⟨v0, k0, q0, rfl, p0, r0, hq⟩ := hA
  obtain rfl : q0 = [] := hq
  rw [pk22] at p0
  subst p0
  obtain ⟨A, n, c, cells, e0, hF⟩ := (show Dt.rd (α := List Int) H _ _ from r0)
  obtain rfl := (List.cons.inj e0).1
  obtain ⟨hs, hΦ⟩ := (show smallB x.1 = true ∧ Φ (textS x.1, ()) from hW)
  intro w hw
  refine (text_calls hF hs w hw).mono fun e w' ⟨h1, h2⟩ => ⟨_, H, [], h1, (Mem.start hw).frame h2, _, hΦ, fun nx ρ0 hn0 s b m hre => ?_⟩
  rw [show resE Tryz.prog tab ct110.rs ct110.own (textS x.1, ()) nx = some (.st (textS x.1), [], nx) by kernel_rfl] at hre
  cases hre
  exact ⟨ρ0, RM.le.refl _, Nat.le_refl _, hn0, fun _ _ => rfl, rfl, rfl⟩
def Tryz.layF_ren : Go.Shelf.Ren := ⟨fun | 6 => 111 | 15 => 150 | 14 => 154 | 28 => 175 | 29 => 176 | 20 => 179 | 21 => 180 | 22 => 181 | 23 => 182 | 24 => 183 | 25 => 184 | 26 => 185 | 27 => 186 | 46 => 197 | 47 => 191 | 48 => 192 | 49 => 198 | 50 => 199 | 57 => 205 | n => n, fun | 22 => 29 | 24 => 22 | 25 => 147 | 3 => 3 | 39 => 185 | 0 => 0 | 53 => 207 | 55 => 210 | 4 => 4 | 46 => 215 | 45 => 214 | 50 => 173 | 5 => 5 | 9 => 9 | 66 => 230 | 70 => 234 | 76 => 241 | 77 => 51 | n => n, fun | n => n⟩
theorem Tryz.layF : Go.Proofs.SlLaysF.n6 Tryz.prog Tryz.layF_ren := {
  mixed := by kernel_rfl
  f6 := ⟨Tryz.f111.name, by decide, Tryz.func111.trans (congrArg some (by kernel_rfl))⟩
  f14 := ⟨Tryz.f154.name, by decide, Tryz.func154.trans (congrArg some (by kernel_rfl))⟩
  f15 := Tryz.func150.trans (congrArg some (by kernel_rfl))
  f20 := ⟨Tryz.f179.name, by decide, Tryz.func179.trans (congrArg some (by kernel_rfl))⟩
  f21 := ⟨Tryz.f180.name, by decide, Tryz.func180.trans (congrArg some (by kernel_rfl))⟩
  f22 := ⟨Tryz.f181.name, by decide, Tryz.func181.trans (congrArg some (by kernel_rfl))⟩
  f23 := ⟨Tryz.f182.name, by decide, Tryz.func182.trans (congrArg some (by kernel_rfl))⟩
  f24 := ⟨Tryz.f183.name, by decide, Tryz.func183.trans (congrArg some (by kernel_rfl))⟩
  f25 := ⟨Tryz.f184.name, by decide, Tryz.func184.trans (congrArg some (by kernel_rfl))⟩
  f26 := ⟨Tryz.f185.name, by decide, Tryz.func185.trans (congrArg some (by kernel_rfl))⟩
  f27 := ⟨Tryz.f186.name, by decide, Tryz.func186.trans (congrArg some (by kernel_rfl))⟩
  f28 := Tryz.func175.trans (congrArg some (by kernel_rfl))
  f29 := Tryz.func176.trans (congrArg some (by kernel_rfl))
  f46 := ⟨Tryz.f197.name, by decide, Tryz.func197.trans (congrArg some (by kernel_rfl))⟩
  f47 := Tryz.func191.trans (congrArg some (by kernel_rfl))
  f48 := Tryz.func192.trans (congrArg some (by kernel_rfl))
  f49 := ⟨Tryz.f198.name, by decide, Tryz.func198.trans (congrArg some (by kernel_rfl))⟩
  f50 := ⟨Tryz.f199.name, by decide, Tryz.func199.trans (congrArg some (by kernel_rfl))⟩
  f57 := ⟨Tryz.f205.name, by decide, Tryz.func205.trans (congrArg some (by kernel_rfl))⟩
  t0 := Tryz.underlying0
  a0 := Tryz.isAgg0
  z0 := Tryz.sizeOf0
  v0 := Tryz.zeroValue0
  t3 := Tryz.underlying3
  a3 := Tryz.isAgg3
  z3 := Tryz.sizeOf3
  v3 := Tryz.zeroValue3
  t4 := Tryz.underlying4
  a4 := Tryz.isAgg4
  z4 := Tryz.sizeOf4
  v4 := Tryz.zeroValue4
  t5 := Tryz.underlying5
  a5 := Tryz.isAgg5
  z5 := Tryz.sizeOf5
  v5 := Tryz.zeroValue5
  t9 := Tryz.underlying9
  a9 := Tryz.isAgg9
  z9 := Tryz.sizeOf9
  v9 := Tryz.zeroValue9
  t22 := Tryz.underlying29
  a22 := Tryz.isAgg29
  z22 := Tryz.sizeOf29
  v22 := Tryz.zeroValue29
  a24 := Tryz.isAgg22
  z24 := Tryz.sizeOf22
  t25 := Tryz.underlying147
  a25 := Tryz.isAgg147
  z25 := Tryz.sizeOf147
  v25 := Tryz.zeroValue147
  t39 := Tryz.underlying185
  a39 := Tryz.isAgg185
  z39 := Tryz.sizeOf185
  v39 := Tryz.zeroValue185
  t45 := Tryz.underlying214
  a45 := Tryz.isAgg214
  z45 := Tryz.sizeOf214
  v45 := Tryz.zeroValue214
  t46 := Tryz.underlying215
  a46 := Tryz.isAgg215
  z46 := Tryz.sizeOf215
  v46 := Tryz.zeroValue215
  t50 := Tryz.underlying173
  a50 := Tryz.isAgg173
  z50 := Tryz.sizeOf173
  v50 := Tryz.zeroValue173
  t53 := Tryz.underlying207
  a53 := Tryz.isAgg207
  z53 := Tryz.sizeOf207
  v53 := Tryz.zeroValue207
  t55 := Tryz.underlying210
  a55 := Tryz.isAgg210
  z55 := Tryz.sizeOf210
  v55 := Tryz.zeroValue210
  t66 := Tryz.underlying230
  a66 := Tryz.isAgg230
  z66 := Tryz.sizeOf230
  v66 := Tryz.zeroValue230
  t70 := Tryz.underlying234
  a70 := Tryz.isAgg234
  z70 := Tryz.sizeOf234
  v70 := Tryz.zeroValue234
  t76 := Tryz.underlying241
  a76 := Tryz.isAgg241
  z76 := Tryz.sizeOf241
  v76 := Tryz.zeroValue241
  t77 := Tryz.underlying51
  a77 := Tryz.isAgg51
  z77 := Tryz.sizeOf51
  v77 := Tryz.zeroValue51 }
theorem tnh111 {xs : List (List Int)} {Φ : List (List Int) → Prop} (hlen : xs.length ≤ 1099511627776) (hW : Φ (sortL xs)) {H : Hp} {w : World} {base : Nat} {v : Value} {n : Nat} {s : List Value} (hag : ∀ b o, H b = some o → w.heap[b]? = some o) (hap : ∀ b, v.ownBlock = some b → H b = none) (ho : w.ownsRow base 22 1 v n s) (hn : n = xs.length) (hd : DtL (α := List Int) H s xs) : Calls Tryz.prog 111 (v :: fnVs [112]).toArray w fun e w' => e = .returned (.tuple #[]) ∧ ∃ (ys : List (List Int)) (s' : List Value), Φ ys ∧ DtL (α := List Int) H s' ys ∧ ys.length = xs.length ∧ w.grownBy w' v.ownBlock ∧ w'.ownsRow base 22 1 v n s' := by
  obtain ⟨l, e1, e2⟩ := DtL.els hd
  have hll : l.length = n := by rw [hn, e2, List.length_map]
  have none : ∀ p cap, v = .slice p 0 cap → n = 0 → Calls Tryz.prog 111 (v :: fnVs [112]).toArray w fun e w' => e = .returned (.tuple #[]) ∧ ∃ (ys : List (List Int)) (s' : List Value), Φ ys ∧ DtL (α := List Int) H s' ys ∧ ys.length = xs.length ∧ w.grownBy w' v.ownBlock ∧ w'.ownsRow base 22 1 v n s' := by
    intro p cap hv h0
    have hx : xs = [] := List.eq_nil_of_length_eq_zero (hn.symm.trans h0)
    have hc := AnyF.slices_SortFunc_none (P := Tryz.prog) (ρ := Tryz.layF_ren) { Tryz.layF with } p cap (.func (.func 112) #[] #[]) w
    change Calls Tryz.prog 111 _ _ _ at hc
    rw [hv]
    refine hc.mono fun e w' ⟨h2, h3⟩ => ⟨h2, xs, s, ?_, hd, rfl, ?_, ?_⟩
    · rw [hx] at hW ⊢; exact hW
    · rw [h3]; exact ⟨rfl, rfl, rfl, Nat.le_refl _, fun _ _ _ => rfl⟩
    · rw [h3, ← hv]; exact ho
  obtain ⟨_, ⟨hv, h0⟩ | ⟨g, cap, cur, hv, _⟩⟩ := id ho
  · exact none _ _ hv h0
  · cases hl : l with
    | nil =>
      have h0 : n = 0 := by rw [← hll, hl]; rfl
      subst h0
      exact none _ _ hv rfl
    | cons p0 l' =>
      haveI : Inhabited (ElL H) := ⟨p0⟩
      subst hv
      obtain ⟨hH, hb⟩ := owns_holds (enc := fun p : ElL H => p.1.1) (d := l.toArray) ho (by simpa using e1)
      have hgH : H g = Option.none := hap g rfl
      have eg : ∀ args w, (callFunc 112 args).run Tryz.prog w = .ok (.enter 112 args) w := enters_of Tryz.func112 (by kernel_rfl) rfl
      have hcmp : CmpLays1 Tryz.prog 112 #[] (fun p : ElL H => p.1.1) (fun p q => cmpL p.1.2 q.1.2) g 0 l.toArray.size w := fun m os dk _ p q => by
        have := cmp_calls p q (sortWorld (fun p : ElL H => p.1.1) w g 0 m dk os) fun b o hbo => by
          have h1 := hag b o hbo
          have hne : b ≠ g := by rintro rfl; rw [hgH] at hbo; cases hbo
          unfold sortWorld
          rw [sorted_old _ _ _ _ _ (lt_of_heap h1) hne]; exact h1
        exact this
      have hc := Any.slices_SortFunc Tryz.layF (fun p : ElL H => p.1.1) ElL.one (fun p q => cmpL p.1.2 q.1.2) (swoL H) 112 #[] g 0 cap l.toArray w eg hcmp hH hb (by rw [List.size_toArray, hll]; omega)
      change Calls Tryz.prog 111 _ _ _ at hc
      rw [List.size_toArray, hll] at hc
      refine hc.mono fun e w' ⟨h2, d', m, os, hp, hso, h3⟩ => ?_
      have hd' : d'.size = n := by rw [hp.1, List.size_toArray, hll]
      have hpe : d'.toList.Perm l := by
        have h4 := hp.2.2
        rw [show d'.extract 0 n = d' by rw [← hd']; simp, show l.toArray.extract 0 n = l.toArray by rw [← hll]; simp] at h4
        simpa using h4
      have hys : d'.toList.map (fun p => p.1.2) = sortL xs := by
        rw [e2]
        refine sortL_of (hpe.map _) (List.pairwise_iff_getElem.2 fun i j hi hj hij => ?_)
        have hi' : i < d'.size := by simpa using hi
        have hj' : j < d'.size := by simpa using hj
        have h5 := hso i j (Nat.zero_le _) hij (by rw [hd'] at hj'; exact hj')
        rw [getElem!_pos d' j hj', getElem!_pos d' i hi'] at h5
        simpa using ltL_false.1 h5
      refine ⟨h2, sortL xs, d'.toList.map (fun p => p.1.1), hW, ?_, (sortL_perm xs).length_eq, ?_, ?_⟩
      · rw [← hys]; exact DtL.ofEls _
      · rw [h3]; exact sorted_grown _ _ _ _ _
      · rw [h3]; exact sorted_owns (fun p : ElL H => p.1.1) m d' os ho (by rw [hd']; exact (Nat.mul_one _).symm)
theorem tnok111 : tn111.Ok Tryz.prog gh := fun _ _ hW _ _ _ _ _ _ _ hag hap ho hn hd => tnh111 hW.1 hW.2 hag hap ho hn hd
theorem ok60 : ct60.Ok Tryz.prog tab gh := Ct.lift (E := ⟨Tryz.prog, tab, [ct43, ct107, ct108, ct110], pl60, [], gh, [tn109, tn111]⟩) ⟨tabOk, ⟨ok43, ok107, ok108, ok110, trivial⟩, mo, trivial, ghUp, ⟨tnok109, tnok111, trivial⟩⟩ 9 ct60 fun x Φ => by rw [eq60]; exact id
theorem ok14 : ct14.Ok Tryz.prog tab gh := Ct.lift (E := ⟨Tryz.prog, tab, [ct32, ct60, ct106], pl14, [], gh, []⟩) ⟨tabOk, ⟨ok32, ok60, ok106, trivial⟩, mo, trivial, ghUp, trivial⟩ 9 ct14 fun x Φ => by rw [eq14]; exact id
theorem ok68 : ct68.Ok Tryz.prog tab gh := Ct.lift (E := ⟨Tryz.prog, tab, [], pl68, [], gh, []⟩) ⟨tabOk, trivial, mo, trivial, ghUp, trivial⟩ 9 ct68 fun x Φ => by rw [eq68]; exact id
theorem itok121 : it121.Ok Tryz.prog gh := It.lift (E := ⟨Tryz.prog, tab, [], pl121, [], gh, []⟩) ⟨tabOk, trivial, mo, trivial, ghUp, trivial⟩ it121 fun x l => by rw [eqi121]; exact id
theorem ok71 : ct71.Ok Tryz.prog tab gh := Ct.lift (E := ⟨Tryz.prog, tab, [], pl71, [it121], gh, []⟩) ⟨tabOk, trivial, mo, ⟨itok121, trivial⟩, ghUp, trivial⟩ 9 ct71 fun x Φ => by rw [eq71]; exact id
theorem ok17 : ct17.Ok Tryz.prog tab gh := Ct.lift (E := ⟨Tryz.prog, tab, [ct32, ct68, ct70, ct71, ct106, ct107], pl17, [it121], gh, []⟩) ⟨tabOk, ⟨ok32, ok68, ok70, ok71, ok106, ok107, trivial⟩, mo, ⟨itok121, trivial⟩, ghUp, trivial⟩ 9 ct17 fun x Φ => by rw [eq17]; exact id
theorem ok19 : ct19.Ok Tryz.prog tab gh := Ct.lift (E := ⟨Tryz.prog, tab, [ct32, ct68, ct70, ct71, ct106, ct107], pl19, [it121], gh, []⟩) ⟨tabOk, ⟨ok32, ok68, ok70, ok71, ok106, ok107, trivial⟩, mo, ⟨itok121, trivial⟩, ghUp, trivial⟩ 9 ct19 fun x Φ => by rw [eq19]; exact id
theorem ok120 : ct120.Ok Tryz.prog tab gh := Ct.lift (E := ⟨Tryz.prog, tab, [ct70], pl120, [it121], gh, []⟩) ⟨tabOk, ⟨ok70, trivial⟩, mo, ⟨itok121, trivial⟩, ghUp, trivial⟩ 9 ct120 fun x Φ => by rw [eq120]; exact id
theorem ok28 : ct28.Ok Tryz.prog tab gh := Ct.lift (E := ⟨Tryz.prog, tab, [ct32, ct68, ct70, ct71, ct106, ct107, ct120], pl28, [it121], gh, []⟩) ⟨tabOk, ⟨ok32, ok68, ok70, ok71, ok106, ok107, ok120, trivial⟩, mo, ⟨itok121, trivial⟩, ghUp, trivial⟩ 9 ct28 fun x Φ => by rw [eq28]; exact id
theorem ok30 : ct30.Ok Tryz.prog tab gh := Ct.lift (E := ⟨Tryz.prog, tab, [ct32, ct106, ct107, ct120], pl30, [], gh, []⟩) ⟨tabOk, ⟨ok32, ok106, ok107, ok120, trivial⟩, mo, trivial, ghUp, trivial⟩ 9 ct30 fun x Φ => by rw [eq30]; exact id
theorem ok66 : ct66.Ok Tryz.prog tab gh := Ct.lift (E := ⟨Tryz.prog, tab, [], pl66, [], gh, []⟩) ⟨tabOk, trivial, mo, trivial, ghUp, trivial⟩ 9 ct66 fun x Φ => by rw [eq66]; exact id
theorem ok16 : ct16.Ok Tryz.prog tab gh := Ct.lift (E := ⟨Tryz.prog, tab, [ct66], pl16, [], gh, []⟩) ⟨tabOk, ⟨ok66, trivial⟩, mo, trivial, ghUp, trivial⟩ 9 ct16 fun x Φ => by rw [eq16]; exact id
theorem ok23 : ct23.Ok Tryz.prog tab gh := Ct.lift (E := ⟨Tryz.prog, tab, [], pl23, [], gh, []⟩) ⟨tabOk, trivial, mo, trivial, ghUp, trivial⟩ 9 ct23 fun x Φ => by rw [eq23]; exact id
theorem ok13 : ct13.Ok Tryz.prog tab gh := Ct.lift (E := ⟨Tryz.prog, tab, [ct14, ct16, ct17, ct19, ct23, ct28, ct30, ct58], pl13, [], gh, []⟩) ⟨tabOk, ⟨ok14, ok16, ok17, ok19, ok23, ok28, ok30, ok58, trivial⟩, mo, trivial, ghUp, trivial⟩ 9 ct13 fun x Φ => by rw [eq13]; exact id
theorem ok113 : ct113.Ok Tryz.prog tab gh := Ct.lift (E := ⟨Tryz.prog, tab, [], pl113, [], gh, []⟩) ⟨tabOk, trivial, mo, trivial, ghUp, trivial⟩ 9 ct113 fun x Φ => by rw [eq113]; exact id
theorem ok114 : ct114.Ok Tryz.prog tab gh := Ct.lift (E := ⟨Tryz.prog, tab, [], pl114, [], gh, []⟩) ⟨tabOk, trivial, mo, trivial, ghUp, trivial⟩ 9 ct114 fun x Φ => by rw [eq114]; exact id
theorem ok116 : ct116.Ok Tryz.prog tab gh := Ct.lift (E := ⟨Tryz.prog, tab, [], pl116, [], gh, []⟩) ⟨tabOk, trivial, mo, trivial, ghUp, trivial⟩ 9 ct116 fun x Φ => by rw [eq116]; exact id
theorem ok115 : ct115.Ok Tryz.prog tab gh := Ct.lift (E := ⟨Tryz.prog, tab, [], pl115, [], gh, []⟩) ⟨tabOk, trivial, mo, trivial, ghUp, trivial⟩ 9 ct115 fun x Φ => by rw [eq115]; exact id
theorem ok61 : ct61.Ok Tryz.prog tab gh := Ct.lift (E := ⟨Tryz.prog, tab, [ct113, ct114, ct115, ct116], pl61, [], gh, []⟩) ⟨tabOk, ⟨ok113, ok114, ok115, ok116, trivial⟩, mo, trivial, ghUp, trivial⟩ 9 ct61 fun x Φ => by rw [eq61]; exact id
theorem ok62 : ct62.Ok Tryz.prog tab gh := Ct.lift (E := ⟨Tryz.prog, tab, [], pl62, [], gh, []⟩) ⟨tabOk, trivial, mo, trivial, ghUp, trivial⟩ 9 ct62 fun x Φ => by rw [eq62]; exact id
theorem ok63 : ct63.Ok Tryz.prog tab gh := Ct.lift (E := ⟨Tryz.prog, tab, [], pl63, [], gh, []⟩) ⟨tabOk, trivial, mo, trivial, ghUp, trivial⟩ 9 ct63 fun x Φ => by rw [eq63]; exact id
theorem ok123 : ct123.Ok Tryz.prog tab gh := Ct.lift (E := ⟨Tryz.prog, tab, [], pl123, [], gh, []⟩) ⟨tabOk, trivial, mo, trivial, ghUp, trivial⟩ 9 ct123 fun x Φ => by rw [eq123]; exact id
theorem ok72 : ct72.Ok Tryz.prog tab gh := Ct.lift (E := ⟨Tryz.prog, tab, [ct61, ct123], pl72, [], gh, []⟩) ⟨tabOk, ⟨ok61, ok123, trivial⟩, mo, trivial, ghUp, trivial⟩ 9 ct72 fun x Φ => by rw [eq72]; exact id
theorem ok125 : ct125.Ok Tryz.prog tab gh := Ct.lift (E := ⟨Tryz.prog, tab, [], pl125, [], gh, []⟩) ⟨tabOk, trivial, mo, trivial, ghUp, trivial⟩ 9 ct125 fun x Φ => by rw [eq125]; exact id
theorem ok158 : ct158.Ok Tryz.prog tab gh := Ct.lift (E := ⟨Tryz.prog, tab, [ct115, ct116, ct125], pl158, [], gh, []⟩) ⟨tabOk, ⟨ok115, ok116, ok125, trivial⟩, mo, trivial, ghUp, trivial⟩ 9 ct158 fun x Φ => by rw [eq158]; exact id
theorem ok124 : ct124.Ok Tryz.prog tab gh := Ct.lift (E := ⟨Tryz.prog, tab, [ct63, ct158], pl124, [], gh, []⟩) ⟨tabOk, ⟨ok63, ok158, trivial⟩, mo, trivial, ghUp, trivial⟩ 9 ct124 fun x Φ => by rw [eq124]; exact id
theorem ok73 : ct73.Ok Tryz.prog tab gh := Ct.lift (E := ⟨Tryz.prog, tab, [ct61, ct123, ct124], pl73, [], gh, []⟩) ⟨tabOk, ⟨ok61, ok123, ok124, trivial⟩, mo, trivial, ghUp, trivial⟩ 9 ct73 fun x Φ => by rw [eq73]; exact id
theorem ok22 : ct22.Ok Tryz.prog tab gh := Ct.lift (E := ⟨Tryz.prog, tab, [ct72, ct73], pl22, [], gh, []⟩) ⟨tabOk, ⟨ok72, ok73, trivial⟩, mo, trivial, ghUp, trivial⟩ 9 ct22 fun x Φ => by rw [eq22]; exact id
theorem ok75 : ct75.Ok Tryz.prog tab gh := Ct.lift (E := ⟨Tryz.prog, tab, [], pl75, [], gh, []⟩) ⟨tabOk, trivial, mo, trivial, ghUp, trivial⟩ 9 ct75 fun x Φ => by rw [eq75]; exact id
theorem ok24 : ct24.Ok Tryz.prog tab gh := Ct.lift (E := ⟨Tryz.prog, tab, [ct32, ct71, ct75, ct106, ct107, ct120], pl24, [], gh, []⟩) ⟨tabOk, ⟨ok32, ok71, ok75, ok106, ok107, ok120, trivial⟩, mo, trivial, ghUp, trivial⟩ 9 ct24 fun x Φ => by rw [eq24]; exact id
theorem ok76 : ct76.Ok Tryz.prog tab gh := Ct.lift (E := ⟨Tryz.prog, tab, [ct72, ct73, ct123], pl76, [], gh, []⟩) ⟨tabOk, ⟨ok72, ok73, ok123, trivial⟩, mo, trivial, ghUp, trivial⟩ 9 ct76 fun x Φ => by rw [eq76]; exact id
theorem ok25 : ct25.Ok Tryz.prog tab gh := Ct.lift (E := ⟨Tryz.prog, tab, [ct63, ct76], pl25, [], gh, []⟩) ⟨tabOk, ⟨ok63, ok76, trivial⟩, mo, trivial, ghUp, trivial⟩ 9 ct25 fun x Φ => by rw [eq25]; exact id
theorem ok77 : ct77.Ok Tryz.prog tab gh := Ct.lift (E := ⟨Tryz.prog, tab, [], pl77, [], gh, []⟩) ⟨tabOk, trivial, mo, trivial, ghUp, trivial⟩ 9 ct77 fun x Φ => by rw [eq77]; exact id
theorem ok26 : ct26.Ok Tryz.prog tab gh := Ct.lift (E := ⟨Tryz.prog, tab, [ct32, ct71, ct77, ct106, ct107, ct120], pl26, [], gh, []⟩) ⟨tabOk, ⟨ok32, ok71, ok77, ok106, ok107, ok120, trivial⟩, mo, trivial, ghUp, trivial⟩ 9 ct26 fun x Φ => by rw [eq26]; exact id
theorem ok27 : ct27.Ok Tryz.prog tab gh := Ct.lift (E := ⟨Tryz.prog, tab, [ct63, ct76], pl27, [], gh, []⟩) ⟨tabOk, ⟨ok63, ok76, trivial⟩, mo, trivial, ghUp, trivial⟩ 9 ct27 fun x Φ => by rw [eq27]; exact id
theorem ok29 : ct29.Ok Tryz.prog tab gh := Ct.lift (E := ⟨Tryz.prog, tab, [ct22, ct62], pl29, [], gh, []⟩) ⟨tabOk, ⟨ok22, ok62, trivial⟩, mo, trivial, ghUp, trivial⟩ 9 ct29 fun x Φ => by rw [eq29]; exact id
theorem ok78 : ct78.Ok Tryz.prog tab gh := Ct.lift (E := ⟨Tryz.prog, tab, [ct61, ct115, ct125], pl78, [], gh, []⟩) ⟨tabOk, ⟨ok61, ok115, ok125, trivial⟩, mo, trivial, ghUp, trivial⟩ 9 ct78 fun x Φ => by rw [eq78]; exact id
theorem ok31 : ct31.Ok Tryz.prog tab gh := Ct.lift (E := ⟨Tryz.prog, tab, [ct22, ct63, ct78], pl31, [], gh, []⟩) ⟨tabOk, ⟨ok22, ok63, ok78, trivial⟩, mo, trivial, ghUp, trivial⟩ 9 ct31 fun x Φ => by rw [eq31]; exact id
theorem ok5 : ct5.Ok Tryz.prog tab gh := Ct.lift (E := ⟨Tryz.prog, tab, [ct12, ct13, ct23, ct24, ct25, ct26, ct27, ct28, ct29, ct30, ct31], pl5, [], gh, []⟩) ⟨tabOk, ⟨ok12, ok13, ok23, ok24, ok25, ok26, ok27, ok28, ok29, ok30, ok31, trivial⟩, mo, trivial, ghUp, trivial⟩ 9 ct5 fun x Φ => by rw [eq5]; exact id
section
theorem iI {x : Int} (h1 : -9223372036854775808 ≤ x) (h2 : x ≤ 9223372036854775807) : inI x := ⟨h1, h2⟩
theorem iX {i : Int} {n : Nat} (h1 : 0 ≤ i) (h2 : i < (n : Int)) : inX i n := ⟨h1, h2⟩
theorem iS {a b : Int} {n : Nat} (h1 : 0 ≤ a) (h2 : a ≤ b) (h3 : b ≤ (n : Int)) : inS a b n := ⟨h1, h2, h3⟩
theorem iL {n b : Nat} (h : n ≤ 1000000) (hb : b ≤ 1000000) : lenOk n b := by
  have := Nat.mul_le_mul h hb
  refine ⟨by omega, ?_⟩
  simp only [maxLen]
  omega
section
variable {α : Type} [Dt α]
theorem ix_get {xs : List α} {k : Nat} (h : k < xs.length) : ix xs (k : Int) = xs[k] := by
  show xs.getD k default = _
  rw [List.getD_eq_getElem?_getD, List.getElem?_eq_getElem h]; rfl
theorem take_ix {xs : List α} {k : Nat} (h : k < xs.length) : xs.take (k + 1) = xs.take k ++ [ix xs (k : Int)] := by
  rw [ix_get h]; exact (List.take_append_getElem h).symm
theorem ix_mem {xs : List α} {i : Int} (h : inX i xs.length) : ix xs i ∈ xs := by
  have e := h.nat
  have hl := h.lt
  rw [e, ix_get hl]
  exact List.getElem_mem hl
theorem ext_ix {xs ys : List α} (hl : xs.length = ys.length) (h : ∀ k : Nat, k < xs.length → ix xs (k : Int) = ix ys (k : Int)) : xs = ys := by
  apply List.ext_getElem hl
  intro k h1 h2
  have := h k h1
  rwa [ix_get h1, ix_get h2] at this
end
section
variable {A : Type}
theorem LoopW.up {step : Int → (Int → Prop) → Prop} (n : Nat) (Inv : Nat → Prop) (h : ∀ (k : Nat) rec, k ≤ n → Inv k → (k < n → Inv (k + 1) → rec ((k : Int) + 1)) → step (k : Int) rec) {k0 : Nat} {i0 : Int} (hi : i0 = (k0 : Int)) (hk : k0 ≤ n) (h0 : Inv k0) : LoopW step i0 := by
  subst hi
  refine LoopW.of_inv (fun i => ∃ k : Nat, i = (k : Int) ∧ k ≤ n ∧ Inv k) (fun i => n - i.toNat) ?_ ⟨k0, rfl, hk, h0⟩
  rintro _ rec ⟨k, rfl, hk, hI⟩ hrec
  refine h k rec hk hI fun hlt hI' => hrec _ ⟨k + 1, rfl, hlt, hI'⟩ ?_
  simp only [Int.toNat_natCast]
  omega
def firstN (f : Nat → Int) : Nat → Int
  | 0 => 0
  | n + 1 => if firstN f n ≠ 0 then firstN f n else f n
theorem firstN_hit {f : Nat → Int} : ∀ {n k : Nat}, k < n → (∀ j, j < k → f j = 0) → f k ≠ 0 → firstN f n = f k
  | 0, _, hk, _, _ => by omega
  | n + 1, k, hk, h0, h1 => by
    unfold firstN
    rcases Nat.lt_or_ge k n with h | h
    · rw [firstN_hit h h0 h1, if_pos h1]
    · have e : k = n := by omega
      subst e
      have : firstN f k = 0 := by
        clear h1 hk h
        induction k with
        | zero => rfl
        | succ k ih => unfold firstN; rw [ih fun j hj => h0 j (by omega), if_neg (by simp), h0 k (by omega)]
      rw [this, if_neg (by simp)]
theorem firstN_zero {f : Nat → Int} : ∀ {n : Nat}, firstN f n = 0 ↔ ∀ k, k < n → f k = 0
  | 0 => by simp [firstN]
  | n + 1 => by
    unfold firstN
    constructor
    · intro h k hk
      by_cases h1 : firstN f n ≠ 0
      · rw [if_pos h1] at h; exact absurd h h1
      · rw [if_neg h1] at h
        rcases Nat.lt_or_ge k n with hlt | hge
        · exact (firstN_zero.1 (Classical.not_not.1 h1)) k hlt
        · have : k = n := by omega
          subst this; exact h
    · intro h
      rw [if_neg (by rw [firstN_zero.2 fun k hk => h k (by omega)]; simp), h n (by omega)]
def allN (p : Nat → Bool) (n : Nat) : Bool := (List.range n).all p
theorem allN_true {p : Nat → Bool} {n : Nat} : allN p n = true ↔ ∀ k, k < n → p k = true := by simp [allN]
theorem allN_false {p : Nat → Bool} {n k : Nat} (hk : k < n) (h : p k = false) : allN p n = false := by
  cases hx : allN p n with
  | false => rfl
  | true => rw [allN_true.1 hx k hk] at h; cases h
theorem allN_congr {p q : Nat → Bool} {n : Nat} (h : ∀ k, k < n → p k = q k) : allN p n = allN q n := by
  rw [Bool.eq_iff_iff, allN_true, allN_true]
  exact ⟨fun g k hk => by rw [← h k hk]; exact g k hk, fun g k hk => by rw [h k hk]; exact g k hk⟩
theorem LoopW.allL {step : Int → (Int → Prop) → Prop} (n : Nat) (p : Nat → Bool) {Φ : Bool → Prop} (hΦ : Φ (allN p n)) (h : ∀ (k : Nat) rec, k < n → (∀ j, j < k → p j = true) → (p k = false → Φ false) → (p k = true → rec ((k : Int) + 1)) → step (k : Int) rec)
    (he : ∀ rec, Φ true → (∀ j, j < n → p j = true) → step (n : Int) rec) : LoopW step 0 := by
  refine LoopW.up n (fun k => ∀ j, j < k → p j = true) ?_ rfl (Nat.zero_le _) (fun j hj => absurd hj (Nat.not_lt_zero j))
  intro k rec hk hI hrec
  rcases Nat.lt_or_ge k n with hlt | hge
  · refine h k rec hlt hI (fun h1 => by rw [allN_false hlt h1] at hΦ; exact hΦ) fun h0 => hrec hlt fun j hj => ?_
    rcases Nat.lt_or_ge j k with h2 | h2
    · exact hI j h2
    · have : j = k := by omega
      subst this; exact h0
  · have e : k = n := by omega
    subst e
    exact he rec (by rw [allN_true.2 hI] at hΦ; exact hΦ) hI
end
end
theorem LoopW.upI {S : Type} {step : S → (S → Prop) → Prop} (n : Nat) (st : Nat → S) (I : Nat → Prop) {s : S} (hs : s = st 0) (h0 : I 0)
    (h : ∀ (k : Nat) rec, k < n → I k → (I (k + 1) → ∀ s, s = st (k + 1) → rec s) → step (st k) rec) (he : ∀ rec, I n → step (st n) rec) : LoopW step s := by
  have key : ∀ m k, k + m = n → I k → LoopN step (m + 1) (st k) := by
    intro m
    induction m with
    | zero => intro k hk hI; obtain rfl : k = n := hk; exact he _ hI
    | succ m ih => intro k hk hI; exact h k _ (by omega) hI fun hI' s hs => by rw [hs]; exact ih (k + 1) (by omega) hI'
  exact ⟨n + 1, by rw [hs]; exact key n 0 (by omega) h0⟩
theorem LoopW.upT {S : Type} {step : S → (S → Prop) → Prop} (n : Nat) (st : Nat → S) {s : S} (hs : s = st 0)
    (h : ∀ (k : Nat) rec, k < n → (∀ s, s = st (k + 1) → rec s) → step (st k) rec) (he : ∀ rec, step (st n) rec) : LoopW step s :=
  LoopW.upI n st (fun _ => True) hs trivial (fun k rec hk _ hr => h k rec hk (hr trivial)) fun rec _ => he rec
theorem LoopW.findI {step : Int → (Int → Prop) → Prop} (n : Nat) (p : Nat → Bool) (h : ∀ (k : Nat) rec, k < n → (∀ j, j < k → p j = false) → (p k = false → rec ((k : Int) + 1)) → step (k : Int) rec)
    (he : ∀ rec, (∀ j, j < n → p j = false) → step (n : Int) rec) : LoopW step 0 :=
  LoopW.upI n (fun k => (k : Int)) (fun k => ∀ j, j < k → p j = false) rfl (fun j hj => absurd hj (Nat.not_lt_zero j)) (fun k rec hk hI hr => h k rec hk hI fun hp => hr (fun j hj => by
    rcases Nat.lt_or_ge j k with h2 | h2
    · exact hI j h2
    · obtain rfl : j = k := by omega
      exact hp) _ rfl) he
theorem any_ix {α : Type} [Dt α] {xs : List α} {p : α → Bool} : xs.any p = true ↔ ∃ k, k < xs.length ∧ p (ix xs (k : Int)) = true := by
  rw [List.any_eq_true]
  constructor
  · rintro ⟨x, hx, hp⟩
    obtain ⟨k, hk, rfl⟩ := List.getElem_of_mem hx
    exact ⟨k, hk, by rw [ix_get hk]; exact hp⟩
  · rintro ⟨k, hk, hp⟩
    exact ⟨xs[k], List.getElem_mem hk, by rw [ix_get hk] at hp; exact hp⟩
theorem any_false_ix {α : Type} [Dt α] {xs : List α} {p : α → Bool} (h : ∀ k, k < xs.length → p (ix xs (k : Int)) = false) : xs.any p = false := by
  rw [Bool.eq_false_iff]
  intro q
  obtain ⟨k, hk, hp⟩ := any_ix.1 q
  rw [h k hk] at hp; cases hp
theorem any_true_ix {α : Type} [Dt α] {xs : List α} {p : α → Bool} {k : Nat} (hk : k < xs.length) (h : p (ix xs (k : Int)) = true) : xs.any p = true := any_ix.2 ⟨k, hk, h⟩
theorem LoopW.anyL {α : Type} [Dt α] {step : Int → (Int → Prop) → Prop} (xs : List α) (p : α → Bool) {Φ : Bool → Prop} (hΦ : Φ (xs.any p)) (h : ∀ (k : Nat) rec, k < xs.length → (p (ix xs (k : Int)) = true → Φ true) → (p (ix xs (k : Int)) = false → rec ((k : Int) + 1)) → step (k : Int) rec)
    (he : ∀ rec, Φ false → step (xs.length : Int) rec) : LoopW step 0 :=
  LoopW.findI xs.length (fun k => p (ix xs (k : Int))) (fun k rec hk _ hr => h k rec hk (fun hp => by rw [any_true_ix hk hp] at hΦ; exact hΦ) hr) fun rec hn => he rec (by rw [any_false_ix hn] at hΦ; exact hΦ)
theorem LoopW.allE {α : Type} [Dt α] {step : Int → (Int → Prop) → Prop} (xs : List α) (p : α → Bool) {Φ : Bool → Prop} (hΦ : Φ (xs.all p)) (h : ∀ (k : Nat) rec, k < xs.length → (p (ix xs (k : Int)) = false → Φ false) → (p (ix xs (k : Int)) = true → rec ((k : Int) + 1)) → step (k : Int) rec)
    (he : ∀ rec, Φ true → step (xs.length : Int) rec) : LoopW step 0 := by
  have e : xs.all p = !(xs.any fun x => !p x) := by simp [List.all_eq_not_any_not]
  rw [e] at hΦ
  refine LoopW.anyL xs (fun x => !p x) (Φ := fun b => Φ (!b)) hΦ (fun k rec hk h1 h2 => h k rec hk (fun hp => h1 (by simp [hp])) fun hp => h2 (by simp [hp])) he
theorem len_snoc {α : Type} (xs : List α) (x : α) : (xs ++ [x]).length = xs.length + 1 := by simp
theorem lenT {α : Type} {xs : List α} {k : Nat} (h : k ≤ xs.length) : (xs.take k).length = k := by rw [List.length_take]; omega
theorem take_all {α : Type} (xs : List α) : xs.take xs.length = xs := List.take_length
theorem map_take_snoc {α β : Type} [Dt α] {xs : List α} {k : Nat} (f : α → β) (h : k < xs.length) : (xs.take (k + 1)).map f = (xs.take k).map f ++ [f (ix xs (k : Int))] := by rw [take_ix h, List.map_append]; rfl
theorem filter_take_snoc {α : Type} [Dt α] {xs : List α} {k : Nat} (p : α → Bool) (h : k < xs.length) : (xs.take (k + 1)).filter p = (xs.take k).filter p ++ (if p (ix xs (k : Int)) then [ix xs (k : Int)] else []) := by
  rw [take_ix h, List.filter_append]; congr 1; by_cases hp : p (ix xs (k : Int)) = true <;> simp [hp]
theorem filter_range_snoc (k : Nat) (p : Nat → Bool) : (List.range (k + 1)).filter p = (List.range k).filter p ++ (if p k then [k] else []) := by
  rw [List.range_succ, List.filter_append]; congr 1; by_cases hp : p k = true <;> simp [hp]
theorem LoopW.errI {S : Type} {step : S → (S → Prop) → Prop} (n : Nat) (st : Nat → S) (f : Nat → Int) {Ψ : Int → Prop} {s : S} (hs : s = st 0) (hΨ : Ψ (firstN f n))
    (h : ∀ (k : Nat) rec, k < n → (∀ j, j < k → f j = 0) → (f k ≠ 0 → Ψ (f k)) → (f k = 0 → ∀ s, s = st (k + 1) → rec s) → step (st k) rec) (he : ∀ rec, (∀ j, j < n → f j = 0) → Ψ 0 → step (st n) rec) : LoopW step s :=
  LoopW.upI n st (fun k => ∀ j, j < k → f j = 0) hs (fun j hj => absurd hj (Nat.not_lt_zero j)) (fun k rec hk hI hr => h k rec hk hI (fun h1 => by rw [firstN_hit hk hI h1] at hΨ; exact hΨ) fun h0 => hr fun j hj => by
    rcases Nat.lt_or_ge j k with h2 | h2
    · exact hI j h2
    · obtain rfl : j = k := by omega
      exact h0) fun rec hI => he rec hI (by rw [firstN_zero.2 hI] at hΨ; exact hΨ)
def sizesE (l : List Int) : Int := if (l.length : Int) < 1 ∨ 8 < (l.length : Int) then 6 else firstN (fun k => if ix l (k : Int) < 1 ∨ 4096 < ix l (k : Int) then 2 else 0) l.length
def szs (im : List (List Sec)) : List Int := im.map fun v => (v.length : Int)
def imgE (im : List (List Sec)) : Int := sizesE (szs im)
theorem szs_len (im : List (List Sec)) : (szs im).length = im.length := by unfold szs; rw [List.length_map]
theorem ix_szs {im : List (List Sec)} {k : Nat} (h : k < im.length) : ix (szs im) (k : Int) = ((ix im (k : Int)).length : Int) := by
  rw [ix_get (by rw [szs_len]; exact h), ix_get h]; unfold szs; rw [List.getElem_map]
theorem sizesE_len {l : List Int} (h : sizesE l = 0) : 1 ≤ l.length ∧ l.length ≤ 8 := by
  unfold sizesE at h
  by_cases hl : (l.length : Int) < 1 ∨ 8 < (l.length : Int)
  · rw [if_pos hl] at h; cases h
  · omega
theorem sizesE_ix {l : List Int} (h : sizesE l = 0) {k : Nat} (hk : k < l.length) : 1 ≤ ix l (k : Int) ∧ ix l (k : Int) ≤ 4096 := by
  unfold sizesE at h
  by_cases hl : (l.length : Int) < 1 ∨ 8 < (l.length : Int)
  · rw [if_pos hl] at h; cases h
  · rw [if_neg hl] at h
    have := firstN_zero.1 h k hk
    by_cases q : ix l (k : Int) < 1 ∨ 4096 < ix l (k : Int)
    · rw [if_pos q] at this; cases this
    · omega
theorem ref07_Sizes_ok {l : List Int} {Φ : Int → Prop} (hΦ : Φ (sizesE l)) : ref07_Sizes_W l Φ := by
  unfold sizesE at hΦ
  by_cases h : (l.length : Int) < 1 ∨ 8 < (l.length : Int)
  · rw [if_pos h] at hΦ
    exact ⟨fun _ => hΦ, fun _ => ⟨fun _ => hΦ, fun _ => by omega⟩⟩
  · rw [if_neg h] at hΦ
    refine ⟨fun _ => by omega, fun _ => ⟨fun _ => by omega, fun _ => ?_⟩⟩
    refine LoopW.errI l.length (fun k => (k : Int)) _ rfl hΦ (fun k rec hk _ h1 h2 => ?_) fun rec _ h0 => ⟨fun _ => by omega, fun _ => h0⟩
    refine ⟨fun _ => ⟨iX (by omega) (by omega), fun q => ?_, fun q => ⟨iX (by omega) (by omega), fun r => ?_, fun r => ⟨iI (by omega) (by omega), h2 (if_neg (by omega)) _ rfl⟩⟩⟩, fun _ => by omega⟩
    · have := h1 (by rw [if_pos (.inl q)]; omega)
      rw [if_pos (.inl q)] at this; exact this
    · have := h1 (by rw [if_pos (.inr r)]; omega)
      rw [if_pos (.inr r)] at this; exact this
theorem image_checkSizes_ok {l : List Int} {Φ : Int → Prop} (hΦ : Φ (sizesE l)) : image_checkSizes_W l Φ := by
  unfold sizesE at hΦ
  by_cases h : (l.length : Int) < 1 ∨ 8 < (l.length : Int)
  · rw [if_pos h] at hΦ
    exact ⟨fun _ => hΦ, fun _ => ⟨fun _ => hΦ, fun _ => by omega⟩⟩
  · rw [if_neg h] at hΦ
    refine ⟨fun _ => by omega, fun _ => ⟨fun _ => by omega, fun _ => ?_⟩⟩
    refine LoopW.errI l.length (fun k => (k : Int)) _ rfl hΦ (fun k rec hk _ h1 h2 => ?_) fun rec _ h0 => ⟨fun _ => by omega, fun _ => ⟨fun _ => by omega, fun _ => h0⟩⟩
    have go : ∀ q : ix l (k : Int) < 1 ∨ 4096 < ix l (k : Int), Φ 2 := fun q => by
      have := h1 (by rw [if_pos q]; omega)
      rw [if_pos q] at this; exact this
    refine ⟨fun _ => ⟨iX (by omega) (by omega), fun q => ⟨fun _ => ⟨fun _ => go (.inl q), fun _ => by omega⟩, fun r => absurd rfl r⟩, fun q => ⟨fun r => ⟨fun _ => go (.inr (of_decide_eq_true r)), fun _ => by omega⟩, fun r => ⟨iI (by omega) (by omega), h2 (if_neg (by have := of_decide_eq_false (Bool.eq_false_iff.2 r); omega)) _ rfl⟩⟩⟩, fun _ => by omega⟩
theorem image_sizes_ok {im : List (List Sec)} {Φ : List Int → Prop} (hl : im.length ≤ 100000) (hΦ : Φ (szs im)) : image_sizes_W im Φ := by
  refine ⟨by omega, iL (by omega) (by omega), ?_⟩
  refine LoopW.upT im.length (fun k => ((k : Int), (im.take k).map fun v => (v.length : Int))) rfl (fun k rec hk hr => ?_) fun rec => ⟨fun _ => by omega, fun _ => by rw [take_all]; exact hΦ⟩
  refine ⟨fun _ => ⟨iX (by omega) (by omega), iL (by rw [len_snoc, List.length_map, lenT (by omega)]; omega) (by omega), iI (by omega) (by omega), hr _ (by rw [map_take_snoc _ hk]; rfl)⟩, fun _ => by omega⟩
theorem image_Check_ok {im : List (List Sec)} {Φ : Int → Prop} (hl : im.length ≤ 100000) (hΦ : Φ (imgE im)) : image_Check_W im Φ := image_sizes_ok hl (image_checkSizes_ok hΦ)
def zeroI (l : List Int) : List (List Sec) := l.map fun n => List.replicate n.toNat sec0
theorem zeroI_len (l : List Int) : (zeroI l).length = l.length := by unfold zeroI; rw [List.length_map]
theorem ix_zeroI {l : List Int} {k : Nat} (h : k < l.length) : ix (zeroI l) (k : Int) = List.replicate (ix l (k : Int)).toNat sec0 := by
  rw [ix_get (by rw [zeroI_len]; exact h), ix_get h]; unfold zeroI; rw [List.getElem_map]
theorem szs_zeroI {l : List Int} (h : sizesE l = 0) : szs (zeroI l) = l := by
  refine ext_ix (by rw [szs_len, zeroI_len]) fun k hk => ?_
  rw [szs_len, zeroI_len] at hk
  have := sizesE_ix h hk
  rw [ix_szs (by rw [zeroI_len]; exact hk), ix_zeroI hk, List.length_replicate]; omega
theorem image_New_ok {l : List Int} {Φ : List (List Sec) × Int → Prop} (h0 : sizesE l = 0 → Φ (zeroI l, 0)) (h1 : sizesE l ≠ 0 → Φ ([], sizesE l)) : image_New_W l Φ := by
  refine image_checkSizes_ok ⟨fun q => h1 q, fun q => ?_⟩
  have q : sizesE l = 0 := Classical.not_not.1 q
  have hl := sizesE_len q
  refine ⟨by omega, iL (by omega) (by omega), ?_⟩
  refine LoopW.upT l.length (fun k => ((k : Int), (l.take k).map fun n => List.replicate n.toNat sec0)) rfl (fun k rec hk hr => ?_) fun rec => ⟨fun _ => by omega, fun _ => by rw [take_all]; exact h0 q⟩
  have := sizesE_ix q hk
  refine ⟨fun _ => ⟨iX (by omega) (by omega), by omega, iL (by omega) (by omega), iL (by rw [len_snoc, List.length_map, lenT (by omega)]; omega) (by omega), iI (by omega) (by omega), hr _ (by rw [map_take_snoc _ hk]; rfl)⟩, fun _ => by omega⟩
def fitW (l : List Int) (w : api_Write) : Int := if w.Volume < 0 ∨ (l.length : Int) ≤ w.Volume then 7 else if (w.Data.length : Int) = 0 then 1 else if w.Start < 0 ∨ ix l w.Volume - w.Start < (w.Data.length : Int) then 2 else 0
theorem image_fits_ok {im : List (List Sec)} {w : api_Write} {Φ : Int → Prop} (hd : w.Data.length ≤ 1000000) (hv : ∀ k : Nat, k < im.length → (ix im (k : Int)).length ≤ 1000000) (hΦ : Φ (fitW (szs im) w)) : image_fits_W im w Φ := by
  unfold fitW at hΦ
  rw [szs_len] at hΦ
  show (_ → image_fits_J1 _ _ _ _) ∧ _
  have tail : ¬ (w.Volume < 0 ∨ (im.length : Int) ≤ w.Volume) → image_fits_J1 im w Φ false := fun q => by
    rw [if_neg q] at hΦ
    refine ⟨fun r => (Bool.noConfusion r), fun _ => ⟨fun r => by rw [if_pos (by omega)] at hΦ; exact hΦ, fun r => ?_⟩⟩
    rw [if_neg (by omega)] at hΦ
    obtain ⟨v, hw⟩ := Int.eq_ofNat_of_zero_le (show 0 ≤ w.Volume by omega)
    have hvl : v < im.length := by omega
    rw [hw, ix_szs hvl] at hΦ
    have := hv v hvl
    refine ⟨fun s => by rw [if_pos (.inl s)] at hΦ; exact hΦ, fun s => ⟨iX (by omega) (by omega), ?_⟩⟩
    rw [hw]
    exact ⟨iI (by omega) (by omega), fun t => by rw [if_pos (by omega)] at hΦ; exact hΦ, fun t => by rw [if_neg (by omega)] at hΦ; exact hΦ⟩
  refine ⟨fun q => ⟨fun _ => by rw [if_pos (.inl q)] at hΦ; exact hΦ, fun r => absurd rfl r⟩, fun q => ?_⟩
  by_cases r : (im.length : Int) ≤ w.Volume
  · rw [decide_eq_true r]
    exact ⟨fun _ => by rw [if_pos (.inr r)] at hΦ; exact hΦ, fun r => absurd rfl r⟩
  · rw [decide_eq_false r]; exact tail (by omega)
theorem ref07_FitsSizes_ok {l : List Int} {w : api_Write} {Φ : Int → Prop} (hd : w.Data.length ≤ 1000000) (hl : ∀ k : Nat, k < l.length → ix l (k : Int) ≤ 1000000) (hΦ : Φ (fitW l w)) : ref07_FitsSizes_W l w Φ := by
  unfold fitW at hΦ
  refine ⟨fun q => by rw [if_pos (.inl q)] at hΦ; exact hΦ, fun q => ⟨fun r => by rw [if_pos (.inr r)] at hΦ; exact hΦ, fun r => ?_⟩⟩
  rw [if_neg (by omega)] at hΦ
  refine ⟨fun s => by rw [if_pos (by omega)] at hΦ; exact hΦ, fun s => ?_⟩
  rw [if_neg (by omega)] at hΦ
  obtain ⟨v, hw⟩ := Int.eq_ofNat_of_zero_le (show 0 ≤ w.Volume by omega)
  have hvl : v < l.length := by omega
  have := hl v hvl
  rw [hw] at hΦ ⊢
  refine ⟨fun t => by rw [if_pos (.inl t)] at hΦ; exact hΦ, fun t => ⟨iX (by omega) (by omega), fun u => by rw [if_pos (by omega)] at hΦ; exact hΦ, fun u => ⟨iX (by omega) (by omega), iI (by omega) (by omega), fun x => by rw [if_pos (by omega)] at hΦ; exact hΦ, fun x => by rw [if_neg (by omega)] at hΦ; exact hΦ⟩⟩⟩
theorem szs_small {im : List (List Sec)} (h : imgE im = 0) (k : Nat) (hk : k < im.length) : (ix im (k : Int)).length ≤ 4096 := by
  have := sizesE_ix h (k := k) (by rw [szs_len]; exact hk)
  rw [ix_szs hk] at this; omega
theorem image_Fits_ok {im : List (List Sec)} {w : api_Write} {Φ : Int → Prop} (hd : w.Data.length ≤ 1000000) (h : imgE im = 0) (hΦ : Φ (fitW (szs im) w)) : image_Fits_W im w Φ := by
  have hl := sizesE_len h
  rw [szs_len] at hl
  exact image_Check_ok (by omega) ⟨fun q => absurd h q, fun _ => image_fits_ok hd (fun k hk => Nat.le_trans (szs_small h k hk) (by omega)) hΦ⟩
theorem ix_put {α : Type} [Dt α] (xs : List α) {i j : Nat} (x : α) (hi : i < xs.length) : ix (put xs (i : Int) x) (j : Int) = if j = i then x else ix xs (j : Int) := by
  show (xs.set i x).getD j default = if j = i then x else xs.getD j default
  rw [List.getD_eq_getElem?_getD, List.getD_eq_getElem?_getD]
  by_cases h : j = i
  · subst h; rw [List.getElem?_set_self hi, if_pos rfl]; rfl
  · rw [List.getElem?_set_ne (by omega), if_neg h]
def sec (im : List (List Sec)) (v i : Nat) : Sec := ix (ix im (v : Int)) (i : Int)
def idxN (p : Nat → Bool) (n : Nat) : Int := match (List.range n).find? p with
  | some k => (k : Int)
  | none => -1
theorem idxN_hit {p : Nat → Bool} {n k : Nat} (hk : k < n) (h0 : ∀ j, j < k → p j = false) (h1 : p k = true) : idxN p n = (k : Int) := by
  unfold idxN
  have : (List.range n).find? p = some k := by
    rw [List.find?_range_eq_some]
    exact ⟨h1, List.mem_range.2 hk, fun j hj => by rw [h0 j hj]; rfl⟩
  rw [this]
theorem idxN_none {p : Nat → Bool} {n : Nat} (h0 : ∀ j, j < n → p j = false) : idxN p n = -1 := by
  unfold idxN
  have : (List.range n).find? p = none := by
    rw [List.find?_eq_none]
    intro j hj
    rw [h0 j (List.mem_range.1 hj)]; simp
  rw [this]
theorem LoopW.idxL {step : Int → (Int → Prop) → Prop} (n : Nat) (p : Nat → Bool) {Φ : Int → Prop} (hΦ : Φ (idxN p n)) (h : ∀ (k : Nat) rec, k < n → (p k = true → Φ (k : Int)) → (p k = false → rec ((k : Int) + 1)) → step (k : Int) rec)
    (he : ∀ rec, Φ (-1) → step (n : Int) rec) : LoopW step 0 := by
  refine LoopW.up n (fun k => ∀ j, j < k → p j = false) ?_ rfl (Nat.zero_le _) (fun j hj => absurd hj (Nat.not_lt_zero j))
  intro k rec hk hI hrec
  rcases Nat.lt_or_ge k n with hlt | hge
  · refine h k rec hlt (fun h1 => by rw [idxN_hit hlt hI h1] at hΦ; exact hΦ) fun h0 => hrec hlt fun j hj => ?_
    rcases Nat.lt_or_ge j k with h2 | h2
    · exact hI j h2
    · have : j = k := by omega
      subst this; exact h0
  · have e : k = n := by omega
    subst e
    exact he rec (by rw [idxN_none hI] at hΦ; exact hΦ)
theorem idxN_cases (p : Nat → Bool) (n : Nat) : (idxN p n = -1 ∧ ∀ k, k < n → p k = false) ∨ ∃ k, k < n ∧ idxN p n = (k : Int) ∧ p k = true ∧ ∀ j, j < k → p j = false := by
  unfold idxN
  cases h : (List.range n).find? p with
  | none => exact .inl ⟨rfl, fun k hk => by rw [List.find?_eq_none] at h; have := h k (List.mem_range.2 hk); simpa using this⟩
  | some k =>
    rw [List.find?_range_eq_some] at h
    exact .inr ⟨k, List.mem_range.1 h.2.1, rfl, h.1, fun j hj => by have := h.2.2 j hj; simpa using this⟩
theorem idxN_succ (p : Nat → Bool) (n : Nat) : idxN p (n + 1) = if 0 ≤ idxN p n then idxN p n else if p n = true then (n : Int) else -1 := by
  rcases idxN_cases p n with ⟨h, h0⟩ | ⟨k, hk, h, h1, h0⟩
  · rw [h, if_neg (by omega)]
    by_cases hp : p n = true
    · rw [if_pos hp]; exact idxN_hit (Nat.lt_succ_self n) h0 hp
    · rw [if_neg hp]
      refine idxN_none fun j hj => ?_
      rcases Nat.lt_or_ge j n with h2 | h2
      · exact h0 j h2
      · obtain rfl : j = n := by omega
        simpa using hp
  · rw [h, if_pos (by omega)]; exact idxN_hit (by omega) h0 h1
theorem idxN_congr {p q : Nat → Bool} {n : Nat} (h : ∀ k, k < n → p k = q k) : idxN p n = idxN q n := by
  induction n with
  | zero => rfl
  | succ n ih => rw [idxN_succ, idxN_succ, ih fun k hk => h k (by omega), h n (Nat.lt_succ_self n)]
theorem idxN_lt (p : Nat → Bool) (n : Nat) : -1 ≤ idxN p n ∧ idxN p n < (n : Int) ∨ n = 0 ∧ idxN p n = -1 := by
  rcases idxN_cases p n with ⟨h, _⟩ | ⟨k, hk, h, _⟩
  · rw [h]
    rcases Nat.eq_zero_or_pos n with h0 | h0
    · exact .inr ⟨h0, rfl⟩
    · exact .inl ⟨by omega, by omega⟩
  · rw [h]; exact .inl ⟨by omega, by omega⟩
def atN (l : List api_HistoryEvent) (n : Nat) (e : api_HistoryEvent) : Int := idxN (fun k => decide (ix l (k : Int) = e)) n
theorem atN_succ (l : List api_HistoryEvent) (n : Nat) (e : api_HistoryEvent) : atN l (n + 1) e = if 0 ≤ atN l n e then atN l n e else if ix l (n : Int) = e then (n : Int) else -1 := by
  unfold atN; rw [idxN_succ]; simp
theorem atN_keep {l : List api_HistoryEvent} {n : Nat} {e : api_HistoryEvent} (h : ix l (n : Int) ≠ e) : atN l (n + 1) e = atN l n e := by
  rw [atN_succ, if_neg h]
  rcases idxN_cases (fun k => decide (ix l (k : Int) = e)) n with ⟨q, _⟩ | ⟨k, _, q, _⟩
  · have q : atN l n e = -1 := q
    rw [q, if_neg (by omega)]
  · have q : atN l n e = (k : Int) := q
    rw [q, if_pos (by omega)]
theorem atN_here {l : List api_HistoryEvent} {n : Nat} (h : atN l n (ix l (n : Int)) < 0) : atN l (n + 1) (ix l (n : Int)) = (n : Int) := by rw [atN_succ, if_neg (by omega), if_pos rfl]
theorem atN_old {l : List api_HistoryEvent} {n : Nat} {e : api_HistoryEvent} (h : 0 ≤ atN l n e) : atN l (n + 1) e = atN l n e := by rw [atN_succ, if_pos h]
theorem atN_nn {l : List api_HistoryEvent} {n : Nat} {e : api_HistoryEvent} : 0 ≤ atN l (n + 1) e ↔ 0 ≤ atN l n e ∨ ix l (n : Int) = e := by
  rw [atN_succ]
  by_cases h : 0 ≤ atN l n e
  · rw [if_pos h]; exact ⟨fun q => .inl q, fun _ => h⟩
  · rw [if_neg h]
    by_cases q : ix l (n : Int) = e
    · rw [if_pos q]; exact ⟨fun _ => .inr q, fun _ => by omega⟩
    · rw [if_neg q]; exact ⟨fun r => by omega, fun r => (r.elim (fun r => absurd r h) fun r => absurd r q)⟩
theorem atN_lt (l : List api_HistoryEvent) (n : Nat) (e : api_HistoryEvent) : -1 ≤ atN l n e ∧ atN l n e < (n : Int) ∨ atN l n e = -1 := by
  rcases idxN_lt (fun k => decide (ix l (k : Int) = e)) n with h | h
  · exact .inl h
  · exact .inr h.2
theorem atN_neg {l : List api_HistoryEvent} {n : Nat} {e : api_HistoryEvent} (h : ¬ 0 ≤ atN l n e) : atN l n e = -1 := by
  rcases atN_lt l n e with q | q <;> omega
def cntI (l : List api_HistoryEvent) : Nat → Nat
  | 0 => 0
  | k + 1 => cntI l k + if (ix l (k : Int)).Kind = 0 then 1 else 0
theorem cntI_le (l : List api_HistoryEvent) : ∀ k, cntI l k ≤ k
  | 0 => Nat.le_refl _
  | k + 1 => by have := cntI_le l k; unfold cntI; split <;> omega
def evErr (l : List api_HistoryEvent) (n : Nat) (k : Nat) : Int :=
  if (ix l (k : Int)).Kind = 0 then (if (ix l (k : Int)).Write ≠ (cntI l k : Int) ∨ n ≤ cntI l k then 3 else 0)
  else if (ix l (k : Int)).Kind ≠ 1 then 3 else if (ix l (k : Int)).Write < 0 ∨ (cntI l k : Int) ≤ (ix l (k : Int)).Write then 7 else if 0 ≤ atN l k (ix l (k : Int)) then 8 else 0
theorem evErr_issue {l : List api_HistoryEvent} {n k : Nat} (h : evErr l n k = 0) (hk : (ix l (k : Int)).Kind = 0) : ix l (k : Int) = ⟨0, (cntI l k : Int)⟩ ∧ cntI l k < n := by
  unfold evErr at h
  rw [if_pos hk] at h
  by_cases q : (ix l (k : Int)).Write ≠ (cntI l k : Int) ∨ n ≤ cntI l k
  · rw [if_pos q] at h; cases h
  · refine ⟨?_, by omega⟩
    cases hx : ix l (k : Int) with
    | mk a b => rw [hx] at hk q; simp only at hk q; rw [hk, show b = (cntI l k : Int) by omega]
theorem evErr_ack {l : List api_HistoryEvent} {n k : Nat} (h : evErr l n k = 0) (hk : ¬ (ix l (k : Int)).Kind = 0) : ix l (k : Int) = ⟨1, (ix l (k : Int)).Write⟩ ∧ 0 ≤ (ix l (k : Int)).Write ∧ (ix l (k : Int)).Write < (cntI l k : Int) ∧ atN l k (ix l (k : Int)) = -1 := by
  unfold evErr at h
  rw [if_neg hk] at h
  by_cases q : (ix l (k : Int)).Kind ≠ 1
  · rw [if_pos q] at h; cases h
  rw [if_neg q] at h
  by_cases r : (ix l (k : Int)).Write < 0 ∨ (cntI l k : Int) ≤ (ix l (k : Int)).Write
  · rw [if_pos r] at h; cases h
  rw [if_neg r] at h
  by_cases s : 0 ≤ atN l k (ix l (k : Int))
  · rw [if_pos s] at h; cases h
  refine ⟨?_, by omega, by omega, atN_neg s⟩
  cases hx : ix l (k : Int) with
  | mk a b => rw [hx] at q; simp only at q; rw [Classical.not_not.1 q]
theorem cnt_issue {l : List api_HistoryEvent} {k : Nat} (h : (ix l (k : Int)).Kind = 0) : cntI l (k + 1) = cntI l k + 1 := by rw [cntI, if_pos h]
theorem cnt_ack {l : List api_HistoryEvent} {k : Nat} (h : ¬ (ix l (k : Int)).Kind = 0) : cntI l (k + 1) = cntI l k := by rw [cntI, if_neg h]; rfl
theorem at_issue {l : List api_HistoryEvent} {n : Nat} : ∀ {k : Nat}, (∀ j, j < k → evErr l n j = 0) → ∀ w : Int, 0 ≤ atN l k ⟨0, w⟩ ↔ 0 ≤ w ∧ w < (cntI l k : Int)
  | 0, _, w => ⟨fun h => absurd (show (0 : Int) ≤ -1 from h) (by decide), fun h => by unfold cntI at h; omega⟩
  | k + 1, hz, w => by
    rw [atN_nn, at_issue (fun j hj => hz j (by omega)) w]
    by_cases hk : (ix l (k : Int)).Kind = 0
    · have := (evErr_issue (hz k (Nat.lt_succ_self k)) hk).1
      rw [this, cnt_issue hk, api_HistoryEvent.mk.injEq]; omega
    · rw [cnt_ack hk]
      refine ⟨fun h => h.elim id fun q => absurd (by rw [q]) hk, .inl⟩
theorem at_ack {l : List api_HistoryEvent} {n : Nat} : ∀ {k : Nat}, (∀ j, j < k → evErr l n j = 0) → ∀ w : Int, 0 ≤ atN l k ⟨1, w⟩ → 0 ≤ w ∧ w < (cntI l k : Int)
  | 0, _, w => fun h => absurd (show (0 : Int) ≤ -1 from h) (by decide)
  | k + 1, hz, w => by
    rw [atN_nn]
    have ih := at_ack (k := k) (fun j hj => hz j (by omega)) w
    by_cases hk : (ix l (k : Int)).Kind = 0
    · rw [cnt_issue hk]
      rintro (h | h)
      · have := ih h; omega
      · rw [h] at hk; cases hk
    · rw [cnt_ack hk]
      rintro (h | h)
      · exact ih h
      · have := evErr_ack (hz k (Nat.lt_succ_self k)) hk
        rw [h] at this; exact ⟨this.2.1, this.2.2.1⟩
theorem cnt_le {l : List api_HistoryEvent} {n : Nat} : ∀ {k : Nat}, (∀ j, j < k → evErr l n j = 0) → cntI l k ≤ n
  | 0, _ => Nat.zero_le _
  | k + 1, hz => by
    by_cases hk : (ix l (k : Int)).Kind = 0
    · have := (evErr_issue (hz k (Nat.lt_succ_self k)) hk).2
      rw [cnt_issue hk]; omega
    · rw [cnt_ack hk]; exact cnt_le fun j hj => hz j (by omega)
def issL (l : List api_HistoryEvent) (k : Nat) : List Int := (List.range (cntI l k)).map fun w : Nat => atN l k ⟨0, (w : Int)⟩
def ackL (l : List api_HistoryEvent) (k : Nat) : List Int := (List.range (cntI l k)).map fun w : Nat => atN l k ⟨1, (w : Int)⟩
theorem issL_len (l : List api_HistoryEvent) (k : Nat) : (issL l k).length = cntI l k := by unfold issL; rw [List.length_map, List.length_range]
theorem ackL_len (l : List api_HistoryEvent) (k : Nat) : (ackL l k).length = cntI l k := by unfold ackL; rw [List.length_map, List.length_range]
theorem ix_ackL {l : List api_HistoryEvent} {k w : Nat} (h : w < cntI l k) : ix (ackL l k) (w : Int) = atN l k ⟨1, (w : Int)⟩ := by
  rw [ix_get (by rw [ackL_len]; exact h)]; unfold ackL; rw [List.getElem_map, List.getElem_range]
theorem issL_issue {l : List api_HistoryEvent} {n k : Nat} (hz : ∀ j, j < k + 1 → evErr l n j = 0) (hk : (ix l (k : Int)).Kind = 0) : issL l (k + 1) = issL l k ++ [(k : Int)] := by
  have h0 : ∀ j, j < k → evErr l n j = 0 := fun j hj => hz j (by omega)
  have hx := (evErr_issue (hz k (Nat.lt_succ_self k)) hk).1
  unfold issL
  rw [cnt_issue hk, List.range_succ, List.map_append]
  congr 1
  · refine List.map_congr_left fun w hw => atN_old ((at_issue h0 _).2 ⟨by omega, by have := List.mem_range.1 hw; omega⟩)
  · simp only [List.map_cons, List.map_nil]
    rw [← hx, atN_here (by rw [hx]; have := mt (at_issue h0 (cntI l k : Int)).1 (by omega); omega)]
theorem ackL_issue {l : List api_HistoryEvent} {n k : Nat} (hz : ∀ j, j < k + 1 → evErr l n j = 0) (hk : (ix l (k : Int)).Kind = 0) : ackL l (k + 1) = ackL l k ++ [-1] := by
  have h0 : ∀ j, j < k → evErr l n j = 0 := fun j hj => hz j (by omega)
  have hx := (evErr_issue (hz k (Nat.lt_succ_self k)) hk).1
  have hne : ∀ w : Int, ix l (k : Int) ≠ ⟨1, w⟩ := fun w q => by rw [q] at hk; cases hk
  unfold ackL
  rw [cnt_issue hk, List.range_succ, List.map_append]
  congr 1
  · exact List.map_congr_left fun w _ => atN_keep (hne _)
  · simp only [List.map_cons, List.map_nil]
    rw [atN_keep (hne _), atN_neg (fun q => by have := at_ack h0 _ q; omega)]
theorem issL_ack {l : List api_HistoryEvent} {k : Nat} (hk : ¬ (ix l (k : Int)).Kind = 0) : issL l (k + 1) = issL l k := by
  unfold issL
  rw [cnt_ack hk]
  exact List.map_congr_left fun w _ => atN_keep fun q => hk (by rw [q])
theorem ackL_ack {l : List api_HistoryEvent} {n k : Nat} (hz : ∀ j, j < k + 1 → evErr l n j = 0) (hk : ¬ (ix l (k : Int)).Kind = 0) : ackL l (k + 1) = put (ackL l k) (ix l (k : Int)).Write (k : Int) := by
  obtain ⟨hx, h1, h2, h3⟩ := evErr_ack (hz k (Nat.lt_succ_self k)) hk
  obtain ⟨w, hw⟩ := Int.eq_ofNat_of_zero_le h1
  rw [hw] at hx h2 ⊢
  refine ext_ix (by rw [put_len, ackL_len, ackL_len, cnt_ack hk]) fun j hj => ?_
  rw [ackL_len, cnt_ack hk] at hj
  rw [ix_put _ _ (by rw [ackL_len]; omega), ix_ackL (by rw [cnt_ack hk]; exact hj), ix_ackL hj]
  by_cases hjw : j = w
  · rw [if_pos hjw, hjw, ← hx, atN_here (by rw [h3]; omega)]
  · rw [if_neg hjw, atN_keep (by rw [hx]; intro q; rw [api_HistoryEvent.mk.injEq] at q; omega)]
def evE (h : api_History) : Int := if firstN (evErr h.Events h.Writes.length) h.Events.length ≠ 0 then firstN (evErr h.Events h.Writes.length) h.Events.length else if cntI h.Events h.Events.length < h.Writes.length then 3 else 0
def histE (h : api_History) : Int := if sizesE h.Sizes ≠ 0 then sizesE h.Sizes else if 4096 < (h.Writes.length : Int) then 6 else if firstN (fun k => fitW h.Sizes (ix h.Writes (k : Int))) h.Writes.length ≠ 0 then firstN (fun k => fitW h.Sizes (ix h.Writes (k : Int))) h.Writes.length else evE h
def tlH (h : api_History) : history_timeline := ⟨issL h.Events h.Events.length, ackL h.Events h.Events.length⟩
def noH : history_checked := ⟨⟨[], [], []⟩, ⟨[], []⟩⟩
structure SmallH (h : api_History) : Prop where
  ev : h.Events.length ≤ 100000
  wr : h.Writes.length ≤ 100000
  data : ∀ k : Nat, k < h.Writes.length → (ix h.Writes (k : Int)).Data.length ≤ 100000
theorem history_check_ok {h : api_History} {Φ : history_checked × Int → Prop} (hh : SmallH h) (k0 : histE h = 0 → Φ (⟨h, tlH h⟩, 0)) (k1 : histE h ≠ 0 → Φ (noH, histE h)) : history_check_W h Φ := by
  unfold histE at k0 k1
  refine image_New_ok (fun hs => ⟨fun q => absurd rfl q, fun _ => ?_⟩) fun hs => ⟨fun _ => ?_, fun q => absurd hs q⟩
  · rw [if_neg (by omega)] at k0 k1
    refine ⟨fun q => ?_, fun q => ?_⟩
    · rw [if_pos q] at k1; exact k1 (by omega)
    rw [if_neg q] at k0 k1
    have hi : imgE (zeroI h.Sizes) = 0 := by unfold imgE; rw [szs_zeroI hs, hs]
    refine LoopW.errI (Ψ := fun e => (e = 0 → LoopW (history_check_L2 h Φ) (0, [], [])) ∧ (e ≠ 0 → Φ (noH, e))) h.Writes.length (fun k => (k : Int)) (fun k => fitW h.Sizes (ix h.Writes (k : Int))) rfl ⟨fun hf => ?_, fun hf => ?_⟩
      (fun k rec hk _ h1 h2 => ⟨fun _ => ⟨iX (by omega) (by omega), image_Fits_ok (by have := hh.data k hk; omega) hi ?_⟩, fun _ => by omega⟩) fun rec _ h0 => ⟨fun _ => by omega, fun _ => h0.1 rfl⟩
    · rw [if_neg (by omega)] at k0 k1
      unfold evE at k0 k1
      refine LoopW.errI (Ψ := fun e => (e = 0 → (cntI h.Events h.Events.length < h.Writes.length → Φ (noH, 3)) ∧ (¬ cntI h.Events h.Events.length < h.Writes.length → Φ (⟨h, tlH h⟩, 0))) ∧ (e ≠ 0 → Φ (noH, e))) h.Events.length (fun k => ((k : Int), issL h.Events k, ackL h.Events k))
        (evErr h.Events h.Writes.length) rfl ⟨fun hf => ⟨fun hc => ?_, fun hc => ?_⟩, fun hf => ?_⟩ (fun k rec hk h0 h1 h2 => ⟨fun _ => ⟨iX (by omega) (by omega), ?_⟩, fun _ => by omega⟩) fun rec _ h0 => ⟨fun _ => by omega, fun _ => ⟨fun q => ?_, fun q => ?_⟩⟩
      · rw [if_neg (by omega), if_pos hc] at k1; exact k1 (by omega)
      · rw [if_neg (by omega), if_neg hc] at k0; exact k0 rfl
      · rw [if_pos hf] at k1; exact k1 hf
      · have hev := hh.ev
        have hcl := cntI_le h.Events k
        have fail : ∀ e : Int, e ≠ 0 → evErr h.Events h.Writes.length k = e → history_check_J3 (k : Int) rec Φ (e, issL h.Events k, ackL h.Events k) := fun e he hq => ⟨fun _ => (by have := (h1 (by rw [hq]; exact he)).2 (by rw [hq]; exact he); rw [hq] at this; exact this), fun q => absurd he q⟩
        have good : evErr h.Events h.Writes.length k = 0 → history_check_J3 (k : Int) rec Φ (0, issL h.Events (k + 1), ackL h.Events (k + 1)) := fun hq => ⟨fun q => absurd rfl q, fun _ => ⟨iI (by omega) (by omega), h2 hq _ rfl⟩⟩
        have hz : evErr h.Events h.Writes.length k = 0 → ∀ j, j < k + 1 → evErr h.Events h.Writes.length j = 0 := fun hq j hj => by
          rcases Nat.lt_or_ge j k with h3 | h3
          · exact h0 j h3
          · obtain rfl : j = k := by omega
            exact hq
        show (_ → _) ∧ _
        refine ⟨fun hk0 => ⟨fun q => ?_, fun q => ⟨fun r => ?_, fun r => ?_⟩⟩, fun hk0 => ⟨fun hk1 => ⟨fun q => ?_, fun q => ⟨fun r => ?_, fun r => ?_⟩⟩, fun hk1 => ?_⟩⟩
        · rw [issL_len] at q
          exact fail 3 (by omega) (by unfold evErr; rw [if_pos hk0, if_pos (.inl q)])
        · rw [issL_len] at q
          exact fail 3 (by omega) (by unfold evErr; rw [if_pos hk0, if_pos (by omega)])
        · rw [issL_len] at q
          have e0 : evErr h.Events h.Writes.length k = 0 := by unfold evErr; rw [if_pos hk0, if_neg (by omega)]
          refine ⟨iL (by rw [len_snoc, issL_len]; omega) (by omega), iL (by rw [len_snoc, ackL_len]; omega) (by omega), ?_⟩
          have := good e0
          rw [issL_issue (hz e0) hk0, ackL_issue (hz e0) hk0] at this; exact this
        · exact fail 7 (by omega) (by unfold evErr; rw [if_neg hk0, if_neg (by omega), if_pos (.inl q)])
        · rw [issL_len] at r
          exact fail 7 (by omega) (by unfold evErr; rw [if_neg hk0, if_neg (by omega), if_pos (.inr r)])
        · rw [issL_len] at r
          obtain ⟨w, hw⟩ := Int.eq_ofNat_of_zero_le (show 0 ≤ (ix h.Events (k : Int)).Write by omega)
          have hwl : w < cntI h.Events k := by omega
          have ha : ix (ackL h.Events k) (ix h.Events (k : Int)).Write = atN h.Events k (ix h.Events (k : Int)) := by
            rw [hw, ix_ackL hwl]
            congr 1
            cases hx : ix h.Events (k : Int) with
            | mk a b => rw [hx] at hw hk1; simp only at hw hk1; rw [hw, hk1]
          have hX : inX (ix h.Events (k : Int)).Write (ackL h.Events k).length := iX (by omega) (by rw [ackL_len]; omega)
          refine ⟨hX, fun s => ?_, fun s => ⟨hX, ?_⟩⟩
          · rw [ha] at s
            exact fail 8 (by omega) (by unfold evErr; rw [if_neg hk0, if_neg (by omega), if_neg (by omega), if_pos s])
          · rw [ha] at s
            have e0 : evErr h.Events h.Writes.length k = 0 := by unfold evErr; rw [if_neg hk0, if_neg (by omega), if_neg (by omega), if_neg s]
            have := good e0
            rw [issL_ack hk0, ackL_ack (hz e0) hk0] at this; exact this
        · exact fail 3 (by omega) (by unfold evErr; rw [if_neg hk0, if_pos hk1])
      · rw [issL_len] at q; exact (h0.1 rfl).1 (by omega)
      · rw [issL_len] at q; exact (h0.1 rfl).2 (by omega)
    · rw [if_pos hf] at k1; exact k1 hf
    · rw [szs_zeroI hs]
      exact ⟨fun q => (h1 q).2 q, fun q => ⟨iI (by have := hh.wr; omega) (by have := hh.wr; omega), h2 (Classical.not_not.1 q) _ rfl⟩⟩
  · rw [if_pos hs] at k1; exact k1 hs
theorem LoopW.lst {α S : Type} {step : (List α × S) → ((List α × S) → Prop) → Prop} (L : List α) (acc : Nat → S) {s0 : S} (hs : s0 = acc 0)
    (h : ∀ (k : Nat) (hk : k < L.length) rec, (∀ s, s = acc (k + 1) → rec (L.drop (k + 1), s)) → step (L[k] :: L.drop (k + 1), acc k) rec) (he : ∀ rec, step ([], acc L.length) rec) : LoopW step (L, s0) :=
  LoopW.upT L.length (fun k => (L.drop k, acc k)) (by rw [hs]; rfl) (fun k rec hk hr => by rw [List.drop_eq_getElem_cons hk]; exact h k hk rec fun s e => hr _ (by rw [e])) fun rec => by rw [List.drop_length]; exact he rec
theorem sub0 {α : Type} (xs : List α) (k : Nat) : sub xs 0 (k : Int) = xs.take k := by unfold sub; simp
theorem ix_take {α : Type} [Dt α] {xs : List α} {n k : Nat} (h : k < n) (hn : n ≤ xs.length) : ix (xs.take n) (k : Int) = ix xs (k : Int) := by
  rw [ix_get (by rw [lenT hn]; exact h), ix_get (by omega), List.getElem_take]
theorem ref15_At_ok {l : List api_HistoryEvent} {e : api_HistoryEvent} {Φ : Int → Prop} (hl : l.length ≤ 1000000) (hΦ : Φ (atN l l.length e)) : ref15_At_W l e Φ :=
  LoopW.idxL l.length (fun k => decide (ix l (k : Int) = e)) hΦ (fun k rec hk h1 h2 => ⟨fun _ => ⟨iX (by omega) (by omega), fun q => h1 (decide_eq_true q), fun q => ⟨iI (by omega) (by omega), h2 (decide_eq_false q)⟩⟩, fun _ => by omega⟩) fun rec h0 => ⟨fun _ => by omega, fun _ => h0⟩
theorem atN_take (l : List api_HistoryEvent) (e : api_HistoryEvent) {n : Nat} (hn : n ≤ l.length) : atN (l.take n) n e = atN l n e := idxN_congr fun k hk => by rw [ix_take hk hn]
theorem ref15_At_sub {l : List api_HistoryEvent} {n : Nat} {e : api_HistoryEvent} {Φ : Int → Prop} (hn : n ≤ l.length) (hl : l.length ≤ 1000000) (hΦ : Φ (atN l n e)) : ref15_At_W (sub l 0 (n : Int)) e Φ := by
  rw [sub0]
  refine ref15_At_ok (by rw [lenT hn]; omega) ?_
  rw [lenT hn, atN_take l e hn]; exact hΦ
theorem ref15_Check_ok {h : api_History} {Φ : Int → Prop} (hh : SmallH h) (hΦ : Φ (histE h)) : ref15_Check_W h Φ := by
  unfold histE at hΦ
  refine ref07_Sizes_ok ⟨fun q => by rw [if_pos q] at hΦ; exact hΦ, fun q => ?_⟩
  rw [if_neg q] at hΦ
  have hs : sizesE h.Sizes = 0 := Classical.not_not.1 q
  refine ⟨fun r => by rw [if_pos r] at hΦ; exact hΦ, fun r => ?_⟩
  rw [if_neg r] at hΦ
  refine LoopW.errI (Ψ := fun e => (e = 0 → LoopW (ref15_Check_L2 h Φ) (0, 0)) ∧ (e ≠ 0 → Φ e)) h.Writes.length (fun k => (k : Int)) (fun k => fitW h.Sizes (ix h.Writes (k : Int))) rfl ⟨fun hf => ?_, fun hf => ?_⟩
      (fun k rec hk _ h1 h2 => ⟨fun _ => ⟨iX (by omega) (by omega), (fitW h.Sizes (ix h.Writes (k : Int)), ()), ref07_FitsSizes_ok (by have := hh.data k hk; omega) (fun j hj => by have := sizesE_ix hs hj; omega) rfl, fun q => (h1 q).2 q, fun q => ⟨iI (by have := hh.wr; omega) (by have := hh.wr; omega), h2 (Classical.not_not.1 q) _ rfl⟩⟩, fun _ => by omega⟩) fun rec _ h0 => ⟨fun _ => by omega, fun _ => h0.1 rfl⟩
  · rw [if_neg (by omega)] at hΦ
    unfold evE at hΦ
    refine LoopW.errI (Ψ := fun e => (e = 0 → (cntI h.Events h.Events.length < h.Writes.length → Φ 3) ∧ (¬ cntI h.Events h.Events.length < h.Writes.length → Φ 0)) ∧ (e ≠ 0 → Φ e)) h.Events.length (fun k => ((cntI h.Events k : Int), (k : Int)))
      (evErr h.Events h.Writes.length) rfl ⟨fun hf => ⟨fun hc => ?_, fun hc => ?_⟩, fun hf => ?_⟩ (fun k rec hk h0 h1 h2 => ⟨fun _ => ⟨iX (by omega) (by omega), ?_⟩, fun _ => by omega⟩) fun rec _ h0 => ⟨fun _ => by omega, fun _ => ⟨fun q => (h0.1 rfl).1 (by omega), fun q => (h0.1 rfl).2 (by omega)⟩⟩
    · rw [if_neg (by omega), if_pos hc] at hΦ; exact hΦ
    · rw [if_neg (by omega), if_neg hc] at hΦ; exact hΦ
    · rw [if_pos hf] at hΦ; exact hΦ
    · have hev := hh.ev
      have hcl := cntI_le h.Events k
      have fail : ∀ e : Int, e ≠ 0 → evErr h.Events h.Writes.length k = e → Φ e := fun e he hq => by
        have := (h1 (by rw [hq]; exact he)).2 (by rw [hq]; exact he)
        rw [hq] at this; exact this
      have hX : inS 0 (k : Int) h.Events.length := iS (by omega) (by omega) (by omega)
      refine ⟨fun hk0 => ⟨fun q => ?_, fun q => ⟨fun r => ?_, fun r => ?_⟩⟩, fun hk0 => ⟨fun hk1 => ?_, fun hk1 => ⟨hX, (⟨0, (ix h.Events (k : Int)).Write⟩, ()), rfl, (atN h.Events k ⟨0, (ix h.Events (k : Int)).Write⟩, ()), ref15_At_sub (by omega) (by omega) rfl, fun q => ?_, fun q => ⟨hX, (atN h.Events k (ix h.Events (k : Int)), ()), ref15_At_sub (by omega) (by omega) rfl, fun s => ?_, fun s => ?_⟩⟩⟩⟩
      · exact fail 3 (by omega) (by unfold evErr; rw [if_pos hk0, if_pos (.inl q)])
      · exact fail 3 (by omega) (by unfold evErr; rw [if_pos hk0, if_pos (by omega)])
      · have e0 : evErr h.Events h.Writes.length k = 0 := by unfold evErr; rw [if_pos hk0, if_neg (by omega)]
        exact ⟨iI (by omega) (by omega), iI (by omega) (by omega), h2 e0 _ (by rw [cnt_issue hk0]; rfl)⟩
      · exact fail 3 (by omega) (by unfold evErr; rw [if_neg hk0, if_pos hk1])
      · have q : atN h.Events k ⟨0, (ix h.Events (k : Int)).Write⟩ < 0 := q
        have := mt (at_issue h0 (ix h.Events (k : Int)).Write).2 (by omega)
        exact fail 7 (by omega) (by unfold evErr; rw [if_neg hk0, if_neg (by omega), if_pos (by omega)])
      · have q : ¬ atN h.Events k ⟨0, (ix h.Events (k : Int)).Write⟩ < 0 := q
        have := (at_issue h0 (ix h.Events (k : Int)).Write).1 (by omega)
        exact fail 8 (by omega) (by unfold evErr; rw [if_neg hk0, if_neg (by omega), if_neg (by omega), if_pos s])
      · have q : ¬ atN h.Events k ⟨0, (ix h.Events (k : Int)).Write⟩ < 0 := q
        have := (at_issue h0 (ix h.Events (k : Int)).Write).1 (by omega)
        have e0 : evErr h.Events h.Writes.length k = 0 := by unfold evErr; rw [if_neg hk0, if_neg (by omega), if_neg (by omega), if_neg s]
        exact ⟨iI (by omega) (by omega), h2 e0 _ (by rw [cnt_ack hk0]; rfl)⟩
  · rw [if_pos hf] at hΦ; exact hΦ
theorem histE_zero {h : api_History} (hz : histE h = 0) : sizesE h.Sizes = 0 ∧ h.Writes.length ≤ 4096 ∧ (∀ w ∈ h.Writes, fitW h.Sizes w = 0) ∧ evE h = 0 := by
  unfold histE at hz
  by_cases q : sizesE h.Sizes ≠ 0
  · rw [if_pos q] at hz; exact absurd hz q
  rw [if_neg q] at hz
  by_cases r : 4096 < (h.Writes.length : Int)
  · rw [if_pos r] at hz; cases hz
  rw [if_neg r] at hz
  by_cases s : firstN (fun k => fitW h.Sizes (ix h.Writes (k : Int))) h.Writes.length ≠ 0
  · rw [if_pos s] at hz; exact absurd hz s
  rw [if_neg s] at hz
  refine ⟨Classical.not_not.1 q, by omega, fun w hw => ?_, hz⟩
  obtain ⟨k, hk, rfl⟩ := List.getElem_of_mem hw
  have := firstN_zero.1 (Classical.not_not.1 s) k hk
  rw [ix_get hk] at this; exact this
def isSetP (l : List Int) (n : Int) (k : Nat) : Bool := decide (0 ≤ ix l (k : Int) ∧ ix l (k : Int) < n ∧ (0 < k → ix l ((k : Int) - 1) < ix l (k : Int)))
def isSetB (l : List Int) (n : Int) : Bool := allN (isSetP l n) l.length
theorem ref15_Set_ok {l : List Int} {n : Int} {Φ : Bool → Prop} (hl : l.length ≤ 1000000) (hΦ : Φ (isSetB l n)) : ref15_Set_W l n Φ := by
  refine LoopW.allL _ _ hΦ (fun k rec hk _ h1 h2 => ⟨fun _ => ⟨iX (by omega) (by omega), fun q => h1 (decide_eq_false (by omega)), fun q => ⟨iX (by omega) (by omega), fun r => h1 (decide_eq_false (by omega)), fun r => ⟨fun s => ⟨iX (by omega) (by omega), iI (by omega) (by omega), iX (by omega) (by omega), fun t => h1 (decide_eq_false (by omega)), fun t => ⟨iI (by omega) (by omega), h2 (decide_eq_true (by omega))⟩⟩, fun s => ⟨iI (by omega) (by omega), h2 (decide_eq_true (by omega))⟩⟩⟩⟩, fun _ => by omega⟩) fun rec h0 _ => ⟨fun _ => by omega, fun _ => h0⟩
theorem isSetB_at {l : List Int} {n : Int} (h : isSetB l n = true) {k : Nat} (hk : k < l.length) : 0 ≤ ix l (k : Int) ∧ ix l (k : Int) < n ∧ (0 < k → ix l ((k : Int) - 1) < ix l (k : Int)) := of_decide_eq_true (allN_true.1 h k hk)
theorem isSetB_lt {l : List Int} {n : Int} (h : isSetB l n = true) {i j : Nat} (hij : i < j) (hj : j < l.length) : ix l (i : Int) < ix l (j : Int) := by
  induction j with
  | zero => omega
  | succ j ih =>
    have := (isSetB_at h hj).2.2 (by omega)
    rw [show ((j + 1 : Nat) : Int) - 1 = (j : Int) by omega] at this
    rcases Nat.lt_or_ge i j with q | q
    · have := ih q (by omega); omega
    · obtain rfl : i = j := by omega
      exact this
theorem isSetB_len {l : List Int} {n : Int} (h : isSetB l n = true) : ∀ {k : Nat}, k < l.length → (k : Int) ≤ ix l (k : Int)
  | 0, hk => (isSetB_at h hk).1
  | k + 1, hk => by have h1 := isSetB_len h (k := k) (by omega); have h2 : ix l (k : Int) < ix l ((k + 1 : Nat) : Int) := isSetB_lt h (Nat.lt_succ_self k) hk; omega
theorem isSetB_le {l : List Int} {n : Int} (h : isSetB l n = true) (hn : 0 ≤ n) : (l.length : Int) ≤ n := by
  rcases Nat.eq_zero_or_pos l.length with q | q
  · omega
  · have := isSetB_len h (k := l.length - 1) (by omega); have := (isSetB_at h (k := l.length - 1) (by omega)).2.1; omega
theorem isSetB_mem {l : List Int} {n : Int} (h : isSetB l n = true) {x : Int} (hx : x ∈ l) : 0 ≤ x ∧ x < n := by
  obtain ⟨k, hk, rfl⟩ := List.getElem_of_mem hx
  have := isSetB_at h hk
  rw [ix_get hk] at this; exact ⟨this.1, this.2.1⟩
theorem any_eq_mem (l : List Int) (x : Int) : l.any (fun y => decide (y = x)) = decide (x ∈ l) := by
  rw [Bool.eq_iff_iff, List.any_eq_true, decide_eq_true_iff]
  exact ⟨fun ⟨y, hy, e⟩ => (of_decide_eq_true e) ▸ hy, fun h => ⟨x, h, decide_eq_true rfl⟩⟩
theorem ref15_Has_ok {l : List Int} {x : Int} {Φ : Bool → Prop} (hl : l.length ≤ 1000000) (hΦ : Φ (decide (x ∈ l))) : ref15_Has_W l x Φ := by
  rw [← any_eq_mem] at hΦ
  exact LoopW.anyL l (fun y => decide (y = x)) hΦ (fun k rec hk h1 h2 => ⟨fun _ => ⟨iX (by omega) (by omega), fun q => h1 (decide_eq_true q), fun q => ⟨iI (by omega) (by omega), h2 (decide_eq_false q)⟩⟩, fun _ => by omega⟩) fun rec h0 => ⟨fun _ => by omega, fun _ => h0⟩
theorem mem_ix {α : Type} [Dt α] {xs : List α} {i : Int} (h0 : 0 ≤ i) (h1 : i < (xs.length : Int)) : ix xs i ∈ xs := ix_mem ⟨h0, h1⟩
def fewH (h : api_History) : Bool := decide (h.Sizes.length ≤ 9 ∧ h.Writes.length ≤ 40 ∧ h.Events.length ≤ 90) && (h.Sizes.all (fun n => decide (n ≤ 24)) && h.Writes.all fun w => decide (w.Data.length ≤ 30))
theorem ref15_Few_ok {h : api_History} {Φ : Bool → Prop} (hΦ : Φ (fewH h)) : ref15_Few_W h Φ := by
  unfold fewH at hΦ
  refine ⟨fun q => by rw [decide_eq_false (by omega)] at hΦ; exact hΦ, fun q => ⟨fun r => by rw [decide_eq_false (by omega)] at hΦ; exact hΦ, fun r => ⟨fun s => by rw [decide_eq_false (by omega)] at hΦ; exact hΦ, fun s => ?_⟩⟩⟩
  rw [decide_eq_true (by omega), Bool.true_and] at hΦ
  refine LoopW.findI h.Sizes.length (fun k => !decide (ix h.Sizes (k : Int) ≤ 24)) (fun k rec hk _ hr => ⟨fun _ => ⟨iX (by omega) (by omega), fun t => ?_, fun t => ⟨iI (by omega) (by omega), hr (by simp; omega)⟩⟩, fun _ => by omega⟩) fun rec hn => ⟨fun _ => by omega, fun _ => ?_⟩
  · rw [show h.Sizes.all (fun n => decide (n ≤ 24)) = false from by
      rw [List.all_eq_not_any_not, any_true_ix hk (by simp; omega)]; rfl] at hΦ
    exact hΦ
  · rw [show h.Sizes.all (fun n => decide (n ≤ 24)) = true from by
      rw [List.all_eq_not_any_not, any_false_ix fun k hk => by simpa using hn k hk]; rfl, Bool.true_and] at hΦ
    exact LoopW.allE h.Writes (fun w => decide (w.Data.length ≤ 30)) hΦ (fun k rec hk h1 h2 => ⟨fun _ => ⟨iX (by omega) (by omega), fun t => h1 (decide_eq_false (by omega)), fun t => ⟨iI (by omega) (by omega), h2 (decide_eq_true (by omega))⟩⟩, fun _ => by omega⟩) fun rec h0 => ⟨fun _ => by omega, fun _ => h0⟩
theorem fewH_small {h : api_History} (hf : fewH h = true) : SmallH h ∧ h.Writes.length ≤ 40 := by
  unfold fewH at hf
  rw [Bool.and_eq_true, Bool.and_eq_true, decide_eq_true_iff] at hf
  refine ⟨⟨by omega, by omega, fun k hk => ?_⟩, by omega⟩
  have := List.all_eq_true.1 hf.2.2 (ix h.Writes (k : Int)) (mem_ix (by omega) (by omega))
  have := of_decide_eq_true this
  omega
def wr (h : api_History) (i : Nat) : api_Write := ix h.Writes (i : Int)
theorem hist_wr {h : api_History} (hz : histE h = 0) : h.Writes.length ≤ 4096 := by
  unfold histE at hz
  split at hz
  · rename_i q; exact absurd hz q
  · split at hz
    · omega
    · omega
theorem history_Check_ok {h : api_History} {Φ : Int → Prop} (hh : SmallH h) (hΦ : Φ (histE h)) : history_Check_W h Φ :=
  history_check_ok hh (fun q => by rw [q] at hΦ; exact hΦ) fun _ => hΦ
theorem paste_rep {a z : Int} {c m : Nat} : paste (List.replicate c a ++ List.replicate m z) (c : Int) (List.replicate c a) = List.replicate (c + min c m) a ++ List.replicate (m - min c m) z := by
  unfold paste
  rw [Int.toNat_natCast, List.length_append, List.length_replicate, List.length_replicate, Nat.add_sub_cancel_left, List.take_left' List.length_replicate, List.take_replicate, ← List.append_assoc, List.replicate_append_replicate, List.drop_append, List.length_replicate, List.drop_replicate, List.drop_replicate,
    show c - (c + min c m) = 0 by omega, show m - (c + min c m - c) = m - min c m by omega, show min m c = min c m by omega]
  rfl
theorem repeat_loop {a : Int} {n c : Nat} {Φ : List Int → Prop} (hn : n ≤ 100000) (hc : c ≤ n) (h0 : 0 < c ∨ n = 0) (hΦ : Φ (List.replicate n a)) : LoopW (slices_Repeat_int_int_L2 Φ) ((c : Int), List.replicate c a ++ List.replicate (n - c) 0) := by
  refine LoopW.of_inv (fun s => ∃ c : Nat, s = ((c : Int), List.replicate c a ++ List.replicate (n - c) 0) ∧ c ≤ n ∧ (0 < c ∨ n = 0)) (fun s => (n : Int).toNat - s.1.toNat) ?_ ⟨c, rfl, hc, h0⟩
  rintro _ rec ⟨c, rfl, hc, h0⟩ hrec
  have hl : (List.replicate c a ++ List.replicate (n - c) (0 : Int)).length = n := by rw [List.length_append, List.length_replicate, List.length_replicate]; omega
  have hs : sub (List.replicate c a ++ List.replicate (n - c) (0 : Int)) 0 (c : Int) = List.replicate c a := by
    rw [sub0, List.take_left' List.length_replicate]
  refine ⟨fun q => ?_, fun q => ?_⟩
  · rw [hs, hl, paste_rep, List.length_replicate, Int.toNat_natCast]
    rw [hl] at q
    refine ⟨⟨by omega, by omega, by omega⟩, ⟨by omega, by omega, by omega⟩, iI (by omega) (by omega), hrec _ ⟨c + min c (n - c), ?_, by omega, .inl (by omega)⟩ ?_⟩
    · rw [show n - (c + min c (n - c)) = n - c - min c (n - c) by omega]; rfl
    · show (n : Int).toNat - ((c : Int) + ((min c (n - c) : Nat) : Int)).toNat < (n : Int).toNat - ((c : Int)).toNat
      omega
  · rw [hl] at q
    obtain rfl : c = n := by omega
    rw [Nat.sub_self, List.replicate_zero, List.append_nil]
    exact hΦ
theorem shr32 {n : Nat} (hn : n ≤ 100000) : (BitVec.ofNat 64 n) >>> 32 = 0#64 := by
  apply BitVec.eq_of_toNat_eq
  rw [BitVec.toNat_ushiftRight, BitVec.toNat_ofNat, Nat.mod_eq_of_lt (by omega), Nat.shiftRight_eq_div_pow]
  show n / 4294967296 = 0
  omega
theorem and32 {n : Nat} (hn : n ≤ 100000) : (BitVec.ofNat 64 n) &&& 4294967295#64 = BitVec.ofNat 64 n := by
  apply BitVec.eq_of_toNat_eq
  rw [BitVec.toNat_and, BitVec.toNat_ofNat, Nat.mod_eq_of_lt (by omega)]
  show n &&& (2 ^ 32 - 1) = n
  rw [Nat.and_two_pow_sub_one_eq_mod]
  omega
theorem mul_one_ok {n : Nat} {Φ : BitVec 64 × BitVec 64 → Prop} (hn : n ≤ 100000) (hΦ : Φ (0#64, BitVec.ofNat 64 n)) : math_bits_Mul_W (BitVec.ofInt 64 ((1 : Nat) : Int)) (BitVec.ofInt 64 (n : Int)) Φ := by
  have e1 : BitVec.ofInt 64 ((1 : Nat) : Int) = 1#64 := rfl
  have e2 : BitVec.ofInt 64 (n : Int) = BitVec.ofNat 64 n := BitVec.ofInt_natCast ..
  have e3 : ((32#64).toNat : Int).toNat = 32 := rfl
  have e4 : (1#64) >>> 32 = 0#64 := rfl
  have e5 : (1#64) &&& 4294967295#64 = 1#64 := rfl
  show Φ _
  rw [e1, e2]
  simp only [e3, e4, e5, shr32 hn, and32 hn, BitVec.zero_mul, BitVec.mul_zero, BitVec.one_mul, BitVec.zero_add, BitVec.add_zero, BitVec.zero_and]
  exact hΦ
theorem slices_Repeat_int_ok {a : Int} {n : Nat} {Φ : List Int → Prop} (hn : n ≤ 100000) (hΦ : Φ (List.replicate n a)) : slices_Repeat_int_int_W [a] (n : Int) Φ := by
  have e : (BitVec.ofNat 64 n).toInt = (n : Int) := by rw [BitVec.toInt_eq_toNat_cond, BitVec.toNat_ofNat, Nat.mod_eq_of_lt (by omega), if_pos (by omega)]
  have no : slices_Repeat_int_int_J1 [a] (0#64, BitVec.ofNat 64 n) Φ false := by
    refine ⟨fun q => Bool.noConfusion q, fun _ => ⟨by show 0 ≤ (BitVec.ofNat 64 n).toInt; rw [e]; omega, ?_, ?_⟩⟩
    · show lenOk (BitVec.ofNat 64 n).toInt.toNat 8
      rw [e]
      exact ⟨by show n * 8 ≤ _; omega, by show n ≤ maxLen; unfold maxLen; omega⟩
    · show LoopW (slices_Repeat_int_int_L2 Φ) (((min 1 ((List.replicate (BitVec.ofNat 64 n).toInt.toNat (0 : Int)).length - 0) : Nat) : Int), paste (List.replicate (BitVec.ofNat 64 n).toInt.toNat (0 : Int)) 0 [a])
      rw [e, Int.toNat_natCast, List.length_replicate, Nat.sub_zero]
      have h := repeat_loop (a := a) (n := n) (c := min 1 n) hn (by omega) (by omega) hΦ
      have p : paste (List.replicate n (0 : Int)) 0 [a] = List.replicate (min 1 n) a ++ List.replicate (n - min 1 n) 0 := by
        cases n with
        | zero => rfl
        | succ n => rw [show min 1 (n + 1) = 1 by omega, Nat.add_sub_cancel, List.replicate_succ]; unfold paste; simp
      rw [p]; exact h
  refine ⟨fun q => by omega, fun _ => mul_one_ok hn ⟨fun q => ?_, fun _ => ?_⟩⟩
  · exact absurd (show (0#64) < (0#64) from q) (by decide)
  · rw [show decide ((9223372036854775807#64) < (BitVec.ofNat 64 n)) = false from ?_]
    · exact no
    · rw [decide_eq_false_iff_not, BitVec.lt_def]
      have : (BitVec.ofNat 64 n).toNat = n := by rw [BitVec.toNat_ofNat, Nat.mod_eq_of_lt (by omega)]
      rw [this]
      show ¬ (9223372036854775807 < n)
      omega
def relL (l : List api_HistoryEvent) (t : Int) (n : Nat) (N : Int) (k : Nat) : List Int := (List.range n).map fun w : Nat => if 0 ≤ atN l k ⟨t, (w : Int)⟩ then atN l k ⟨t, (w : Int)⟩ else N
theorem relL_len {l : List api_HistoryEvent} {t : Int} {n k : Nat} {N : Int} : (relL l t n N k).length = n := by unfold relL; rw [List.length_map, List.length_range]
theorem ix_relL {l : List api_HistoryEvent} {t : Int} {n k w : Nat} {N : Int} (h : w < n) : ix (relL l t n N k) (w : Int) = if 0 ≤ atN l k ⟨t, (w : Int)⟩ then atN l k ⟨t, (w : Int)⟩ else N := by
  rw [ix_get (by rw [relL_len]; exact h)]
  unfold relL
  rw [List.getElem_map, List.getElem_range]
theorem relL_zero {l : List api_HistoryEvent} {t : Int} {n : Nat} {N : Int} : relL l t n N 0 = List.replicate n N := by
  unfold relL
  rw [List.eq_replicate_iff]
  refine ⟨by rw [List.length_map, List.length_range], fun x hx => ?_⟩
  obtain ⟨w, _, rfl⟩ := List.mem_map.1 hx
  rw [if_neg (by show ¬ (0 : Int) ≤ -1; omega)]
theorem relL_miss {l : List api_HistoryEvent} {t : Int} {n k : Nat} {N : Int} (h : (ix l (k : Int)).Kind ≠ t) : relL l t n N (k + 1) = relL l t n N k := by
  unfold relL
  refine List.map_congr_left fun w _ => ?_
  rw [atN_keep fun e => h (by rw [e])]
theorem relL_hit {l : List api_HistoryEvent} {t : Int} {n k w : Nat} {N : Int} (hw : w < n) (h : ix l (k : Int) = ⟨t, (w : Int)⟩) (hn : ¬ 0 ≤ atN l k ⟨t, (w : Int)⟩) : relL l t n N (k + 1) = put (relL l t n N k) (w : Int) (k : Int) := by
  have hp : ∀ j : Nat, j < n → ix (relL l t n N (k + 1)) (j : Int) = ix (put (relL l t n N k) (w : Int) (k : Int)) (j : Int) := by
    intro j hj
    rw [ix_relL hj, ix_put _ _ (by rw [relL_len]; exact hw)]
    by_cases q : j = w
    · subst q
      rw [if_pos rfl, atN_succ, if_neg hn, if_pos h, if_pos (by omega)]
    · rw [if_neg q, ix_relL hj, atN_keep fun e => q ?_]
      rw [h] at e
      exact (Int.ofNat.inj (congrArg api_HistoryEvent.Write e)).symm
  exact ext_ix (by rw [put_len, relL_len, relL_len]) fun j hj => hp j (by rw [relL_len] at hj; exact hj)
theorem hist_ev {h : api_History} (hz : histE h = 0) {k : Nat} (hk : k < h.Events.length) : evErr h.Events h.Writes.length k = 0 := by
  unfold histE at hz
  split at hz
  · rename_i q; exact absurd hz q
  · split at hz
    · omega
    · split at hz
      · rename_i q; exact absurd hz q
      · unfold evE at hz
        by_cases r : firstN (evErr h.Events h.Writes.length) h.Events.length ≠ 0
        · rw [if_pos r] at hz; exact absurd hz r
        · exact firstN_zero.1 (Classical.not_not.1 r) k hk
theorem ev_put {h : api_History} (hz : histE h = 0) {N : Int} {k : Nat} (hk : k < h.Events.length) :
    ((ix h.Events (k : Int)).Kind = 0 → ∃ w : Nat, (ix h.Events (k : Int)).Write = (w : Int) ∧ w < h.Writes.length ∧ relL h.Events 0 h.Writes.length N (k + 1) = put (relL h.Events 0 h.Writes.length N k) (w : Int) (k : Int) ∧ relL h.Events 1 h.Writes.length N (k + 1) = relL h.Events 1 h.Writes.length N k) ∧
    ((ix h.Events (k : Int)).Kind ≠ 0 → ∃ w : Nat, (ix h.Events (k : Int)).Write = (w : Int) ∧ w < h.Writes.length ∧ relL h.Events 1 h.Writes.length N (k + 1) = put (relL h.Events 1 h.Writes.length N k) (w : Int) (k : Int) ∧ relL h.Events 0 h.Writes.length N (k + 1) = relL h.Events 0 h.Writes.length N k) := by
  have h0 : ∀ j, j < k → evErr h.Events h.Writes.length j = 0 := fun j hj => hist_ev hz (by omega)
  refine ⟨fun q => ?_, fun q => ?_⟩
  · have e := evErr_issue (hist_ev hz hk) q
    refine ⟨cntI h.Events k, by rw [e.1], e.2, relL_hit e.2 e.1 (fun t => by have := (at_issue h0 _).1 t; omega), relL_miss (by rw [q]; decide)⟩
  · have e := evErr_ack (hist_ev hz hk) q
    have c := cnt_le h0
    have w : (((ix h.Events (k : Int)).Write.toNat : Nat) : Int) = (ix h.Events (k : Int)).Write := Int.toNat_of_nonneg e.2.1
    refine ⟨(ix h.Events (k : Int)).Write.toNat, w.symm, by omega, relL_hit (by omega) (by rw [w]; exact e.1) (by rw [w, ← e.1, e.2.2.2]; omega), relL_miss q⟩
def issW (h : api_History) : List Int := relL h.Events 0 h.Writes.length h.Events.length h.Events.length
def ackW (h : api_History) : List Int := relL h.Events 1 h.Writes.length h.Events.length h.Events.length
def markL (n : Nat) (l : List Int) : List Bool := (List.range n).map fun w : Nat => decide ((w : Int) ∈ l)
theorem markL_len {n : Nat} {l : List Int} : (markL n l).length = n := by unfold markL; rw [List.length_map, List.length_range]
theorem ix_markL {n w : Nat} {l : List Int} (h : w < n) : ix (markL n l) (w : Int) = decide ((w : Int) ∈ l) := by
  rw [ix_get (by rw [markL_len]; exact h)]
  unfold markL
  rw [List.getElem_map, List.getElem_range]
theorem markL_put {n k w : Nat} {l : List Int} (hk : k < l.length) (hw : w < n) (e : ix l (k : Int) = (w : Int)) : markL n (l.take (k + 1)) = put (markL n (l.take k)) (w : Int) true := by
  refine ext_ix (by rw [put_len, markL_len, markL_len]) fun j hj => ?_
  rw [markL_len] at hj
  rw [ix_markL hj, ix_put _ _ (by rw [markL_len]; exact hw), ix_markL hj, take_ix hk, e]
  by_cases q : j = w
  · rw [if_pos q, q, decide_eq_true_iff]; simp
  · rw [if_neg q]
    have : (j : Int) ≠ (w : Int) := by omega
    simp [this]
theorem cut_relation_mark_ok {r : Ptr cut_relation} {n : Nat} {l : List Int} {Φ : List Bool × Bool → Prop} (hr : r.val.n = (n : Int)) (hn : n ≤ 100000) (hl : l.length ≤ 1000000) (h1 : isSetB l (n : Int) = true → Φ (markL n l, true)) (h0 : isSetB l (n : Int) = false → Φ ([], false)) : cut_relation_mark_W r l Φ := by
  unfold cut_relation_mark_W
  rw [hr]
  have z : List.replicate n false = markL n (l.take 0) := by
    refine ext_ix (by rw [markL_len, List.length_replicate]) fun j hj => ?_
    rw [List.length_replicate] at hj
    rw [ix_markL hj, ix_get (by rw [List.length_replicate]; exact hj), List.getElem_replicate]; simp
  refine ⟨by omega, ⟨by rw [Int.toNat_natCast]; omega, by rw [Int.toNat_natCast]; unfold maxLen; omega⟩, ?_⟩
  rw [Int.toNat_natCast, z]
  refine LoopW.upI l.length (fun k => ((k : Int), markL n (l.take k))) (fun k => ∀ j, j < k → isSetP l (n : Int) j = true) rfl (fun j hj => absurd hj (Nat.not_lt_zero j)) (fun k rec hk hI hrec => ⟨fun _ => ⟨iX (by omega) (by omega), ?_⟩, fun q => by omega⟩) fun rec hI => ⟨fun q => by omega, fun _ => ?_⟩
  · have bad : isSetP l (n : Int) k = false → cut_relation_mark_J2 l (k : Int) (markL n (l.take k)) rec Φ true := fun t => ⟨fun _ => h0 (allN_false hk t), fun u => absurd rfl u⟩
    have good : isSetP l (n : Int) k = true → 0 ≤ ix l (k : Int) → ix l (k : Int) < (n : Int) → cut_relation_mark_J2 l (k : Int) (markL n (l.take k)) rec Φ false := fun t a b => ⟨fun u => Bool.noConfusion u, fun _ => ⟨iX a (by rw [markL_len]; exact b), iI (by omega) (by omega), hrec (fun j hj => by
      rcases Nat.lt_or_ge j k with c | c
      · exact hI j c
      · obtain rfl : j = k := by omega
        exact t) _ (by
      have w : (((ix l (k : Int)).toNat : Nat) : Int) = ix l (k : Int) := Int.toNat_of_nonneg a
      rw [markL_put hk (w := (ix l (k : Int)).toNat) (by omega) w.symm, w]; rfl)⟩⟩
    unfold isSetP at bad good
    refine ⟨fun q => bad (decide_eq_false (by omega)), fun q => ⟨fun s => bad (decide_eq_false (by rw [hr] at s; omega)), fun s => ?_⟩⟩
    rw [hr] at s
    refine ⟨fun t => ⟨iI (by omega) (by omega), iX (by omega) (by omega), ?_⟩, fun t => good (decide_eq_true ⟨by omega, by omega, fun u => by omega⟩) (by omega) (by omega)⟩
    by_cases u : ix l (k : Int) ≤ ix l ((k : Int) - 1)
    · rw [decide_eq_true u]; exact bad (decide_eq_false (by omega))
    · rw [decide_eq_false u]; exact good (decide_eq_true ⟨by omega, by omega, fun _ => by omega⟩) (by omega) (by omega)
  · have := h1 (allN_true.2 hI)
    rw [List.take_length]; exact this
def memL (ms : List Bool) (k : Nat) : List (Int × Unit) := ((List.range' k (ms.length - k)).filter fun w : Nat => ix ms (w : Int)).map fun w : Nat => ((w : Int), ())
theorem memL_step {ms : List Bool} {k : Nat} (h : k < ms.length) : memL ms k = if ix ms (k : Int) = true then ((k : Int), ()) :: memL ms (k + 1) else memL ms (k + 1) := by
  unfold memL
  rw [show ms.length - k = (ms.length - (k + 1)) + 1 by omega, List.range'_succ, List.filter_cons]
  by_cases q : ix ms (k : Int) = true
  · rw [if_pos q, if_pos q]; rfl
  · rw [if_neg q, if_neg q]
theorem marks_members_ok {ms : List Bool} (hl : ms.length ≤ 1000000) : cut_marks_members_1_I ms (memL ms 0) := by
  refine LoopW.upT ms.length (fun k => (memL ms k, (k : Int))) rfl (fun k rec hk hr => ⟨fun _ => ⟨iX (by omega) (by omega), fun q => ?_, fun q => ⟨iI (by omega) (by omega), hr _ (by rw [memL_step hk, if_neg q]; rfl)⟩⟩, fun q => by omega⟩) fun rec => ⟨fun q => by omega, fun _ => by show memL ms ms.length = []; unfold memL; rw [Nat.sub_self]; rfl⟩
  rw [memL_step hk, if_pos q]
  exact ⟨rfl, ⟨iI (by omega) (by omega), hr _ rfl⟩, trivial⟩
theorem memL_le {ms : List Bool} {k : Nat} : (memL ms k).length ≤ ms.length := by
  unfold memL
  rw [List.length_map]
  have := List.length_filter_le (fun w : Nat => ix ms (w : Int)) (List.range' k (ms.length - k))
  rw [List.length_range'] at this
  omega
theorem marks_list_ok {ms : List Bool} {Φ : List Int → Prop} (hl : ms.length ≤ 1000000) (hΦ : Φ ((memL ms 0).map Prod.fst)) : cut_marks_list_W ms Φ := by
  have hm := memL_le (ms := ms) (k := 0)
  refine ⟨_, marks_members_ok hl, LoopW.lst (memL ms 0) (fun k => ((memL ms 0).take k).map Prod.fst) rfl (fun k hk rec hr => ⟨⟨?_, ?_⟩, hr _ ?_⟩) fun rec => by show Φ _; rw [List.take_length]; exact hΦ⟩
  · show (List.map Prod.fst ((memL ms 0).take k) ++ [_]).length * 8 ≤ _
    rw [List.length_append, List.length_map, List.length_take, List.length_singleton]; omega
  · show (List.map Prod.fst ((memL ms 0).take k) ++ [_]).length ≤ maxLen
    rw [List.length_append, List.length_map, List.length_take, List.length_singleton]; unfold maxLen; omega
  · rw [List.take_succ_eq_append_getElem hk, List.map_append]; rfl
def befC (h : api_History) (a b : Nat) : Bool := decide (ix (ackW h) (a : Int) < ix (issW h) (b : Int))
theorem cut_before_ok {h : api_History} {n e : Int} {a b : Nat} {Φ : Bool → Prop} (ha : a < h.Writes.length) (hb : b < h.Writes.length) (hΦ : Φ (befC h a b)) : cut_relation_before_W (Ptr.mk (cut_relation.mk n e (issW h) (ackW h))) (a : Int) (b : Int) Φ :=
  ⟨iX (by omega) (by show (a : Int) < ((ackW h).length : Int); unfold ackW; rw [relL_len]; omega), iX (by omega) (by show (b : Int) < ((issW h).length : Int); unfold issW; rw [relL_len]; omega), hΦ⟩
def selL (n : Nat) (p : Nat → Bool) : List Int := ((List.range n).filter p).map fun w : Nat => (w : Int)
theorem mem_selL {n : Nat} {p : Nat → Bool} {x : Int} : x ∈ selL n p ↔ ∃ w : Nat, x = (w : Int) ∧ w < n ∧ p w = true := by
  unfold selL
  rw [List.mem_map]
  constructor
  · rintro ⟨w, hw, rfl⟩
    have := List.mem_filter.1 hw
    exact ⟨w, rfl, List.mem_range.1 this.1, this.2⟩
  · rintro ⟨w, rfl, h1, h2⟩
    exact ⟨w, List.mem_filter.2 ⟨List.mem_range.2 h1, h2⟩, rfl⟩
theorem mem_selN {n : Nat} {p : Nat → Bool} {w : Nat} : (w : Int) ∈ selL n p ↔ w < n ∧ p w = true := by
  rw [mem_selL]
  exact ⟨fun ⟨v, e, a⟩ => by obtain rfl := Int.ofNat.inj e; exact a, fun a => ⟨w, rfl, a⟩⟩
theorem selL_congr {n : Nat} {p q : Nat → Bool} (h : ∀ w, w < n → p w = q w) : selL n p = selL n q := by
  unfold selL
  rw [List.filter_congr fun w hw => h w (List.mem_range.1 hw)]
theorem selL_len {n : Nat} {p : Nat → Bool} : (selL n p).length ≤ n := by
  unfold selL
  rw [List.length_map]
  have := List.length_filter_le p (List.range n)
  rw [List.length_range] at this; exact this
theorem selL_succ {n : Nat} {p : Nat → Bool} : selL (n + 1) p = selL n p ++ (if p n = true then [(n : Int)] else []) := by
  unfold selL
  rw [filter_range_snoc, List.map_append]
  by_cases q : p n = true
  · rw [if_pos q, if_pos q]; rfl
  · rw [if_neg q, if_neg q]; rfl
theorem memL_sel {ms : List Bool} : (memL ms 0).map Prod.fst = selL ms.length fun w => ix ms (w : Int) := by
  unfold memL selL
  rw [List.map_map, Nat.sub_zero, ← List.range_eq_range']
  rfl
theorem selL_lt {n : Nat} {p : Nat → Bool} : ∀ {k : Nat}, k < (selL n p).length → 0 ≤ ix (selL n p) (k : Int) ∧ ix (selL n p) (k : Int) < (n : Int) := by
  intro k hk
  obtain ⟨w, e, h1, _⟩ := mem_selL.1 (mem_ix (xs := selL n p) (i := (k : Int)) (by omega) (by omega))
  omega
theorem ix_app_l {xs ys : List Int} {k : Nat} (h : k < xs.length) : ix (xs ++ ys) (k : Int) = ix xs (k : Int) := by
  rw [ix_get (by rw [List.length_append]; omega), ix_get h, List.getElem_append_left h]
theorem selL_set {n : Nat} {p : Nat → Bool} {N : Int} : ∀ {m : Nat}, m ≤ n → (n : Int) ≤ N → isSetB (selL m p) N = true := by
  intro m
  induction m with
  | zero => intro _ _; exact allN_true.2 fun k hk => absurd hk (Nat.not_lt_zero k)
  | succ m ih =>
    intro hm hN
    have h0 := allN_true.1 (ih (by omega) hN)
    rw [selL_succ]
    by_cases q : p m = true
    · rw [if_pos q]
      refine allN_true.2 fun k hk => ?_
      rw [List.length_append, List.length_singleton] at hk
      rcases Nat.lt_or_ge k (selL m p).length with c | c
      · have := of_decide_eq_true (h0 k c)
        refine decide_eq_true ?_
        rw [ix_app_l c]
        refine ⟨this.1, this.2.1, fun u => ?_⟩
        have e : ((k : Int) - 1) = ((k - 1 : Nat) : Int) := by omega
        rw [e, ix_app_l (by omega), ← e]; exact this.2.2 u
      · obtain rfl : k = (selL m p).length := by omega
        have hx : ix (selL m p ++ [(m : Int)]) ((selL m p).length : Int) = (m : Int) := by
          rw [ix_get (by rw [List.length_append, List.length_singleton]; omega), List.getElem_append_right (Nat.le_refl _)]
          simp
        refine decide_eq_true ?_
        rw [hx]
        refine ⟨by omega, by omega, fun u => ?_⟩
        have e : (((selL m p).length : Int) - 1) = (((selL m p).length - 1 : Nat) : Int) := by omega
        rw [e, ix_app_l (by omega)]
        exact (selL_lt (n := m) (p := p) (k := (selL m p).length - 1) (by omega)).2
    · rw [if_neg q, List.append_nil]; exact ih (by omega) hN
theorem set_ext {n : Int} : ∀ {a b : List Int}, a.Pairwise (· < ·) → b.Pairwise (· < ·) → (∀ x, x ∈ a ↔ x ∈ b) → a = b
  | [], [], _, _, _ => rfl
  | [], y :: b, _, _, h => absurd ((h y).2 List.mem_cons_self) List.not_mem_nil
  | x :: a, [], _, _, h => absurd ((h x).1 List.mem_cons_self) List.not_mem_nil
  | x :: a, y :: b, ha, hb, h => by
    have ha' := List.pairwise_cons.1 ha
    have hb' := List.pairwise_cons.1 hb
    have e : x = y := by
      have h1 := (h x).1 List.mem_cons_self
      have h2 := (h y).2 List.mem_cons_self
      rcases List.mem_cons.1 h1 with r | r
      · exact r
      · rcases List.mem_cons.1 h2 with s | s
        · exact s.symm
        · have := hb'.1 x r; have := ha'.1 y s; omega
    subst e
    rw [set_ext (n := n) ha'.2 hb'.2 fun z => ?_]
    constructor
    · intro hz
      rcases List.mem_cons.1 ((h z).1 (List.mem_cons_of_mem _ hz)) with r | r
      · have := ha'.1 z hz; omega
      · exact r
    · intro hz
      rcases List.mem_cons.1 ((h z).2 (List.mem_cons_of_mem _ hz)) with r | r
      · have := hb'.1 z hz; omega
      · exact r
theorem set_pair {l : List Int} {n : Int} (h : isSetB l n = true) : l.Pairwise (· < ·) := by
  rw [List.pairwise_iff_getElem]
  intro i j hi hj hij
  have := isSetB_lt h hij hj
  rw [ix_get hi, ix_get hj] at this
  exact this
theorem set_filter {l : List Int} {n : Nat} (h : isSetB l (n : Int) = true) (p : Int → Bool) : l.filter p = selL n fun w => decide ((w : Int) ∈ l) && p (w : Int) :=
  set_ext (n := 0) ((set_pair h).filter p) (set_pair (selL_set (N := (n : Int)) (Nat.le_refl n) (Int.le_refl _))) fun x => by
    rw [mem_selL, List.mem_filter]
    constructor
    · rintro ⟨hx, hp⟩
      have := isSetB_mem h hx
      refine ⟨x.toNat, by omega, by omega, ?_⟩
      rw [Int.toNat_of_nonneg this.1, decide_eq_true hx, hp]; rfl
    · rintro ⟨w, rfl, _, hw⟩
      rw [Bool.and_eq_true, decide_eq_true_iff] at hw
      exact hw
theorem mem_members {n : Nat} {l : List Int} {p : Int × Unit} : p ∈ memL (markL n l) 0 ↔ p.1 ∈ l ∧ 0 ≤ p.1 ∧ p.1 < (n : Int) := by
  unfold memL
  rw [List.mem_map, markL_len]
  constructor
  · rintro ⟨w, hw, rfl⟩
    have h2 := List.mem_filter.1 hw
    have h3 := List.mem_range'_1.1 h2.1
    have h4 : ix (markL n l) (w : Int) = true := h2.2
    rw [ix_markL (by omega), decide_eq_true_iff] at h4
    exact ⟨h4, by show (0 : Int) ≤ (w : Int); omega, by show (w : Int) < (n : Int); omega⟩
  · obtain ⟨x, u⟩ := p
    rintro ⟨h1, h2, h3⟩
    have h1 : x ∈ l := h1
    have h2 : 0 ≤ x := h2
    have h3 : x < (n : Int) := h3
    have e : ((x.toNat : Nat) : Int) = x := Int.toNat_of_nonneg h2
    refine ⟨x.toNat, List.mem_filter.2 ⟨List.mem_range'_1.2 ⟨by omega, by omega⟩, ?_⟩, by rw [e]⟩
    show ix (markL n l) ((x.toNat : Nat) : Int) = true
    rw [ix_markL (by omega), decide_eq_true_iff, e]
    exact h1
def befP (h : api_History) (a b : Nat) : Bool := decide (0 ≤ atN h.Events h.Events.length ⟨1, (a : Int)⟩ ∧ atN h.Events h.Events.length ⟨1, (a : Int)⟩ < atN h.Events h.Events.length ⟨0, (b : Int)⟩)
theorem evE_cnt {h : api_History} (hz : histE h = 0) : cntI h.Events h.Events.length = h.Writes.length := by
  have h1 := (histE_zero hz).2.2.2
  have h2 := cnt_le (l := h.Events) (n := h.Writes.length) (k := h.Events.length) fun j hj => hist_ev hz hj
  unfold evE at h1
  split at h1
  · rename_i q; exact absurd h1 q
  · split at h1
    · omega
    · omega
theorem iss_nn {h : api_History} (hz : histE h = 0) {b : Nat} (hb : b < h.Writes.length) : 0 ≤ atN h.Events h.Events.length ⟨0, (b : Int)⟩ :=
  (at_issue (n := h.Writes.length) (fun j hj => hist_ev hz hj) _).2 ⟨by omega, by rw [evE_cnt hz]; omega⟩
theorem atN_top (l : List api_HistoryEvent) (n : Nat) (e : api_HistoryEvent) : atN l n e < (n : Int) := by
  rcases atN_lt l n e with h | h <;> omega
theorem befC_eq {h : api_History} (hz : histE h = 0) {a b : Nat} (ha : a < h.Writes.length) (hb : b < h.Writes.length) : befC h a b = befP h a b := by
  unfold befC befP ackW issW
  rw [ix_relL ha, ix_relL hb]
  have h1 := iss_nn hz hb
  rw [if_pos h1]
  refine decide_eq_decide.2 ?_
  by_cases q : 0 ≤ atN h.Events h.Events.length ⟨1, (a : Int)⟩
  · rw [if_pos q]; exact ⟨fun t => ⟨q, t⟩, fun t => t.2⟩
  · rw [if_neg q]
    have := atN_top h.Events h.Events.length ⟨0, (b : Int)⟩
    exact ⟨fun t => by omega, fun t => absurd t.1 q⟩
def fullL (n k : Nat) (a b : Int) : List Int := (List.range n).map fun w : Nat => if w < k then a else b
theorem fullL_len {n k : Nat} {a b : Int} : (fullL n k a b).length = n := by unfold fullL; rw [List.length_map, List.length_range]
theorem ix_fillL {n k w : Nat} {a b : Int} (h : w < n) : ix (fullL n k a b) (w : Int) = if w < k then a else b := by
  rw [ix_get (by rw [fullL_len]; exact h)]
  unfold fullL
  rw [List.getElem_map, List.getElem_range]
theorem ix_rep {n w : Nat} {a : Int} (h : w < n) : ix (List.replicate n a) (w : Int) = a := by rw [ix_get (by rw [List.length_replicate]; exact h), List.getElem_replicate]
theorem fullL_zero {n : Nat} {a b : Int} : List.replicate n b = fullL n 0 a b := ext_ix (by rw [fullL_len, List.length_replicate]) fun j hj => by
  rw [List.length_replicate] at hj
  rw [ix_fillL hj, ix_rep hj, if_neg (Nat.not_lt_zero j)]
theorem fullL_all {n : Nat} {a b : Int} : fullL n n a b = List.replicate n a := ext_ix (by rw [fullL_len, List.length_replicate]) fun j hj => by
  rw [fullL_len] at hj
  rw [ix_fillL hj, ix_rep hj, if_pos hj]
theorem fullL_put {n k : Nat} {a b : Int} (hk : k < n) : put (fullL n k a b) (k : Int) a = fullL n (k + 1) a b := ext_ix (by rw [put_len, fullL_len, fullL_len]) fun j hj => by
  rw [put_len, fullL_len] at hj
  rw [ix_put _ _ (by rw [fullL_len]; exact hk), ix_fillL hj, ix_fillL hj]
  by_cases e : j = k
  · rw [if_pos e, if_pos (by omega)]
  · rw [if_neg e]
    by_cases q : j < k
    · rw [if_pos q, if_pos (by omega)]
    · rw [if_neg q, if_neg (by omega)]
def rowB (n k : Nat) (p : Nat → Bool) : List Bool := (List.range n).map fun w : Nat => decide (w < k) && p w
theorem rowB_len {n k : Nat} {p : Nat → Bool} : (rowB n k p).length = n := by unfold rowB; rw [List.length_map, List.length_range]
theorem ix_rowB {n k w : Nat} {p : Nat → Bool} (h : w < n) : ix (rowB n k p) (w : Int) = (decide (w < k) && p w) := by
  rw [ix_get (by rw [rowB_len]; exact h)]
  unfold rowB
  rw [List.getElem_map, List.getElem_range]
theorem rowB_zero {n : Nat} {p : Nat → Bool} : List.replicate n false = rowB n 0 p := ext_ix (by rw [rowB_len, List.length_replicate]) fun j hj => by
  rw [List.length_replicate] at hj
  rw [ix_rowB hj, ix_get (by rw [List.length_replicate]; exact hj), List.getElem_replicate]; simp
theorem rowB_put {n k : Nat} {p : Nat → Bool} {b : Bool} (hk : k < n) (e : p k = b) : rowB n (k + 1) p = put (rowB n k p) (k : Int) b := ext_ix (by rw [put_len, rowB_len, rowB_len]) fun j hj => by
  rw [rowB_len] at hj
  rw [ix_put _ _ (by rw [rowB_len]; exact hk), ix_rowB hj, ix_rowB hj]
  by_cases q : j = k
  · subst q; rw [if_pos rfl, e, decide_eq_true (Nat.lt_succ_self j), Bool.true_and]
  · rw [if_neg q]
    have : decide (j < k + 1) = decide (j < k) := decide_eq_decide.2 (by omega)
    rw [this]
def tblK (h : api_History) (k : Nat) : List (List Bool) := (List.range k).map fun a : Nat => rowB h.Writes.length h.Writes.length fun b => befP h a b
def tblH (h : api_History) : List (List Bool) := tblK h h.Writes.length
theorem tblK_len {h : api_History} {k : Nat} : (tblK h k).length = k := by unfold tblK; rw [List.length_map, List.length_range]
theorem tblK_succ {h : api_History} {k : Nat} : tblK h (k + 1) = tblK h k ++ [rowB h.Writes.length h.Writes.length fun b => befP h k b] := by unfold tblK; rw [List.range_succ, List.map_append]; rfl
theorem ix_tblH {h : api_History} {a : Nat} (ha : a < h.Writes.length) : ix (tblH h) (a : Int) = rowB h.Writes.length h.Writes.length fun b => befP h a b := by
  rw [ix_get (by unfold tblH; rw [tblK_len]; exact ha)]
  unfold tblH tblK
  rw [List.getElem_map, List.getElem_range]
theorem ix_tbl {h : api_History} {a b : Nat} (ha : a < h.Writes.length) (hb : b < h.Writes.length) : ix (ix (tblH h) (a : Int)) (b : Int) = befP h a b := by
  rw [ix_tblH ha, ix_rowB hb, decide_eq_true hb, Bool.true_and]
def ackP (h : api_History) : List Int := relL h.Events 1 h.Writes.length (-1) h.Events.length
def issP (h : api_History) : List Int := relL h.Events 0 h.Writes.length 0 h.Events.length
theorem ackP_at {h : api_History} {a : Nat} (ha : a < h.Writes.length) : ix (ackP h) (a : Int) = atN h.Events h.Events.length ⟨1, (a : Int)⟩ := by
  unfold ackP
  rw [ix_relL ha]
  by_cases q : 0 ≤ atN h.Events h.Events.length ⟨1, (a : Int)⟩
  · rw [if_pos q]
  · rw [if_neg q, atN_neg q]
theorem issP_at {h : api_History} (hz : histE h = 0) {a : Nat} (ha : a < h.Writes.length) : ix (issP h) (a : Int) = atN h.Events h.Events.length ⟨0, (a : Int)⟩ := by
  unfold issP
  rw [ix_relL ha, if_pos (iss_nn hz ha)]
theorem table_L4 {h : api_History} {a : Nat} {t : List (List Bool)} {rec3 : (Int × List (List Bool)) → Prop} {Φ : List (List Bool) → Prop} (hz : histE h = 0) (ha : a < h.Writes.length) (ht : t = tblK h a) (hr : rec3 ((a : Int) + 1, tblK h (a + 1))) : LoopW (ref16_Table_L4 h (ackP h) (issP h) (a : Int) t rec3 Φ) (0, List.replicate h.Writes.length false) := by
  have hw := hist_wr hz
  have la : (ackP h).length = h.Writes.length := relL_len
  have li : (issP h).length = h.Writes.length := relL_len
  have ea := ackP_at ha
  refine LoopW.upT h.Writes.length (fun k => ((k : Int), rowB h.Writes.length k fun b => befP h a b)) (by rw [rowB_zero (p := fun b => befP h a b)]; rfl) (fun k rec hk hrec => ⟨fun _ => ⟨iX (by omega) (by omega), fun q => ⟨iX (by omega) (by omega), iX (by omega) (by omega), iX (by omega) (by rw [rowB_len]; omega), iI (by omega) (by omega), hrec _ ?_⟩, fun q => ⟨iX (by omega) (by rw [rowB_len]; omega), iI (by omega) (by omega), hrec _ ?_⟩⟩, fun r => absurd (show (k : Int) < (h.Writes.length : Int) by omega) r⟩) fun rec => ⟨fun r => absurd r (by show ¬ ((h.Writes.length : Int) < (h.Writes.length : Int)); omega), fun _ => ?_⟩
  · rw [ea] at q
    rw [ea, issP_at hz hk, rowB_put hk (b := decide (atN h.Events h.Events.length ⟨1, (a : Int)⟩ < atN h.Events h.Events.length ⟨0, (k : Int)⟩)) (decide_eq_decide.2 ⟨fun t => t.2, fun t => ⟨q, t⟩⟩)]; rfl
  · rw [ea] at q
    rw [rowB_put hk (b := false) (decide_eq_false fun t => q t.1)]; rfl
  · subst ht
    rw [← tblK_succ]
    have l1 : (tblK h (a + 1)).length = a + 1 := tblK_len
    exact ⟨⟨by rw [l1]; omega, by rw [l1]; unfold maxLen; omega⟩, iI (by omega) (by omega), hr⟩
theorem ref16_Table_ok {h : api_History} {Φ : List (List Bool) → Prop} (hh : SmallH h) (hz : histE h = 0) (hΦ : Φ (tblH h)) : ref16_Table_W h Φ := by
  have hw := hist_wr hz
  have hev := hh.ev
  refine ⟨by omega, ⟨by rw [Int.toNat_natCast]; omega, by rw [Int.toNat_natCast]; unfold maxLen; omega⟩, by omega, ⟨by rw [Int.toNat_natCast]; omega, by rw [Int.toNat_natCast]; unfold maxLen; omega⟩, ?_⟩
  rw [Int.toNat_natCast, fullL_zero (a := -1)]
  refine LoopW.upT h.Writes.length (fun k => ((k : Int), fullL h.Writes.length k (-1) 0)) rfl (fun k rec hk hrec => ⟨fun _ => ⟨iX (by omega) (by rw [fullL_len]; omega), iI (by omega) (by omega), hrec _ (by rw [fullL_put hk]; rfl)⟩, fun r => absurd (show (k : Int) < (h.Writes.length : Int) by omega) r⟩) fun rec => ⟨fun r => absurd r (by show ¬ ((h.Writes.length : Int) < (h.Writes.length : Int)); omega), fun _ => ?_⟩
  rw [fullL_all, Int.toNat_natCast]
  refine LoopW.upT h.Events.length (fun k => ((k : Int), relL h.Events 1 h.Writes.length (-1) k, relL h.Events 0 h.Writes.length 0 k)) (by rw [relL_zero, relL_zero]; rfl) (fun k rec hk hr => ⟨fun _ => ⟨iX (by omega) (by omega), fun q => ?_, fun q => ?_⟩, fun r => absurd (show (k : Int) < (h.Events.length : Int) by omega) r⟩) fun rec => ⟨fun r => absurd r (by show ¬ ((h.Events.length : Int) < (h.Events.length : Int)); omega), fun _ => ?_⟩
  · have q' : (ix h.Events (k : Int)).Kind ≠ 0 := by rw [q]; decide
    obtain ⟨w, e1, e2, e3, e4⟩ := (ev_put hz (N := -1) hk).2 q'
    obtain ⟨_, _, _, _, e5⟩ := (ev_put hz (N := 0) hk).2 q'
    refine ⟨iX (by omega) (by omega), iX (by rw [e1]; omega) (by rw [e1, relL_len]; omega), iI (by omega) (by omega), hr _ ?_⟩
    rw [e1, e3, e5]; rfl
  · have q' : (ix h.Events (k : Int)).Kind = 0 := by
      by_cases z : (ix h.Events (k : Int)).Kind = 0
      · exact z
      · have e := (evErr_ack (hist_ev hz hk) z).1
        rw [e] at q; exact absurd rfl q
    obtain ⟨w, e1, e2, e3, e4⟩ := (ev_put hz (N := 0) hk).1 q'
    obtain ⟨_, _, _, _, e5⟩ := (ev_put hz (N := -1) hk).1 q'
    refine ⟨iX (by omega) (by omega), iX (by rw [e1]; omega) (by rw [e1, relL_len]; omega), iI (by omega) (by omega), hr _ ?_⟩
    rw [e1, e3, e5]; rfl
  · refine LoopW.upT h.Writes.length (fun k => ((k : Int), tblK h k)) rfl (fun k rec hk hrec => ⟨fun _ => ⟨by omega, ⟨by rw [Int.toNat_natCast]; omega, by rw [Int.toNat_natCast]; unfold maxLen; omega⟩, ?_⟩, fun r => absurd (show (k : Int) < (h.Writes.length : Int) by omega) r⟩) fun rec => ⟨fun r => absurd r (by show ¬ ((h.Writes.length : Int) < (h.Writes.length : Int)); omega), fun _ => hΦ⟩
    rw [Int.toNat_natCast]
    exact table_L4 hz hk rfl (hrec _ rfl)
theorem ref16_right_ok {h : api_History} {l : List Int} {Φ : Int → Prop} (hh : SmallH h) (hl : l.length ≤ 1000000) (k0 : histE h ≠ 0 → Φ (histE h)) (k1 : histE h = 0 → isSetB l (h.Writes.length : Int) = false → Φ 2) (k2 : histE h = 0 → isSetB l (h.Writes.length : Int) = true → Φ 0) : ref16_right_W h l Φ :=
  ref15_Check_ok hh ⟨fun q => k0 q, fun q => ref15_Set_ok hl ⟨fun r => k1 (Classical.not_not.1 q) (Bool.eq_false_iff.2 r), fun r => k2 (Classical.not_not.1 q) (Classical.not_not.1 r)⟩⟩
theorem sel_room {n k : Nat} {p : Nat → Bool} (hk : k < n) (hn : n ≤ 4096) : lenOk (selL k p ++ ([(k : Int)] : List Int)).length 8 := by
  have := selL_len (n := k) (p := p)
  refine ⟨?_, ?_⟩
  · rw [List.length_append, List.length_singleton]; omega
  · rw [List.length_append, List.length_singleton]; unfold maxLen; omega
def clsF (h : api_History) (l : List Int) (b : Nat) : Bool := allN (fun a => !befC h a b || decide ((a : Int) ∈ l)) h.Writes.length
def closB (h : api_History) (l : List Int) : Bool := l.all fun b => clsF h l b.toNat
def relP (h : api_History) : Ptr cut_relation := Ptr.mk (cut_relation.mk (h.Writes.length : Int) (h.Events.length : Int) (issW h) (ackW h))
theorem members_all {n : Nat} {l : List Int} (hl : isSetB l (n : Int) = true) (f : Nat → Bool) : ((memL (markL n l) 0).all fun p => f p.1.toNat) = l.all fun b => f b.toNat := by
  rw [Bool.eq_iff_iff, List.all_eq_true, List.all_eq_true]
  constructor
  · intro t x hx
    have := isSetB_mem hl hx
    exact t (x, ()) (mem_members.2 ⟨hx, this.1, this.2⟩)
  · intro t p hp
    exact t _ (mem_members.1 hp).1
theorem cut_closed_ok {h : api_History} {l : List Int} {Φ : Bool → Prop} (hw : h.Writes.length ≤ 4096) (hl : isSetB l (h.Writes.length : Int) = true) (hΦ : Φ (closB h l)) : cut_relation_closed_W (relP h) (markL h.Writes.length l) Φ := by
  refine ⟨_, marks_members_ok (by rw [markL_len]; omega), ?_⟩
  have h0 : Φ ((memL (markL h.Writes.length l) 0).all fun p => clsF h l p.1.toNat) := by rw [members_all hl (clsF h l)]; exact hΦ
  refine LoopW.of_inv (fun s => Φ (s.1.all fun p => clsF h l p.1.toNat) ∧ ∀ p ∈ s.1, 0 ≤ p.1 ∧ p.1 < (h.Writes.length : Int)) (fun s => s.1.length) ?_ ⟨h0, fun p hp => (mem_members.1 hp).2⟩
  rintro ⟨ps, _⟩ rec ⟨hp, hr⟩ hrec
  cases ps with
  | nil => exact hp
  | cons p ps =>
    obtain ⟨b, u⟩ := p
    have hb := hr (b, u) List.mem_cons_self
    have e : ((b.toNat : Nat) : Int) = b := Int.toNat_of_nonneg hb.1
    have hb2 : b < (h.Writes.length : Int) := hb.2
    have cons : (((b, u) :: ps).all fun p => clsF h l p.1.toNat) = (clsF h l b.toNat && ps.all fun p => clsF h l p.1.toNat) := rfl
    refine LoopW.allL (Φ := fun c => (c = true → rec (ps, ())) ∧ (c = false → Φ false)) h.Writes.length (fun a => !befC h a b.toNat || decide ((a : Int) ∈ l)) ⟨fun t => ?_, fun t => ?_⟩ (fun a rec2 ha _ hf ht => ⟨fun _ => ?_, fun r => absurd (show (a : Int) < (h.Writes.length : Int) by omega) r⟩) fun rec2 h1 _ => ⟨fun r => absurd r (by show ¬ ((h.Writes.length : Int) < (h.Writes.length : Int)); omega), fun _ => h1.1 rfl⟩
    · have t : clsF h l b.toNat = true := t
      have hp : Φ (((b, u) :: ps).all fun p => clsF h l p.1.toNat) := hp
      rw [cons, t, Bool.true_and] at hp
      exact hrec _ ⟨hp, fun q hq => hr q (List.mem_cons_of_mem _ hq)⟩ (by show ps.length < ps.length + 1; omega)
    · have t : clsF h l b.toNat = false := t
      have hp : Φ (((b, u) :: ps).all fun p => clsF h l p.1.toNat) := hp
      rw [cons, t, Bool.false_and] at hp
      exact hp
    · have hx : ix (markL h.Writes.length l) (a : Int) = decide ((a : Int) ∈ l) := ix_markL ha
      have go : cut_relation_before_W (relP h) (a : Int) ((b.toNat : Nat) : Int) fun v4 => (v4 = true → inX (a : Int) (markL h.Writes.length l).length ∧ (¬ (ix (markL h.Writes.length l) (a : Int) = true) → Φ false) ∧ (¬ (¬ (ix (markL h.Writes.length l) (a : Int) = true)) → inI ((a : Int) + 1) ∧ rec2 ((a : Int) + 1))) ∧ (¬ (v4 = true) → inI ((a : Int) + 1) ∧ rec2 ((a : Int) + 1)) := by
        refine cut_before_ok ha (by omega) ⟨fun t => ⟨iX (by omega) (by rw [markL_len]; omega), fun q => (hf ?_).2 rfl, fun q => ⟨iI (by omega) (by omega), ht ?_⟩⟩, fun t => ⟨iI (by omega) (by omega), ht ?_⟩⟩
        · rw [hx] at q
          show (!befC h a b.toNat || decide ((a : Int) ∈ l)) = false
          rw [t, Bool.eq_false_iff.2 q]; rfl
        · rw [hx] at q
          show (!befC h a b.toNat || decide ((a : Int) ∈ l)) = true
          rw [Classical.not_not.1 q, Bool.or_true]
        · show (!befC h a b.toNat || decide ((a : Int) ∈ l)) = true
          rw [Bool.eq_false_iff.2 t]; rfl
      rw [e] at go
      exact go
theorem cutFrontier_rel {h : api_History} {l : List Int} {Φ : List Int × Int → Prop} (hh : SmallH h) (hz : histE h = 0) (he : LoopW (cut_Frontier_L4 h l (issW h) (ackW h) Φ) (0, [])) :
    LoopW (cut_Frontier_L3 h l Φ) (0, List.replicate h.Writes.length (h.Events.length : Int), List.replicate h.Writes.length (h.Events.length : Int)) := by
  have hev := hh.ev
  refine LoopW.upT h.Events.length (fun k => ((k : Int), relL h.Events 0 h.Writes.length h.Events.length k, relL h.Events 1 h.Writes.length h.Events.length k)) (by rw [relL_zero, relL_zero]; rfl) (fun k rec hk hr => ⟨fun _ => ⟨iX (by omega) (by omega), fun q => ?_, fun q => ?_⟩, fun r => by omega⟩) fun rec => ⟨fun r => by omega, fun _ => ⟨fun r => absurd rfl r, fun _ => he⟩⟩
  · obtain ⟨w, e1, e2, e3, e4⟩ := (ev_put hz (N := (h.Events.length : Int)) hk).1 q
    refine ⟨iX (by rw [e1]; omega) (by rw [e1, relL_len]; omega), iI (by omega) (by omega), hr _ ?_⟩
    rw [e1, e3, e4]; rfl
  · obtain ⟨w, e1, e2, e3, e4⟩ := (ev_put hz (N := (h.Events.length : Int)) hk).2 q
    refine ⟨iX (by rw [e1]; omega) (by rw [e1, relL_len]; omega), iI (by omega) (by omega), hr _ ?_⟩
    rw [e1, e3, e4]; rfl
theorem cutFrontier_clo {h : api_History} {l : List Int} {Φ : List Int × Int → Prop} (hw : h.Writes.length ≤ 4096) (hs : ∀ j, j < ([l] : List (List Int)).length → isSetB (ix ([l] : List (List Int)) (j : Int)) (h.Writes.length : Int) = true)
    (kF : ∀ j, j < ([l] : List (List Int)).length → closB h (ix ([l] : List (List Int)) (j : Int)) = false → cut_Frontier_J5 h (issW h) (ackW h) ([l].map (markL h.Writes.length)) Φ true)
    (kT : (∀ j, j < ([l] : List (List Int)).length → closB h (ix ([l] : List (List Int)) (j : Int)) = true) → cut_Frontier_J5 h (issW h) (ackW h) ([l].map (markL h.Writes.length)) Φ false) : LoopW (cut_Frontier_L8 h (issW h) (ackW h) ([l].map (markL h.Writes.length)) Φ) 0 := by
  have hx : ∀ j, j < ([l] : List (List Int)).length → ix ([l].map (markL h.Writes.length)) (j : Int) = markL h.Writes.length (ix ([l] : List (List Int)) (j : Int)) := fun j hj => by
    rw [ix_get (by rw [List.length_map]; exact hj), List.getElem_map, ix_get hj]
  have ln : ([l].map (markL h.Writes.length)).length = ([l] : List (List Int)).length := List.length_map _
  have sm : ([l] : List (List Int)).length ≤ 2 := by simp
  have t0 : decide (0 ≤ ((-1 : Int))) = false := by decide
  refine LoopW.upI ([l] : List (List Int)).length (fun k => (k : Int)) (fun k => ∀ j, j < k → closB h (ix ([l] : List (List Int)) (j : Int)) = true) rfl (fun j hj => absurd hj (Nat.not_lt_zero j)) (fun k rec hk hI hr => ⟨fun _ => ⟨iX (by omega) (by omega), ?_⟩, fun r => absurd (show (k : Int) < (([l].map (markL h.Writes.length)).length : Int) by omega) r⟩) fun rec hI => ⟨fun r => absurd r (by omega), fun _ => by rw [t0]; exact kT hI⟩
  rw [hx k hk]
  refine cut_closed_ok hw (hs k hk) ⟨fun q => ?_, fun q => ⟨iI (by omega) (by omega), hr (fun j hj => ?_) _ rfl⟩⟩
  · rw [decide_eq_true (show (0 : Int) ≤ (k : Int) by omega)]
    exact kF k hk (Bool.eq_false_iff.2 q)
  · rcases Nat.lt_or_ge j k with c | c
    · exact hI j c
    · obtain rfl : j = k := by omega
      exact Classical.not_not.1 q
theorem cutFrontier_mks {h : api_History} {l : List Int} {Φ : List Int × Int → Prop} (hw : h.Writes.length ≤ 4096) (hl : ∀ j, j < ([l] : List (List Int)).length → (ix ([l] : List (List Int)) (j : Int)).length ≤ 1000000)
    (k2 : ∀ j, j < ([l] : List (List Int)).length → isSetB (ix ([l] : List (List Int)) (j : Int)) (h.Writes.length : Int) = false → Φ ([], 2))
    (kF : (∀ j, j < ([l] : List (List Int)).length → isSetB (ix ([l] : List (List Int)) (j : Int)) (h.Writes.length : Int) = true) → ∀ j, j < ([l] : List (List Int)).length → closB h (ix ([l] : List (List Int)) (j : Int)) = false → cut_Frontier_J5 h (issW h) (ackW h) ([l].map (markL h.Writes.length)) Φ true)
    (kT : (∀ j, j < ([l] : List (List Int)).length → isSetB (ix ([l] : List (List Int)) (j : Int)) (h.Writes.length : Int) = true) → (∀ j, j < ([l] : List (List Int)).length → closB h (ix ([l] : List (List Int)) (j : Int)) = true) → cut_Frontier_J5 h (issW h) (ackW h) ([l].map (markL h.Writes.length)) Φ false) : LoopW (cut_Frontier_L4 h l (issW h) (ackW h) Φ) (0, []) := by
  have sm : ([l] : List (List Int)).length ≤ 2 := by simp
  have l1 : ∀ x : List Bool, [x].length = 1 := fun _ => rfl
  refine LoopW.upI ([l] : List (List Int)).length (fun k => ((k : Int), (([l] : List (List Int)).take k).map (markL h.Writes.length))) (fun k => ∀ j, j < k → isSetB (ix ([l] : List (List Int)) (j : Int)) (h.Writes.length : Int) = true) rfl (fun j hj => absurd hj (Nat.not_lt_zero j)) (fun k rec hk hI hr => ⟨fun _ => ⟨iX (by omega) (by omega), ?_⟩, fun r => absurd (show (k : Int) < (([l] : List (List Int)).length : Int) by omega) r⟩) fun rec hI => ⟨fun r => absurd r (by omega), fun _ => by rw [List.take_length]; exact cutFrontier_clo hw hI (kF hI) (kT hI)⟩
  refine cut_relation_mark_ok (r := relP h) rfl (by omega) (hl k hk) (fun t => ?_) fun t => ?_
  · refine ⟨fun u => absurd rfl u, fun _ => ⟨⟨?_, ?_⟩, iI (by omega) (by omega), hr (fun j hj => ?_) _ ?_⟩⟩
    · rw [List.length_append, List.length_map, List.length_take, l1]; omega
    · rw [List.length_append, List.length_map, List.length_take, l1]; unfold maxLen; omega
    · rcases Nat.lt_or_ge j k with c | c
      · exact hI j c
      · obtain rfl : j = k := by omega
        exact t
    · rw [take_ix hk, List.map_append]; rfl
  · exact ⟨fun _ => ⟨fun _ => k2 k hk t, fun r => absurd (by decide) r⟩, fun u => absurd (fun v => Bool.noConfusion v) u⟩
theorem cutFrontier_all {h : api_History} {l : List Int} {Φ : List Int × Int → Prop} (hh : SmallH h) (hl : ∀ j, j < ([l] : List (List Int)).length → (ix ([l] : List (List Int)) (j : Int)).length ≤ 1000000)
    (k1 : histE h ≠ 0 → Φ ([], histE h))
    (k2 : histE h = 0 → ∀ j, j < ([l] : List (List Int)).length → isSetB (ix ([l] : List (List Int)) (j : Int)) (h.Writes.length : Int) = false → Φ ([], 2))
    (kF : histE h = 0 → (∀ j, j < ([l] : List (List Int)).length → isSetB (ix ([l] : List (List Int)) (j : Int)) (h.Writes.length : Int) = true) → ∀ j, j < ([l] : List (List Int)).length → closB h (ix ([l] : List (List Int)) (j : Int)) = false → cut_Frontier_J5 h (issW h) (ackW h) ([l].map (markL h.Writes.length)) Φ true)
    (kT : histE h = 0 → (∀ j, j < ([l] : List (List Int)).length → isSetB (ix ([l] : List (List Int)) (j : Int)) (h.Writes.length : Int) = true) → (∀ j, j < ([l] : List (List Int)).length → closB h (ix ([l] : List (List Int)) (j : Int)) = true) → cut_Frontier_J5 h (issW h) (ackW h) ([l].map (markL h.Writes.length)) Φ false) : cut_Frontier_W h l Φ := by
  refine history_Check_ok hh ⟨fun q => ⟨fun _ => ⟨fun _ => k1 q, fun r => absurd q r⟩, fun r => absurd q r⟩, fun q => ?_⟩
  have hz : histE h = 0 := Classical.not_not.1 q
  have hw := hist_wr hz
  exact ⟨_, slices_Repeat_int_ok (by omega) rfl, _, slices_Repeat_int_ok (by omega) rfl, cutFrontier_rel hh hz (cutFrontier_mks hw hl (k2 hz) (kF hz) (kT hz))⟩
theorem cutAge_rel {h : api_History} {l : List Int} {Φ : Int × Int → Prop} (hh : SmallH h) (hz : histE h = 0) (he : LoopW (cut_Age_L4 h l (issW h) (ackW h) Φ) (0, [])) :
    LoopW (cut_Age_L3 h l Φ) (0, List.replicate h.Writes.length (h.Events.length : Int), List.replicate h.Writes.length (h.Events.length : Int)) := by
  have hev := hh.ev
  refine LoopW.upT h.Events.length (fun k => ((k : Int), relL h.Events 0 h.Writes.length h.Events.length k, relL h.Events 1 h.Writes.length h.Events.length k)) (by rw [relL_zero, relL_zero]; rfl) (fun k rec hk hr => ⟨fun _ => ⟨iX (by omega) (by omega), fun q => ?_, fun q => ?_⟩, fun r => by omega⟩) fun rec => ⟨fun r => by omega, fun _ => ⟨fun r => absurd rfl r, fun _ => he⟩⟩
  · obtain ⟨w, e1, e2, e3, e4⟩ := (ev_put hz (N := (h.Events.length : Int)) hk).1 q
    refine ⟨iX (by rw [e1]; omega) (by rw [e1, relL_len]; omega), iI (by omega) (by omega), hr _ ?_⟩
    rw [e1, e3, e4]; rfl
  · obtain ⟨w, e1, e2, e3, e4⟩ := (ev_put hz (N := (h.Events.length : Int)) hk).2 q
    refine ⟨iX (by rw [e1]; omega) (by rw [e1, relL_len]; omega), iI (by omega) (by omega), hr _ ?_⟩
    rw [e1, e3, e4]; rfl
theorem cutAge_clo {h : api_History} {l : List Int} {Φ : Int × Int → Prop} (hw : h.Writes.length ≤ 4096) (hs : ∀ j, j < ([l] : List (List Int)).length → isSetB (ix ([l] : List (List Int)) (j : Int)) (h.Writes.length : Int) = true)
    (kF : ∀ j, j < ([l] : List (List Int)).length → closB h (ix ([l] : List (List Int)) (j : Int)) = false → cut_Age_J5 h (ackW h) ([l].map (markL h.Writes.length)) Φ true)
    (kT : (∀ j, j < ([l] : List (List Int)).length → closB h (ix ([l] : List (List Int)) (j : Int)) = true) → cut_Age_J5 h (ackW h) ([l].map (markL h.Writes.length)) Φ false) : LoopW (cut_Age_L8 h (issW h) (ackW h) ([l].map (markL h.Writes.length)) Φ) 0 := by
  have hx : ∀ j, j < ([l] : List (List Int)).length → ix ([l].map (markL h.Writes.length)) (j : Int) = markL h.Writes.length (ix ([l] : List (List Int)) (j : Int)) := fun j hj => by
    rw [ix_get (by rw [List.length_map]; exact hj), List.getElem_map, ix_get hj]
  have ln : ([l].map (markL h.Writes.length)).length = ([l] : List (List Int)).length := List.length_map _
  have sm : ([l] : List (List Int)).length ≤ 2 := by simp
  have t0 : decide (0 ≤ ((-1 : Int))) = false := by decide
  refine LoopW.upI ([l] : List (List Int)).length (fun k => (k : Int)) (fun k => ∀ j, j < k → closB h (ix ([l] : List (List Int)) (j : Int)) = true) rfl (fun j hj => absurd hj (Nat.not_lt_zero j)) (fun k rec hk hI hr => ⟨fun _ => ⟨iX (by omega) (by omega), ?_⟩, fun r => absurd (show (k : Int) < (([l].map (markL h.Writes.length)).length : Int) by omega) r⟩) fun rec hI => ⟨fun r => absurd r (by omega), fun _ => by rw [t0]; exact kT hI⟩
  rw [hx k hk]
  refine cut_closed_ok hw (hs k hk) ⟨fun q => ?_, fun q => ⟨iI (by omega) (by omega), hr (fun j hj => ?_) _ rfl⟩⟩
  · rw [decide_eq_true (show (0 : Int) ≤ (k : Int) by omega)]
    exact kF k hk (Bool.eq_false_iff.2 q)
  · rcases Nat.lt_or_ge j k with c | c
    · exact hI j c
    · obtain rfl : j = k := by omega
      exact Classical.not_not.1 q
theorem cutAge_mks {h : api_History} {l : List Int} {Φ : Int × Int → Prop} (hw : h.Writes.length ≤ 4096) (hl : ∀ j, j < ([l] : List (List Int)).length → (ix ([l] : List (List Int)) (j : Int)).length ≤ 1000000)
    (k2 : ∀ j, j < ([l] : List (List Int)).length → isSetB (ix ([l] : List (List Int)) (j : Int)) (h.Writes.length : Int) = false → Φ (0, 2))
    (kF : (∀ j, j < ([l] : List (List Int)).length → isSetB (ix ([l] : List (List Int)) (j : Int)) (h.Writes.length : Int) = true) → ∀ j, j < ([l] : List (List Int)).length → closB h (ix ([l] : List (List Int)) (j : Int)) = false → cut_Age_J5 h (ackW h) ([l].map (markL h.Writes.length)) Φ true)
    (kT : (∀ j, j < ([l] : List (List Int)).length → isSetB (ix ([l] : List (List Int)) (j : Int)) (h.Writes.length : Int) = true) → (∀ j, j < ([l] : List (List Int)).length → closB h (ix ([l] : List (List Int)) (j : Int)) = true) → cut_Age_J5 h (ackW h) ([l].map (markL h.Writes.length)) Φ false) : LoopW (cut_Age_L4 h l (issW h) (ackW h) Φ) (0, []) := by
  have sm : ([l] : List (List Int)).length ≤ 2 := by simp
  have l1 : ∀ x : List Bool, [x].length = 1 := fun _ => rfl
  refine LoopW.upI ([l] : List (List Int)).length (fun k => ((k : Int), (([l] : List (List Int)).take k).map (markL h.Writes.length))) (fun k => ∀ j, j < k → isSetB (ix ([l] : List (List Int)) (j : Int)) (h.Writes.length : Int) = true) rfl (fun j hj => absurd hj (Nat.not_lt_zero j)) (fun k rec hk hI hr => ⟨fun _ => ⟨iX (by omega) (by omega), ?_⟩, fun r => absurd (show (k : Int) < (([l] : List (List Int)).length : Int) by omega) r⟩) fun rec hI => ⟨fun r => absurd r (by omega), fun _ => by rw [List.take_length]; exact cutAge_clo hw hI (kF hI) (kT hI)⟩
  refine cut_relation_mark_ok (r := relP h) rfl (by omega) (hl k hk) (fun t => ?_) fun t => ?_
  · refine ⟨fun u => absurd rfl u, fun _ => ⟨⟨?_, ?_⟩, iI (by omega) (by omega), hr (fun j hj => ?_) _ ?_⟩⟩
    · rw [List.length_append, List.length_map, List.length_take, l1]; omega
    · rw [List.length_append, List.length_map, List.length_take, l1]; unfold maxLen; omega
    · rcases Nat.lt_or_ge j k with c | c
      · exact hI j c
      · obtain rfl : j = k := by omega
        exact t
    · rw [take_ix hk, List.map_append]; rfl
  · exact ⟨fun _ => ⟨fun _ => k2 k hk t, fun r => absurd (by decide) r⟩, fun u => absurd (fun v => Bool.noConfusion v) u⟩
theorem cutAge_all {h : api_History} {l : List Int} {Φ : Int × Int → Prop} (hh : SmallH h) (hl : ∀ j, j < ([l] : List (List Int)).length → (ix ([l] : List (List Int)) (j : Int)).length ≤ 1000000)
    (k1 : histE h ≠ 0 → Φ (0, histE h))
    (k2 : histE h = 0 → ∀ j, j < ([l] : List (List Int)).length → isSetB (ix ([l] : List (List Int)) (j : Int)) (h.Writes.length : Int) = false → Φ (0, 2))
    (kF : histE h = 0 → (∀ j, j < ([l] : List (List Int)).length → isSetB (ix ([l] : List (List Int)) (j : Int)) (h.Writes.length : Int) = true) → ∀ j, j < ([l] : List (List Int)).length → closB h (ix ([l] : List (List Int)) (j : Int)) = false → cut_Age_J5 h (ackW h) ([l].map (markL h.Writes.length)) Φ true)
    (kT : histE h = 0 → (∀ j, j < ([l] : List (List Int)).length → isSetB (ix ([l] : List (List Int)) (j : Int)) (h.Writes.length : Int) = true) → (∀ j, j < ([l] : List (List Int)).length → closB h (ix ([l] : List (List Int)) (j : Int)) = true) → cut_Age_J5 h (ackW h) ([l].map (markL h.Writes.length)) Φ false) : cut_Age_W h l Φ := by
  refine history_Check_ok hh ⟨fun q => ⟨fun _ => ⟨fun _ => k1 q, fun r => absurd q r⟩, fun r => absurd q r⟩, fun q => ?_⟩
  have hz : histE h = 0 := Classical.not_not.1 q
  have hw := hist_wr hz
  exact ⟨_, slices_Repeat_int_ok (by omega) rfl, _, slices_Repeat_int_ok (by omega) rfl, cutAge_rel hh hz (cutAge_mks hw hl (k2 hz) (kF hz) (kT hz))⟩
theorem cutJoin_rel {h : api_History} {a b : List Int} {Φ : List Int × Int → Prop} (hh : SmallH h) (hz : histE h = 0) (he : LoopW (cut_Join_L4 h a b (issW h) (ackW h) Φ) (0, [])) :
    LoopW (cut_Join_L3 h a b Φ) (0, List.replicate h.Writes.length (h.Events.length : Int), List.replicate h.Writes.length (h.Events.length : Int)) := by
  have hev := hh.ev
  refine LoopW.upT h.Events.length (fun k => ((k : Int), relL h.Events 0 h.Writes.length h.Events.length k, relL h.Events 1 h.Writes.length h.Events.length k)) (by rw [relL_zero, relL_zero]; rfl) (fun k rec hk hr => ⟨fun _ => ⟨iX (by omega) (by omega), fun q => ?_, fun q => ?_⟩, fun r => by omega⟩) fun rec => ⟨fun r => by omega, fun _ => ⟨fun r => absurd rfl r, fun _ => he⟩⟩
  · obtain ⟨w, e1, e2, e3, e4⟩ := (ev_put hz (N := (h.Events.length : Int)) hk).1 q
    refine ⟨iX (by rw [e1]; omega) (by rw [e1, relL_len]; omega), iI (by omega) (by omega), hr _ ?_⟩
    rw [e1, e3, e4]; rfl
  · obtain ⟨w, e1, e2, e3, e4⟩ := (ev_put hz (N := (h.Events.length : Int)) hk).2 q
    refine ⟨iX (by rw [e1]; omega) (by rw [e1, relL_len]; omega), iI (by omega) (by omega), hr _ ?_⟩
    rw [e1, e3, e4]; rfl
theorem cutJoin_clo {h : api_History} {a b : List Int} {Φ : List Int × Int → Prop} (hw : h.Writes.length ≤ 4096) (hs : ∀ j, j < ([a, b] : List (List Int)).length → isSetB (ix ([a, b] : List (List Int)) (j : Int)) (h.Writes.length : Int) = true)
    (kF : ∀ j, j < ([a, b] : List (List Int)).length → closB h (ix ([a, b] : List (List Int)) (j : Int)) = false → cut_Join_J5 h ([a, b].map (markL h.Writes.length)) Φ true)
    (kT : (∀ j, j < ([a, b] : List (List Int)).length → closB h (ix ([a, b] : List (List Int)) (j : Int)) = true) → cut_Join_J5 h ([a, b].map (markL h.Writes.length)) Φ false) : LoopW (cut_Join_L7 h (issW h) (ackW h) ([a, b].map (markL h.Writes.length)) Φ) 0 := by
  have hx : ∀ j, j < ([a, b] : List (List Int)).length → ix ([a, b].map (markL h.Writes.length)) (j : Int) = markL h.Writes.length (ix ([a, b] : List (List Int)) (j : Int)) := fun j hj => by
    rw [ix_get (by rw [List.length_map]; exact hj), List.getElem_map, ix_get hj]
  have ln : ([a, b].map (markL h.Writes.length)).length = ([a, b] : List (List Int)).length := List.length_map _
  have sm : ([a, b] : List (List Int)).length ≤ 2 := by simp
  have t0 : decide (0 ≤ ((-1 : Int))) = false := by decide
  refine LoopW.upI ([a, b] : List (List Int)).length (fun k => (k : Int)) (fun k => ∀ j, j < k → closB h (ix ([a, b] : List (List Int)) (j : Int)) = true) rfl (fun j hj => absurd hj (Nat.not_lt_zero j)) (fun k rec hk hI hr => ⟨fun _ => ⟨iX (by omega) (by omega), ?_⟩, fun r => absurd (show (k : Int) < (([a, b].map (markL h.Writes.length)).length : Int) by omega) r⟩) fun rec hI => ⟨fun r => absurd r (by omega), fun _ => by rw [t0]; exact kT hI⟩
  rw [hx k hk]
  refine cut_closed_ok hw (hs k hk) ⟨fun q => ?_, fun q => ⟨iI (by omega) (by omega), hr (fun j hj => ?_) _ rfl⟩⟩
  · rw [decide_eq_true (show (0 : Int) ≤ (k : Int) by omega)]
    exact kF k hk (Bool.eq_false_iff.2 q)
  · rcases Nat.lt_or_ge j k with c | c
    · exact hI j c
    · obtain rfl : j = k := by omega
      exact Classical.not_not.1 q
theorem cutJoin_mks {h : api_History} {a b : List Int} {Φ : List Int × Int → Prop} (hw : h.Writes.length ≤ 4096) (hl : ∀ j, j < ([a, b] : List (List Int)).length → (ix ([a, b] : List (List Int)) (j : Int)).length ≤ 1000000)
    (k2 : ∀ j, j < ([a, b] : List (List Int)).length → isSetB (ix ([a, b] : List (List Int)) (j : Int)) (h.Writes.length : Int) = false → Φ ([], 2))
    (kF : (∀ j, j < ([a, b] : List (List Int)).length → isSetB (ix ([a, b] : List (List Int)) (j : Int)) (h.Writes.length : Int) = true) → ∀ j, j < ([a, b] : List (List Int)).length → closB h (ix ([a, b] : List (List Int)) (j : Int)) = false → cut_Join_J5 h ([a, b].map (markL h.Writes.length)) Φ true)
    (kT : (∀ j, j < ([a, b] : List (List Int)).length → isSetB (ix ([a, b] : List (List Int)) (j : Int)) (h.Writes.length : Int) = true) → (∀ j, j < ([a, b] : List (List Int)).length → closB h (ix ([a, b] : List (List Int)) (j : Int)) = true) → cut_Join_J5 h ([a, b].map (markL h.Writes.length)) Φ false) : LoopW (cut_Join_L4 h a b (issW h) (ackW h) Φ) (0, []) := by
  have sm : ([a, b] : List (List Int)).length ≤ 2 := by simp
  have l1 : ∀ x : List Bool, [x].length = 1 := fun _ => rfl
  refine LoopW.upI ([a, b] : List (List Int)).length (fun k => ((k : Int), (([a, b] : List (List Int)).take k).map (markL h.Writes.length))) (fun k => ∀ j, j < k → isSetB (ix ([a, b] : List (List Int)) (j : Int)) (h.Writes.length : Int) = true) rfl (fun j hj => absurd hj (Nat.not_lt_zero j)) (fun k rec hk hI hr => ⟨fun _ => ⟨iX (by omega) (by omega), ?_⟩, fun r => absurd (show (k : Int) < (([a, b] : List (List Int)).length : Int) by omega) r⟩) fun rec hI => ⟨fun r => absurd r (by omega), fun _ => by rw [List.take_length]; exact cutJoin_clo hw hI (kF hI) (kT hI)⟩
  refine cut_relation_mark_ok (r := relP h) rfl (by omega) (hl k hk) (fun t => ?_) fun t => ?_
  · refine ⟨fun u => absurd rfl u, fun _ => ⟨⟨?_, ?_⟩, iI (by omega) (by omega), hr (fun j hj => ?_) _ ?_⟩⟩
    · rw [List.length_append, List.length_map, List.length_take, l1]; omega
    · rw [List.length_append, List.length_map, List.length_take, l1]; unfold maxLen; omega
    · rcases Nat.lt_or_ge j k with c | c
      · exact hI j c
      · obtain rfl : j = k := by omega
        exact t
    · rw [take_ix hk, List.map_append]; rfl
  · exact ⟨fun _ => ⟨fun _ => k2 k hk t, fun r => absurd (by decide) r⟩, fun u => absurd (fun v => Bool.noConfusion v) u⟩
theorem cutJoin_all {h : api_History} {a b : List Int} {Φ : List Int × Int → Prop} (hh : SmallH h) (hl : ∀ j, j < ([a, b] : List (List Int)).length → (ix ([a, b] : List (List Int)) (j : Int)).length ≤ 1000000)
    (k1 : histE h ≠ 0 → Φ ([], histE h))
    (k2 : histE h = 0 → ∀ j, j < ([a, b] : List (List Int)).length → isSetB (ix ([a, b] : List (List Int)) (j : Int)) (h.Writes.length : Int) = false → Φ ([], 2))
    (kF : histE h = 0 → (∀ j, j < ([a, b] : List (List Int)).length → isSetB (ix ([a, b] : List (List Int)) (j : Int)) (h.Writes.length : Int) = true) → ∀ j, j < ([a, b] : List (List Int)).length → closB h (ix ([a, b] : List (List Int)) (j : Int)) = false → cut_Join_J5 h ([a, b].map (markL h.Writes.length)) Φ true)
    (kT : histE h = 0 → (∀ j, j < ([a, b] : List (List Int)).length → isSetB (ix ([a, b] : List (List Int)) (j : Int)) (h.Writes.length : Int) = true) → (∀ j, j < ([a, b] : List (List Int)).length → closB h (ix ([a, b] : List (List Int)) (j : Int)) = true) → cut_Join_J5 h ([a, b].map (markL h.Writes.length)) Φ false) : cut_Join_W h a b Φ := by
  refine history_Check_ok hh ⟨fun q => ⟨fun _ => ⟨fun _ => k1 q, fun r => absurd q r⟩, fun r => absurd q r⟩, fun q => ?_⟩
  have hz : histE h = 0 := Classical.not_not.1 q
  have hw := hist_wr hz
  exact ⟨_, slices_Repeat_int_ok (by omega) rfl, _, slices_Repeat_int_ok (by omega) rfl, cutJoin_rel hh hz (cutJoin_mks hw hl (k2 hz) (kF hz) (kT hz))⟩
theorem cutMeet_rel {h : api_History} {a b : List Int} {Φ : List Int × Int → Prop} (hh : SmallH h) (hz : histE h = 0) (he : LoopW (cut_Meet_L4 h a b (issW h) (ackW h) Φ) (0, [])) :
    LoopW (cut_Meet_L3 h a b Φ) (0, List.replicate h.Writes.length (h.Events.length : Int), List.replicate h.Writes.length (h.Events.length : Int)) := by
  have hev := hh.ev
  refine LoopW.upT h.Events.length (fun k => ((k : Int), relL h.Events 0 h.Writes.length h.Events.length k, relL h.Events 1 h.Writes.length h.Events.length k)) (by rw [relL_zero, relL_zero]; rfl) (fun k rec hk hr => ⟨fun _ => ⟨iX (by omega) (by omega), fun q => ?_, fun q => ?_⟩, fun r => by omega⟩) fun rec => ⟨fun r => by omega, fun _ => ⟨fun r => absurd rfl r, fun _ => he⟩⟩
  · obtain ⟨w, e1, e2, e3, e4⟩ := (ev_put hz (N := (h.Events.length : Int)) hk).1 q
    refine ⟨iX (by rw [e1]; omega) (by rw [e1, relL_len]; omega), iI (by omega) (by omega), hr _ ?_⟩
    rw [e1, e3, e4]; rfl
  · obtain ⟨w, e1, e2, e3, e4⟩ := (ev_put hz (N := (h.Events.length : Int)) hk).2 q
    refine ⟨iX (by rw [e1]; omega) (by rw [e1, relL_len]; omega), iI (by omega) (by omega), hr _ ?_⟩
    rw [e1, e3, e4]; rfl
theorem cutMeet_clo {h : api_History} {a b : List Int} {Φ : List Int × Int → Prop} (hw : h.Writes.length ≤ 4096) (hs : ∀ j, j < ([a, b] : List (List Int)).length → isSetB (ix ([a, b] : List (List Int)) (j : Int)) (h.Writes.length : Int) = true)
    (kF : ∀ j, j < ([a, b] : List (List Int)).length → closB h (ix ([a, b] : List (List Int)) (j : Int)) = false → cut_Meet_J5 h ([a, b].map (markL h.Writes.length)) Φ true)
    (kT : (∀ j, j < ([a, b] : List (List Int)).length → closB h (ix ([a, b] : List (List Int)) (j : Int)) = true) → cut_Meet_J5 h ([a, b].map (markL h.Writes.length)) Φ false) : LoopW (cut_Meet_L7 h (issW h) (ackW h) ([a, b].map (markL h.Writes.length)) Φ) 0 := by
  have hx : ∀ j, j < ([a, b] : List (List Int)).length → ix ([a, b].map (markL h.Writes.length)) (j : Int) = markL h.Writes.length (ix ([a, b] : List (List Int)) (j : Int)) := fun j hj => by
    rw [ix_get (by rw [List.length_map]; exact hj), List.getElem_map, ix_get hj]
  have ln : ([a, b].map (markL h.Writes.length)).length = ([a, b] : List (List Int)).length := List.length_map _
  have sm : ([a, b] : List (List Int)).length ≤ 2 := by simp
  have t0 : decide (0 ≤ ((-1 : Int))) = false := by decide
  refine LoopW.upI ([a, b] : List (List Int)).length (fun k => (k : Int)) (fun k => ∀ j, j < k → closB h (ix ([a, b] : List (List Int)) (j : Int)) = true) rfl (fun j hj => absurd hj (Nat.not_lt_zero j)) (fun k rec hk hI hr => ⟨fun _ => ⟨iX (by omega) (by omega), ?_⟩, fun r => absurd (show (k : Int) < (([a, b].map (markL h.Writes.length)).length : Int) by omega) r⟩) fun rec hI => ⟨fun r => absurd r (by omega), fun _ => by rw [t0]; exact kT hI⟩
  rw [hx k hk]
  refine cut_closed_ok hw (hs k hk) ⟨fun q => ?_, fun q => ⟨iI (by omega) (by omega), hr (fun j hj => ?_) _ rfl⟩⟩
  · rw [decide_eq_true (show (0 : Int) ≤ (k : Int) by omega)]
    exact kF k hk (Bool.eq_false_iff.2 q)
  · rcases Nat.lt_or_ge j k with c | c
    · exact hI j c
    · obtain rfl : j = k := by omega
      exact Classical.not_not.1 q
theorem cutMeet_mks {h : api_History} {a b : List Int} {Φ : List Int × Int → Prop} (hw : h.Writes.length ≤ 4096) (hl : ∀ j, j < ([a, b] : List (List Int)).length → (ix ([a, b] : List (List Int)) (j : Int)).length ≤ 1000000)
    (k2 : ∀ j, j < ([a, b] : List (List Int)).length → isSetB (ix ([a, b] : List (List Int)) (j : Int)) (h.Writes.length : Int) = false → Φ ([], 2))
    (kF : (∀ j, j < ([a, b] : List (List Int)).length → isSetB (ix ([a, b] : List (List Int)) (j : Int)) (h.Writes.length : Int) = true) → ∀ j, j < ([a, b] : List (List Int)).length → closB h (ix ([a, b] : List (List Int)) (j : Int)) = false → cut_Meet_J5 h ([a, b].map (markL h.Writes.length)) Φ true)
    (kT : (∀ j, j < ([a, b] : List (List Int)).length → isSetB (ix ([a, b] : List (List Int)) (j : Int)) (h.Writes.length : Int) = true) → (∀ j, j < ([a, b] : List (List Int)).length → closB h (ix ([a, b] : List (List Int)) (j : Int)) = true) → cut_Meet_J5 h ([a, b].map (markL h.Writes.length)) Φ false) : LoopW (cut_Meet_L4 h a b (issW h) (ackW h) Φ) (0, []) := by
  have sm : ([a, b] : List (List Int)).length ≤ 2 := by simp
  have l1 : ∀ x : List Bool, [x].length = 1 := fun _ => rfl
  refine LoopW.upI ([a, b] : List (List Int)).length (fun k => ((k : Int), (([a, b] : List (List Int)).take k).map (markL h.Writes.length))) (fun k => ∀ j, j < k → isSetB (ix ([a, b] : List (List Int)) (j : Int)) (h.Writes.length : Int) = true) rfl (fun j hj => absurd hj (Nat.not_lt_zero j)) (fun k rec hk hI hr => ⟨fun _ => ⟨iX (by omega) (by omega), ?_⟩, fun r => absurd (show (k : Int) < (([a, b] : List (List Int)).length : Int) by omega) r⟩) fun rec hI => ⟨fun r => absurd r (by omega), fun _ => by rw [List.take_length]; exact cutMeet_clo hw hI (kF hI) (kT hI)⟩
  refine cut_relation_mark_ok (r := relP h) rfl (by omega) (hl k hk) (fun t => ?_) fun t => ?_
  · refine ⟨fun u => absurd rfl u, fun _ => ⟨⟨?_, ?_⟩, iI (by omega) (by omega), hr (fun j hj => ?_) _ ?_⟩⟩
    · rw [List.length_append, List.length_map, List.length_take, l1]; omega
    · rw [List.length_append, List.length_map, List.length_take, l1]; unfold maxLen; omega
    · rcases Nat.lt_or_ge j k with c | c
      · exact hI j c
      · obtain rfl : j = k := by omega
        exact t
    · rw [take_ix hk, List.map_append]; rfl
  · exact ⟨fun _ => ⟨fun _ => k2 k hk t, fun r => absurd (by decide) r⟩, fun u => absurd (fun v => Bool.noConfusion v) u⟩
theorem cutMeet_all {h : api_History} {a b : List Int} {Φ : List Int × Int → Prop} (hh : SmallH h) (hl : ∀ j, j < ([a, b] : List (List Int)).length → (ix ([a, b] : List (List Int)) (j : Int)).length ≤ 1000000)
    (k1 : histE h ≠ 0 → Φ ([], histE h))
    (k2 : histE h = 0 → ∀ j, j < ([a, b] : List (List Int)).length → isSetB (ix ([a, b] : List (List Int)) (j : Int)) (h.Writes.length : Int) = false → Φ ([], 2))
    (kF : histE h = 0 → (∀ j, j < ([a, b] : List (List Int)).length → isSetB (ix ([a, b] : List (List Int)) (j : Int)) (h.Writes.length : Int) = true) → ∀ j, j < ([a, b] : List (List Int)).length → closB h (ix ([a, b] : List (List Int)) (j : Int)) = false → cut_Meet_J5 h ([a, b].map (markL h.Writes.length)) Φ true)
    (kT : histE h = 0 → (∀ j, j < ([a, b] : List (List Int)).length → isSetB (ix ([a, b] : List (List Int)) (j : Int)) (h.Writes.length : Int) = true) → (∀ j, j < ([a, b] : List (List Int)).length → closB h (ix ([a, b] : List (List Int)) (j : Int)) = true) → cut_Meet_J5 h ([a, b].map (markL h.Writes.length)) Φ false) : cut_Meet_W h a b Φ := by
  refine history_Check_ok hh ⟨fun q => ⟨fun _ => ⟨fun _ => k1 q, fun r => absurd q r⟩, fun r => absurd q r⟩, fun q => ?_⟩
  have hz : histE h = 0 := Classical.not_not.1 q
  have hw := hist_wr hz
  exact ⟨_, slices_Repeat_int_ok (by omega) rfl, _, slices_Repeat_int_ok (by omega) rfl, cutMeet_rel hh hz (cutMeet_mks hw hl (k2 hz) (kF hz) (kT hz))⟩
def ckcR (h : api_History) (l : List Int) : Int := if histE h ≠ 0 then histE h else if isSetB l (h.Writes.length : Int) = false then 2 else if closB h l = false then 27 else 0
def ctsR (h : api_History) (a b : List Int) : Int := if histE h ≠ 0 then histE h else if isSetB a (h.Writes.length : Int) = false ∨ isSetB b (h.Writes.length : Int) = false then 2 else if closB h a = false ∨ closB h b = false then 27 else 0
def joinC (h : api_History) (a b : List Int) : List Int := selL h.Writes.length fun w => decide ((w : Int) ∈ a) || decide ((w : Int) ∈ b)
def meetC (h : api_History) (a b : List Int) : List Int := selL h.Writes.length fun w => decide ((w : Int) ∈ a) && decide ((w : Int) ∈ b)
def joinR (h : api_History) (a b : List Int) : List Int × Int := if ctsR h a b ≠ 0 then ([], ctsR h a b) else (joinC h a b, 0)
def meetR (h : api_History) (a b : List Int) : List Int × Int := if ctsR h a b ≠ 0 then ([], ctsR h a b) else (meetC h a b, 0)
theorem one_lt {l : List Int} {p : Nat → Prop} (h : p 0) : ∀ j, j < ([l] : List (List Int)).length → p j := by
  intro j hj
  have hj : j < 1 := hj
  obtain rfl : j = 0 := by omega
  exact h
theorem two_lt {a b : List Int} {p : Nat → Prop} (h0 : p 0) (h1 : p 1) : ∀ j, j < ([a, b] : List (List Int)).length → p j := by
  intro j hj
  have hj : j < 2 := hj
  rcases (show j = 0 ∨ j = 1 by omega) with rfl | rfl
  · exact h0
  · exact h1
def clsP (h : api_History) (l : List Int) (b : Nat) : Bool := allN (fun a => !befP h a b || decide ((a : Int) ∈ l)) h.Writes.length
def closP (h : api_History) (l : List Int) : Bool := l.all fun b => clsP h l b.toNat
theorem closB_eq {h : api_History} (hz : histE h = 0) {l : List Int} (hl : isSetB l (h.Writes.length : Int) = true) : closB h l = closP h l := by
  unfold closB closP
  rw [Bool.eq_iff_iff, List.all_eq_true, List.all_eq_true]
  refine forall_congr' fun x => forall_congr' fun hx => ?_
  have m := isSetB_mem hl hx
  have e : clsF h l x.toNat = clsP h l x.toNat := allN_congr fun a ha => by rw [befC_eq hz ha (by omega)]
  rw [e]
theorem ref15_before_ok {h : api_History} {a b : Nat} {Φ : Bool → Prop} (hh : SmallH h) (hΦ : Φ (befP h a b)) : ref15_before_W h (a : Int) (b : Int) Φ := by
  have hev := hh.ev
  unfold befP at hΦ
  refine ⟨_, rfl, _, ref15_At_ok (by omega) rfl, _, rfl, _, ref15_At_ok (by omega) rfl, fun q => ?_, fun q => ?_⟩
  · have e : decide (0 ≤ atN h.Events h.Events.length ⟨1, (a : Int)⟩ ∧ atN h.Events h.Events.length ⟨1, (a : Int)⟩ < atN h.Events h.Events.length ⟨0, (b : Int)⟩) = decide (atN h.Events h.Events.length ⟨1, (a : Int)⟩ < atN h.Events h.Events.length ⟨0, (b : Int)⟩) := decide_eq_decide.2 ⟨fun t => t.2, fun t => ⟨q, t⟩⟩
    rw [e] at hΦ; exact hΦ
  · rw [decide_eq_false fun t => q t.1] at hΦ; exact hΦ
theorem ref15_closed_ok {h : api_History} {l : List Int} {Φ : Bool → Prop} (hh : SmallH h) (hz : histE h = 0) (hs : isSetB l (h.Writes.length : Int) = true) (hΦ : Φ (closP h l)) : ref15_closed_W h l Φ := by
  have hw := hist_wr hz
  have ll := isSetB_le hs (by omega)
  refine LoopW.allE l (fun b => clsP h l b.toNat) hΦ (fun i rec hi hf ht => ⟨fun _ => ?_, fun r => absurd (show (i : Int) < (l.length : Int) by omega) r⟩) fun rec h0 => ⟨fun r => absurd r (by omega), fun _ => h0⟩
  have m := isSetB_at hs hi
  have e : ((ix l (i : Int)).toNat : Int) = ix l (i : Int) := Int.toNat_of_nonneg m.1
  refine LoopW.allL (Φ := fun c => (c = true → rec ((i : Int) + 1)) ∧ (c = false → Φ false)) h.Writes.length (fun a => !befP h a (ix l (i : Int)).toNat || decide ((a : Int) ∈ l)) ⟨fun t => ht t, fun t => hf t⟩ (fun a rec2 ha _ hf2 ht2 => ⟨fun _ => ⟨iX (by omega) (by omega), (befP h a (ix l (i : Int)).toNat, ()), ?_, fun t => ⟨_, ref15_Has_ok (by omega) rfl, fun q => (hf2 ?_).2 rfl, fun q => ⟨iI (by omega) (by omega), ht2 ?_⟩⟩, fun t => ⟨iI (by omega) (by omega), ht2 ?_⟩⟩, fun r => absurd (show (a : Int) < (h.Writes.length : Int) by omega) r⟩) fun rec2 h1 _ => ⟨fun r => absurd r (by show ¬ ((h.Writes.length : Int) < (h.Writes.length : Int)); omega), fun _ => ⟨iI (by omega) (by omega), h1.1 rfl⟩⟩
  · have go : ref15_before_W h (a : Int) (((ix l (i : Int)).toNat : Nat) : Int) fun z => (z, ()) = (befP h a (ix l (i : Int)).toNat, ()) := ref15_before_ok hh rfl
    rw [e] at go
    exact go
  · have t : befP h a (ix l (i : Int)).toNat = true := t
    show (!befP h a (ix l (i : Int)).toNat || decide ((a : Int) ∈ l)) = false
    have q : decide ((a : Int) ∈ l) = false := Bool.eq_false_iff.2 q
    rw [t, q]; rfl
  · show (!befP h a (ix l (i : Int)).toNat || decide ((a : Int) ∈ l)) = true
    have q : decide ((a : Int) ∈ l) = true := Classical.not_not.1 q
    rw [q, Bool.or_true]
  · have t : befP h a (ix l (i : Int)).toNat = false := Bool.eq_false_iff.2 t
    show (!befP h a (ix l (i : Int)).toNat || decide ((a : Int) ∈ l)) = true
    rw [t]; rfl
theorem ref15_Closed_ok {h : api_History} {l : List Int} {Φ : Bool → Prop} (hh : SmallH h) (hz : histE h = 0) (hs : isSetB l (h.Writes.length : Int) = true) (hΦ : Φ (closB h l)) : ref15_Closed_W h l Φ := by
  have hw := hist_wr hz
  have ll := isSetB_le hs (by omega)
  rw [closB_eq hz hs] at hΦ
  refine ref15_Check_ok hh ⟨fun _ => ref15_Set_ok (by omega) ⟨fun _ => ref15_closed_ok hh hz hs hΦ, fun r => absurd hs r⟩, fun r => absurd hz r⟩
theorem ref16_Check_ok {h : api_History} {l : List Int} {Φ : Int → Prop} (hh : SmallH h) (hl : l.length ≤ 1000000) (hΦ : Φ (ckcR h l)) : ref16_Check_W h l Φ := by
  unfold ckcR at hΦ
  refine ref16_right_ok hh hl (fun q => ⟨fun _ => by rw [if_pos q] at hΦ; exact hΦ, fun r => absurd q r⟩) (fun hz q => ⟨fun _ => by rw [if_neg (fun t => t hz), if_pos q] at hΦ; exact hΦ, fun r => absurd (by decide) r⟩) fun hz hs => ⟨fun r => absurd rfl r, fun _ => ref15_Closed_ok hh hz hs ?_⟩
  rw [if_neg (fun t => t hz), if_neg (by rw [hs]; simp)] at hΦ
  refine ⟨fun q => ?_, fun q => ?_⟩
  · rw [if_pos (Bool.eq_false_iff.2 q)] at hΦ; exact hΦ
  · rw [if_neg (by rw [Classical.not_not.1 q]; simp)] at hΦ; exact hΦ
theorem ref16_cuts_ok {h : api_History} {a b : List Int} {Φ : Int → Prop} (hh : SmallH h) (ha : a.length ≤ 1000000) (hb : b.length ≤ 1000000) (hΦ : Φ (ctsR h a b)) : ref16_cuts_W h a b Φ := by
  unfold ctsR at hΦ
  refine ref16_right_ok hh ha (fun q => ⟨fun _ => by rw [if_pos q] at hΦ; exact hΦ, fun r => absurd q r⟩) (fun hz q => ⟨fun _ => by rw [if_neg (fun t => t hz), if_pos (.inl q)] at hΦ; exact hΦ, fun r => absurd (by decide) r⟩) fun hz hs => ⟨fun r => absurd rfl r, fun _ => ref15_Set_ok hb ⟨fun q => ?_, fun q => ?_⟩⟩
  · rw [if_neg (fun t => t hz), if_pos (.inr (Bool.eq_false_iff.2 q))] at hΦ; exact hΦ
  · have hs2 : isSetB b (h.Writes.length : Int) = true := Classical.not_not.1 q
    rw [if_neg (fun t => t hz), if_neg (by rw [hs, hs2]; simp)] at hΦ
    refine ref15_Closed_ok hh hz hs ⟨fun q2 => ?_, fun q2 => ref15_Closed_ok hh hz hs2 ⟨fun q3 => ?_, fun q3 => ?_⟩⟩
    · rw [if_pos (.inl (Bool.eq_false_iff.2 q2))] at hΦ; exact hΦ
    · rw [if_pos (.inr (Bool.eq_false_iff.2 q3))] at hΦ; exact hΦ
    · rw [if_neg (by rw [Classical.not_not.1 q2, Classical.not_not.1 q3]; simp)] at hΦ; exact hΦ
theorem ctsR_zero {h : api_History} {a b : List Int} (e : ctsR h a b = 0) : histE h = 0 ∧ isSetB a (h.Writes.length : Int) = true ∧ isSetB b (h.Writes.length : Int) = true ∧ closB h a = true ∧ closB h b = true := by
  unfold ctsR at e
  by_cases q : histE h ≠ 0
  · rw [if_pos q] at e; exact absurd e q
  rw [if_neg q] at e
  by_cases q2 : isSetB a (h.Writes.length : Int) = false ∨ isSetB b (h.Writes.length : Int) = false
  · rw [if_pos q2] at e; exact absurd e (by decide)
  rw [if_neg q2] at e
  by_cases q3 : closB h a = false ∨ closB h b = false
  · rw [if_pos q3] at e; exact absurd e (by decide)
  exact ⟨Classical.not_not.1 q, Bool.of_not_eq_false fun t => q2 (.inl t), Bool.of_not_eq_false fun t => q2 (.inr t), Bool.of_not_eq_false fun t => q3 (.inl t), Bool.of_not_eq_false fun t => q3 (.inr t)⟩
theorem ref16_Join_ok {h : api_History} {a b : List Int} {Φ : List Int × Int → Prop} (hh : SmallH h) (ha : a.length ≤ 1000000) (hb : b.length ≤ 1000000) (hΦ : Φ (joinR h a b)) : ref16_Join_W h a b Φ := by
  unfold joinR at hΦ
  refine ref16_cuts_ok hh ha hb ⟨fun q => by rw [if_pos q] at hΦ; exact hΦ, fun q => ?_⟩
  rw [if_neg q] at hΦ
  obtain ⟨hz, _⟩ := ctsR_zero (Classical.not_not.1 q)
  have hw := hist_wr hz
  refine LoopW.upT h.Writes.length (fun k => ((k : Int), selL k fun w => decide ((w : Int) ∈ a) || decide ((w : Int) ∈ b))) rfl (fun k rec hk hr => ⟨fun _ => ?_, fun r => absurd (show (k : Int) < (h.Writes.length : Int) by omega) r⟩) fun rec => ⟨fun r => absurd r (by omega), fun _ => hΦ⟩
  have go : ∀ c, (decide ((k : Int) ∈ a) || decide ((k : Int) ∈ b)) = c → ref16_Join_J2 (k : Int) (selL k fun w => decide ((w : Int) ∈ a) || decide ((w : Int) ∈ b)) rec Φ c := fun c e => by
    refine ⟨fun t => ⟨sel_room hk hw, iI (by omega) (by omega), hr _ ?_⟩, fun t => ⟨iI (by omega) (by omega), hr _ ?_⟩⟩
    · rw [selL_succ, if_pos (e.trans t)]; rfl
    · rw [selL_succ, if_neg (by rw [e]; exact t), List.append_nil]; rfl
  refine ref15_Has_ok ha ⟨fun t => go true (by rw [t]; rfl), fun t => ref15_Has_ok hb (go _ (by rw [Bool.eq_false_iff.2 t, Bool.false_or]))⟩
theorem ref16_Meet_ok {h : api_History} {a b : List Int} {Φ : List Int × Int → Prop} (hh : SmallH h) (ha : a.length ≤ 1000000) (hb : b.length ≤ 1000000) (hΦ : Φ (meetR h a b)) : ref16_Meet_W h a b Φ := by
  unfold meetR at hΦ
  refine ref16_cuts_ok hh ha hb ⟨fun q => by rw [if_pos q] at hΦ; exact hΦ, fun q => ?_⟩
  rw [if_neg q] at hΦ
  obtain ⟨hz, hs, _⟩ := ctsR_zero (Classical.not_not.1 q)
  have em : meetC h a b = a.filter fun x => decide (x ∈ b) := (set_filter hs fun x => decide (x ∈ b)).symm
  rw [em] at hΦ
  have ll := isSetB_le hs (by omega)
  have hw := hist_wr hz
  refine LoopW.upT a.length (fun k => ((k : Int), (a.take k).filter fun x => decide (x ∈ b))) rfl (fun k rec hk hr => ⟨fun _ => ⟨iX (by omega) (by omega), ref15_Has_ok hb ?_⟩, fun r => absurd (show (k : Int) < (a.length : Int) by omega) r⟩) fun rec => ⟨fun r => absurd r (by omega), fun _ => by rw [List.take_length]; exact hΦ⟩
  have st := filter_take_snoc (fun x : Int => decide (x ∈ b)) hk
  have room : lenOk (((a.take k).filter fun x => decide (x ∈ b)) ++ ([(ix a (k : Int))] : List Int)).length 8 := by
    have := List.length_filter_le (fun x : Int => decide (x ∈ b)) (a.take k)
    rw [List.length_take] at this
    refine ⟨?_, ?_⟩
    · rw [List.length_append, List.length_singleton]; omega
    · rw [List.length_append, List.length_singleton]; unfold maxLen; omega
  refine ⟨fun t => ⟨iX (by omega) (by omega), room, iI (by omega) (by omega), hr _ ?_⟩, fun t => ⟨iI (by omega) (by omega), hr _ ?_⟩⟩
  · rw [st, if_pos t]; rfl
  · rw [st, if_neg t, List.append_nil]; rfl
theorem list_rowB {n : Nat} {p : Nat → Bool} {Φ : List Int → Prop} (hn : n ≤ 1000000) (hΦ : Φ (selL n p)) : cut_marks_list_W (rowB n n p) Φ := by
  refine marks_list_ok (by rw [rowB_len]; exact hn) ?_
  rw [memL_sel, rowB_len]
  have e : selL n (fun w => ix (rowB n n p) (w : Int)) = selL n p := selL_congr fun w hw => by rw [ix_rowB hw, decide_eq_true hw, Bool.true_and]
  rw [e]; exact hΦ
theorem ctsR_2 {h : api_History} {a b : List Int} (hz : histE h = 0) {j : Nat} (hj : j < ([a, b] : List (List Int)).length) (q : isSetB (ix ([a, b] : List (List Int)) (j : Int)) (h.Writes.length : Int) = false) : ctsR h a b = 2 := by
  unfold ctsR
  rw [if_neg (fun t => t hz), if_pos]
  have hj : j < 2 := hj
  rcases (show j = 0 ∨ j = 1 by omega) with rfl | rfl
  · exact .inl q
  · exact .inr q
theorem ctsR_27 {h : api_History} {a b : List Int} (hz : histE h = 0) (hs : ∀ j, j < ([a, b] : List (List Int)).length → isSetB (ix ([a, b] : List (List Int)) (j : Int)) (h.Writes.length : Int) = true) {j : Nat} (hj : j < ([a, b] : List (List Int)).length) (q : closB h (ix ([a, b] : List (List Int)) (j : Int)) = false) : ctsR h a b = 27 := by
  have sa : isSetB a (h.Writes.length : Int) = true := hs 0 (show 0 < 2 by omega)
  have sb : isSetB b (h.Writes.length : Int) = true := hs 1 (show 1 < 2 by omega)
  unfold ctsR
  rw [if_neg (fun t => t hz), if_neg (by rw [sa, sb]; simp), if_pos]
  have hj : j < 2 := hj
  rcases (show j = 0 ∨ j = 1 by omega) with rfl | rfl
  · exact .inl q
  · exact .inr q
theorem ctsR_0 {h : api_History} {a b : List Int} (hz : histE h = 0) (hs : ∀ j, j < ([a, b] : List (List Int)).length → isSetB (ix ([a, b] : List (List Int)) (j : Int)) (h.Writes.length : Int) = true) (hc : ∀ j, j < ([a, b] : List (List Int)).length → closB h (ix ([a, b] : List (List Int)) (j : Int)) = true) : ctsR h a b = 0 := by
  have sa : isSetB a (h.Writes.length : Int) = true := hs 0 (show 0 < 2 by omega)
  have sb : isSetB b (h.Writes.length : Int) = true := hs 1 (show 1 < 2 by omega)
  have ca : closB h a = true := hc 0 (show 0 < 2 by omega)
  have cb : closB h b = true := hc 1 (show 1 < 2 by omega)
  unfold ctsR
  rw [if_neg (fun t => t hz), if_neg (by rw [sa, sb]; simp), if_neg (by rw [ca, cb]; simp)]
theorem cut_Join_ok {h : api_History} {a b : List Int} {Φ : List Int × Int → Prop} (hh : SmallH h) (ha : a.length ≤ 1000000) (hb : b.length ≤ 1000000) (hΦ : Φ (joinR h a b)) : cut_Join_W h a b Φ := by
  have er : ∀ e, e ≠ 0 → ctsR h a b = e → Φ ([], e) := fun e n t => by unfold joinR at hΦ; rw [t, if_pos n] at hΦ; exact hΦ
  refine cutJoin_all hh (two_lt ha hb) (fun q => er _ q (by unfold ctsR; rw [if_pos q])) (fun hz j hj q => er 2 (by decide) (ctsR_2 hz hj q)) (fun hz hs j hj q => ⟨fun _ => ⟨fun _ => er 27 (by decide) (ctsR_27 hz hs hj q), fun r => absurd (by decide) r⟩, fun r => absurd rfl r⟩) fun hz hs hc => ⟨fun r => Bool.noConfusion r, fun _ => ⟨fun r => absurd rfl r, fun _ => ?_⟩⟩
  have e0 := ctsR_0 hz hs hc
  have hw := hist_wr hz
  unfold joinR at hΦ
  rw [e0, if_neg (fun t => t rfl)] at hΦ
  refine ⟨by omega, ⟨by rw [Int.toNat_natCast]; omega, by rw [Int.toNat_natCast]; unfold maxLen; omega⟩, ?_⟩
  rw [Int.toNat_natCast, rowB_zero (p := fun w : Nat => decide ((w : Int) ∈ a) || decide ((w : Int) ∈ b))]
  have ln : ((List.replicate (h.Writes.length : Int).toNat (false : Bool)).length : Int) = (h.Writes.length : Int) := by rw [List.length_replicate, Int.toNat_natCast]
  refine LoopW.upT h.Writes.length (fun k => ((k : Int), rowB h.Writes.length k fun w : Nat => decide ((w : Int) ∈ a) || decide ((w : Int) ∈ b))) rfl (fun k rec hk hr => ⟨fun _ => ?_, fun r => absurd (show (k : Int) < ((List.replicate (h.Writes.length : Int).toNat (false : Bool)).length : Int) by omega) r⟩) fun rec => ⟨fun r => absurd r (by omega), fun _ => list_rowB (by omega) hΦ⟩
  have xa : ix (markL h.Writes.length a) (k : Int) = decide ((k : Int) ∈ a) := ix_markL hk
  have xb : ix (markL h.Writes.length b) (k : Int) = decide ((k : Int) ∈ b) := ix_markL hk
  have la : inX (k : Int) (markL h.Writes.length a).length := iX (by omega) (by rw [markL_len]; omega)
  have lb : inX (k : Int) (markL h.Writes.length b).length := iX (by omega) (by rw [markL_len]; omega)
  refine ⟨iX (by omega) (by show (0 : Int) < ((2 : Nat) : Int); omega), la, iX (by omega) (by show (1 : Int) < ((2 : Nat) : Int); omega), lb, (decide ((k : Int) ∈ a) || decide ((k : Int) ∈ b), ()), ?_, iX (by omega) (by rw [rowB_len]; omega), iI (by omega) (by omega), hr _ ?_⟩
  · show cut_Join_1_W (ix (markL h.Writes.length a) (k : Int)) (ix (markL h.Writes.length b) (k : Int)) _
    rw [xa, xb]
    refine ⟨fun t => ?_, fun t => ?_⟩
    · rw [t]; rfl
    · rw [Bool.eq_false_iff.2 t]; rfl
  · rw [rowB_put hk rfl]; rfl
theorem cut_Meet_ok {h : api_History} {a b : List Int} {Φ : List Int × Int → Prop} (hh : SmallH h) (ha : a.length ≤ 1000000) (hb : b.length ≤ 1000000) (hΦ : Φ (meetR h a b)) : cut_Meet_W h a b Φ := by
  have er : ∀ e, e ≠ 0 → ctsR h a b = e → Φ ([], e) := fun e n t => by unfold meetR at hΦ; rw [t, if_pos n] at hΦ; exact hΦ
  refine cutMeet_all hh (two_lt ha hb) (fun q => er _ q (by unfold ctsR; rw [if_pos q])) (fun hz j hj q => er 2 (by decide) (ctsR_2 hz hj q)) (fun hz hs j hj q => ⟨fun _ => ⟨fun _ => er 27 (by decide) (ctsR_27 hz hs hj q), fun r => absurd (by decide) r⟩, fun r => absurd rfl r⟩) fun hz hs hc => ⟨fun r => Bool.noConfusion r, fun _ => ⟨fun r => absurd rfl r, fun _ => ?_⟩⟩
  have e0 := ctsR_0 hz hs hc
  have hw := hist_wr hz
  unfold meetR at hΦ
  rw [e0, if_neg (fun t => t rfl)] at hΦ
  refine ⟨by omega, ⟨by rw [Int.toNat_natCast]; omega, by rw [Int.toNat_natCast]; unfold maxLen; omega⟩, ?_⟩
  rw [Int.toNat_natCast, rowB_zero (p := fun w : Nat => decide ((w : Int) ∈ a) && decide ((w : Int) ∈ b))]
  have ln : ((List.replicate (h.Writes.length : Int).toNat (false : Bool)).length : Int) = (h.Writes.length : Int) := by rw [List.length_replicate, Int.toNat_natCast]
  refine LoopW.upT h.Writes.length (fun k => ((k : Int), rowB h.Writes.length k fun w : Nat => decide ((w : Int) ∈ a) && decide ((w : Int) ∈ b))) rfl (fun k rec hk hr => ⟨fun _ => ?_, fun r => absurd (show (k : Int) < ((List.replicate (h.Writes.length : Int).toNat (false : Bool)).length : Int) by omega) r⟩) fun rec => ⟨fun r => absurd r (by omega), fun _ => list_rowB (by omega) hΦ⟩
  have xa : ix (markL h.Writes.length a) (k : Int) = decide ((k : Int) ∈ a) := ix_markL hk
  have xb : ix (markL h.Writes.length b) (k : Int) = decide ((k : Int) ∈ b) := ix_markL hk
  have la : inX (k : Int) (markL h.Writes.length a).length := iX (by omega) (by rw [markL_len]; omega)
  have lb : inX (k : Int) (markL h.Writes.length b).length := iX (by omega) (by rw [markL_len]; omega)
  refine ⟨iX (by omega) (by show (0 : Int) < ((2 : Nat) : Int); omega), la, iX (by omega) (by show (1 : Int) < ((2 : Nat) : Int); omega), lb, (decide ((k : Int) ∈ a) && decide ((k : Int) ∈ b), ()), ?_, iX (by omega) (by rw [rowB_len]; omega), iI (by omega) (by omega), hr _ ?_⟩
  · show cut_Meet_1_W (ix (markL h.Writes.length a) (k : Int)) (ix (markL h.Writes.length b) (k : Int)) _
    rw [xa, xb]
    refine ⟨fun t => ?_, fun t => ?_⟩
    · rw [t]; rfl
    · rw [Bool.eq_false_iff.2 t]; rfl
  · rw [rowB_put hk rfl]; rfl
def frB (h : api_History) (l : List Int) (a : Nat) : Bool := decide ((a : Int) ∈ l) && l.all fun b => !befC h a b.toNat
def frC (h : api_History) (l : List Int) : List Int := selL h.Writes.length (frB h l)
def frR (h : api_History) (l : List Int) : List Int × Int := if ckcR h l ≠ 0 then ([], ckcR h l) else (frC h l, 0)
def dropL (h : api_History) (ms : List Bool) (b k : Nat) : List Bool := (List.range ms.length).map fun a : Nat => ix ms (a : Int) && !(decide (a < k) && befC h a b)
theorem dropL_len {h : api_History} {ms : List Bool} {b k : Nat} : (dropL h ms b k).length = ms.length := by unfold dropL; rw [List.length_map, List.length_range]
theorem ix_dropL {h : api_History} {ms : List Bool} {b k a : Nat} (ha : a < ms.length) : ix (dropL h ms b k) (a : Int) = (ix ms (a : Int) && !(decide (a < k) && befC h a b)) := by
  rw [ix_get (by rw [dropL_len]; exact ha)]
  unfold dropL
  rw [List.getElem_map, List.getElem_range]
theorem dropL_zero {h : api_History} {ms : List Bool} {b : Nat} : dropL h ms b 0 = ms := ext_ix dropL_len fun a ha => by
  rw [dropL_len] at ha
  rw [ix_dropL ha]; simp
theorem dropL_put {h : api_History} {ms : List Bool} {b k : Nat} (hk : k < ms.length) : dropL h ms b (k + 1) = put (dropL h ms b k) (k : Int) (ix ms (k : Int) && !befC h k b) := ext_ix (by rw [put_len, dropL_len, dropL_len]) fun a ha => by
  rw [dropL_len] at ha
  rw [ix_dropL ha, ix_put _ _ (by rw [dropL_len]; exact hk), ix_dropL ha]
  by_cases q : a = k
  · subst q; simp
  · rw [if_neg q]
    have : decide (a < k + 1) = decide (a < k) := decide_eq_decide.2 (by omega)
    rw [this]
theorem front_L7 {h : api_History} {ms : List Bool} {b : Nat} {rec6 : (List (Int × Unit) × List Bool) → Prop} {r : List (Int × Unit)} {Φ : List Int × Int → Prop} (hw : h.Writes.length ≤ 4096) (hm : ms.length = h.Writes.length) (hb : b < h.Writes.length) (hr : rec6 (r, dropL h ms b h.Writes.length)) :
    LoopW (cut_Frontier_L7 h (issW h) (ackW h) rec6 ((b : Int), ()) r Φ) (0, ms) := by
  refine LoopW.upT h.Writes.length (fun k => ((k : Int), dropL h ms b k)) (by rw [dropL_zero]; rfl) (fun k rec hk hrec => ?_) fun rec => ⟨fun q => by omega, fun _ => hr⟩
  have hx : ix (dropL h ms b k) (k : Int) = ix ms (k : Int) := by
    rw [ix_dropL (by omega)]
    have : decide (k < k) = false := decide_eq_false (by omega)
    rw [this, Bool.false_and, Bool.not_false, Bool.and_true]
  have hi : inX (k : Int) (dropL h ms b k).length := iX (by omega) (by rw [dropL_len]; omega)
  refine ⟨fun _ => ⟨hi, fun q => ⟨_, cut_before_ok hk hb rfl, hi, iI (by omega) (by omega), hrec _ ?_⟩, fun q => ⟨hi, iI (by omega) (by omega), hrec _ ?_⟩⟩, fun q => by omega⟩
  · rw [hx] at q
    have e : decide (¬ (befC h k b = true)) = !befC h k b := by cases befC h k b <;> rfl
    show ((k : Int) + 1, put (dropL h ms b k) (k : Int) (decide (¬ (befC h k b = true)))) = _
    rw [dropL_put (by omega), q, e, Bool.true_and]; rfl
  · rw [hx] at q; rw [dropL_put (by omega), Bool.eq_false_iff.2 q, Bool.false_and]; rfl
def dropsL (h : api_History) (ms : List Bool) : List (Int × Unit) → List Bool
  | [] => ms
  | p :: l => dropsL h (dropL h ms p.1.toNat h.Writes.length) l
theorem dropsL_len {h : api_History} : ∀ {l : List (Int × Unit)} {ms : List Bool}, (dropsL h ms l).length = ms.length
  | [], _ => rfl
  | _ :: l, _ => (dropsL_len (l := l)).trans dropL_len
theorem front_L6 {h : api_History} {Φ : List Int × Int → Prop} (hw : h.Writes.length ≤ 4096) : ∀ {l : List (Int × Unit)} {ms : List Bool}, ms.length = h.Writes.length → (∀ p ∈ l, 0 ≤ p.1 ∧ p.1 < (h.Writes.length : Int)) → Φ ((memL (dropsL h ms l) 0).map Prod.fst, 0) → LoopW (cut_Frontier_L6 h (issW h) (ackW h) Φ) (l, ms) := by
  intro l ms hm hl hΦ
  refine LoopW.of_inv (fun s => s.2.length = h.Writes.length ∧ (∀ p ∈ s.1, 0 ≤ p.1 ∧ p.1 < (h.Writes.length : Int)) ∧ Φ ((memL (dropsL h s.2 s.1) 0).map Prod.fst, 0)) (fun s => s.1.length) ?_ ⟨hm, hl, hΦ⟩
  rintro ⟨l, ms⟩ rec ⟨hm, hl, hΦ⟩ hrec
  cases l with
  | nil => exact marks_list_ok (by show ms.length ≤ 1000000; have : ms.length = h.Writes.length := hm; omega) hΦ
  | cons p l =>
    obtain ⟨b, u⟩ := p
    have hb := hl (b, u) List.mem_cons_self
    have e : ((b.toNat : Nat) : Int) = b := Int.toNat_of_nonneg hb.1
    have hq := front_L7 (Φ := Φ) (rec6 := rec) (r := l) (b := b.toNat) hw hm (by have : b < (h.Writes.length : Int) := hb.2; omega) (hrec _ ⟨dropL_len.trans hm, fun p hp => hl p (List.mem_cons_of_mem _ hp), hΦ⟩ (by show l.length < l.length + 1; omega))
    rw [e] at hq
    exact hq
theorem ix_dropsL {h : api_History} {a : Nat} (ha : a < h.Writes.length) : ∀ {ps : List (Int × Unit)} {ms : List Bool}, ms.length = h.Writes.length → ix (dropsL h ms ps) (a : Int) = (ix ms (a : Int) && ps.all fun p => !befC h a p.1.toNat)
  | [], ms, _ => by show ix ms _ = _; simp
  | p :: ps, ms, hm => by
    have := ix_dropsL ha (ps := ps) (ms := dropL h ms p.1.toNat h.Writes.length) (dropL_len.trans hm)
    show ix (dropsL h (dropL h ms p.1.toNat h.Writes.length) ps) _ = _
    rw [this, ix_dropL (by omega), decide_eq_true ha, Bool.true_and, List.all_cons, Bool.and_assoc]
theorem front_sel {h : api_History} {l : List Int} (hl : isSetB l (h.Writes.length : Int) = true) : (memL (dropsL h (markL h.Writes.length l) (memL (markL h.Writes.length l) 0)) 0).map Prod.fst = frC h l := by
  rw [memL_sel, dropsL_len, markL_len]
  refine selL_congr fun w hw => ?_
  rw [ix_dropsL hw markL_len, ix_markL hw]
  unfold frB
  congr 1
  exact members_all hl fun b => !befC h w b
theorem ckcR_1 {h : api_History} {l : List Int} (hz : histE h = 0) {j : Nat} (hj : j < ([l] : List (List Int)).length) (q : isSetB (ix ([l] : List (List Int)) (j : Int)) (h.Writes.length : Int) = false) : ckcR h l = 2 := by
  have hj : j < 1 := hj
  obtain rfl : j = 0 := by omega
  have q : isSetB l (h.Writes.length : Int) = false := q
  unfold ckcR
  rw [if_neg (fun t => t hz), if_pos q]
theorem ckcR_27 {h : api_History} {l : List Int} (hz : histE h = 0) (hs : ∀ j, j < ([l] : List (List Int)).length → isSetB (ix ([l] : List (List Int)) (j : Int)) (h.Writes.length : Int) = true) {j : Nat} (hj : j < ([l] : List (List Int)).length) (q : closB h (ix ([l] : List (List Int)) (j : Int)) = false) : ckcR h l = 27 := by
  have hj : j < 1 := hj
  obtain rfl : j = 0 := by omega
  have q : closB h l = false := q
  have s : isSetB l (h.Writes.length : Int) = true := hs 0 Nat.one_pos
  unfold ckcR
  rw [if_neg (fun t => t hz), if_neg (by rw [s]; simp), if_pos q]
theorem ckcR_0 {h : api_History} {l : List Int} (hz : histE h = 0) (s : isSetB l (h.Writes.length : Int) = true) (c : closB h l = true) : ckcR h l = 0 := by
  unfold ckcR
  rw [if_neg (fun t => t hz), if_neg (by rw [s]; simp), if_neg (by rw [c]; simp)]
theorem ckcR_zero {h : api_History} {l : List Int} (e : ckcR h l = 0) : histE h = 0 ∧ isSetB l (h.Writes.length : Int) = true ∧ closB h l = true := by
  unfold ckcR at e
  by_cases q : histE h ≠ 0
  · rw [if_pos q] at e; exact absurd e q
  rw [if_neg q] at e
  by_cases q2 : isSetB l (h.Writes.length : Int) = false
  · rw [if_pos q2] at e; exact absurd e (by decide)
  rw [if_neg q2] at e
  by_cases q3 : closB h l = false
  · rw [if_pos q3] at e; exact absurd e (by decide)
  exact ⟨Classical.not_not.1 q, Bool.of_not_eq_false q2, Bool.of_not_eq_false q3⟩
theorem cut_Frontier_ok {h : api_History} {l : List Int} {Φ : List Int × Int → Prop} (hh : SmallH h) (hl : l.length ≤ 1000000) (hΦ : Φ (frR h l)) : cut_Frontier_W h l Φ := by
  have er : ∀ e, e ≠ 0 → ckcR h l = e → Φ ([], e) := fun e n t => by unfold frR at hΦ; rw [t, if_pos n] at hΦ; exact hΦ
  refine cutFrontier_all hh (one_lt hl) (fun q => er _ q (by unfold ckcR; rw [if_pos q])) (fun hz j hj q => er 2 (by decide) (ckcR_1 hz hj q)) (fun hz hs j hj q => ⟨fun _ => ⟨fun _ => er 27 (by decide) (ckcR_27 hz hs hj q), fun r => absurd (by decide) r⟩, fun r => absurd rfl r⟩) fun hz hs hc => ⟨fun r => Bool.noConfusion r, fun _ => ⟨fun r => absurd rfl r, fun _ => ?_⟩⟩
  have s : isSetB l (h.Writes.length : Int) = true := hs 0 Nat.one_pos
  have c : closB h l = true := hc 0 Nat.one_pos
  have hw := hist_wr hz
  unfold frR at hΦ
  rw [ckcR_0 hz s c, if_neg (fun t => t rfl), ← front_sel s] at hΦ
  have tl : inX 0 ([l].map (markL h.Writes.length)).length ∧ ∃ l19, cut_marks_members_1_I (ix ([l].map (markL h.Writes.length)) 0) l19 ∧ LoopW (cut_Frontier_L6 h (issW h) (ackW h) Φ) (l19, markL h.Writes.length l) :=
    ⟨iX (by omega) (by show (0 : Int) < ((1 : Nat) : Int); omega), _, marks_members_ok (by show (markL h.Writes.length l).length ≤ 1000000; rw [markL_len]; omega), front_L6 hw markL_len (fun p hp => (mem_members.1 (show p ∈ memL (markL h.Writes.length l) 0 from hp)).2) hΦ⟩
  refine ⟨iX (by omega) (by show (0 : Int) < ((1 : Nat) : Int); omega), fun e => ?_, ⟨⟨by show (markL h.Writes.length l).length * 1 ≤ _; rw [markL_len]; omega, by show (markL h.Writes.length l).length ≤ maxLen; rw [markL_len]; unfold maxLen; omega⟩, tl⟩⟩
  have e : markL h.Writes.length l = [] := e
  obtain ⟨t1, l18, t2, t3⟩ := tl
  exact ⟨t1, l18, t2, Eq.mp (congrArg (fun z => LoopW (cut_Frontier_L6 h (issW h) (ackW h) Φ) (l18, z)) e) t3⟩
def cntL (n : Nat) (p : Nat → Bool) : Nat := ((List.range n).filter p).length
theorem cntL_succ {n : Nat} {p : Nat → Bool} : cntL (n + 1) p = cntL n p + (if p n = true then 1 else 0) := by
  unfold cntL
  rw [filter_range_snoc, List.length_append]
  by_cases q : p n = true
  · rw [if_pos q, if_pos q]; rfl
  · rw [if_neg q, if_neg q]; rfl
theorem cntL_le {n : Nat} {p : Nat → Bool} : cntL n p ≤ n := by
  unfold cntL
  have := List.length_filter_le p (List.range n)
  rw [List.length_range] at this; exact this
theorem cntL_congr {n : Nat} {p q : Nat → Bool} (h : ∀ w, w < n → p w = q w) : cntL n p = cntL n q := by
  unfold cntL
  rw [List.filter_congr fun w hw => h w (List.mem_range.1 hw)]
theorem selL_cnt {n : Nat} {p : Nat → Bool} : (selL n p).length = cntL n p := by unfold selL cntL; rw [List.length_map]
def akB (h : api_History) (w : Nat) : Bool := decide (0 ≤ atN h.Events h.Events.length ⟨1, (w : Int)⟩)
def ageB (h : api_History) (l : List Int) (w : Nat) : Bool := akB h w && !decide ((w : Int) ∈ l)
def ageR (h : api_History) (l : List Int) : Int × Int := if ckcR h l ≠ 0 then (0, ckcR h l) else ((cntL h.Writes.length (ageB h l) : Int), 0)
theorem ackW_lt {h : api_History} {w : Nat} (hw : w < h.Writes.length) : ix (ackW h) (w : Int) < (h.Events.length : Int) ↔ akB h w = true := by
  unfold ackW akB
  rw [ix_relL hw, decide_eq_true_iff]
  have := atN_top h.Events h.Events.length ⟨1, (w : Int)⟩
  by_cases q : 0 ≤ atN h.Events h.Events.length ⟨1, (w : Int)⟩
  · rw [if_pos q]; exact ⟨fun _ => q, fun _ => this⟩
  · rw [if_neg q]; exact ⟨fun t => by omega, fun t => absurd t q⟩
theorem cut_Age_ok {h : api_History} {l : List Int} {Φ : Int × Int → Prop} (hh : SmallH h) (hl : l.length ≤ 1000000) (hΦ : Φ (ageR h l)) : cut_Age_W h l Φ := by
  have er : ∀ e, e ≠ 0 → ckcR h l = e → Φ (0, e) := fun e n t => by unfold ageR at hΦ; rw [t, if_pos n] at hΦ; exact hΦ
  refine cutAge_all hh (one_lt hl) (fun q => er _ q (by unfold ckcR; rw [if_pos q])) (fun hz j hj q => er 2 (by decide) (ckcR_1 hz hj q)) (fun hz hs j hj q => ⟨fun _ => ⟨fun _ => er 27 (by decide) (ckcR_27 hz hs hj q), fun r => absurd (by decide) r⟩, fun r => absurd rfl r⟩) fun hz hs hc => ⟨fun r => Bool.noConfusion r, fun _ => ⟨fun r => absurd rfl r, fun _ => ?_⟩⟩
  have s : isSetB l (h.Writes.length : Int) = true := hs 0 Nat.one_pos
  have c : closB h l = true := hc 0 Nat.one_pos
  have hw := hist_wr hz
  unfold ageR at hΦ
  rw [ckcR_0 hz s c, if_neg (fun t => t rfl)] at hΦ
  refine LoopW.upT h.Writes.length (fun k => ((cntL k (ageB h l) : Int), (k : Int))) rfl (fun k rec hk hr => ⟨fun _ => ?_, fun r => absurd (show (k : Int) < (h.Writes.length : Int) by omega) r⟩) fun rec => ⟨fun r => absurd r (by show ¬ ((h.Writes.length : Int) < (h.Writes.length : Int)); omega), fun _ => hΦ⟩
  have cl := cntL_le (n := k) (p := ageB h l)
  have go : ∀ b, ageB h l k = b → cut_Age_J7 (cntL k (ageB h l) : Int) (k : Int) rec Φ b := fun b e => by
    refine ⟨fun t => ⟨iI (by omega) (by omega), iI (by omega) (by omega), hr _ ?_⟩, fun t => ⟨iI (by omega) (by omega), hr _ ?_⟩⟩
    · rw [cntL_succ, if_pos (e.trans t)]; rfl
    · rw [cntL_succ, if_neg (by rw [e]; exact t)]; rfl
  have xm : ix (markL h.Writes.length l) (k : Int) = decide ((k : Int) ∈ l) := ix_markL hk
  refine ⟨iX (by omega) (by show (k : Int) < ((ackW h).length : Int); unfold ackW; rw [relL_len]; omega), fun q => ⟨iX (by omega) (by show (0 : Int) < ((1 : Nat) : Int); omega), iX (by omega) (by show (k : Int) < ((markL h.Writes.length l).length : Int); rw [markL_len]; omega), ?_⟩, fun q => go false ?_⟩
  · show cut_Age_J7 _ _ _ _ (decide (¬ (ix (markL h.Writes.length l) (k : Int) = true)))
    refine go _ ?_
    unfold ageB
    rw [(ackW_lt hk).1 q, Bool.true_and, xm]
    cases decide ((k : Int) ∈ l) <;> rfl
  · unfold ageB
    rw [Bool.eq_false_iff.2 fun t => q ((ackW_lt hk).2 t), Bool.false_and]
theorem ref15_Acknowledged_ok {h : api_History} {Φ : List Int → Prop} (hh : SmallH h) (hz : histE h = 0) (hΦ : Φ (selL h.Writes.length (akB h))) : ref15_Acknowledged_W h (h.Events.length : Int) Φ := by
  have hw := hist_wr hz
  have hev := hh.ev
  have e : (if 0 < (if (h.Events.length : Int) < (h.Events.length : Int) then (h.Events.length : Int) else (h.Events.length : Int)) then (if (h.Events.length : Int) < (h.Events.length : Int) then (h.Events.length : Int) else (h.Events.length : Int)) else 0) = (h.Events.length : Int) := by
    have e1 : (if (h.Events.length : Int) < (h.Events.length : Int) then (h.Events.length : Int) else (h.Events.length : Int)) = (h.Events.length : Int) := if_neg (by omega)
    rw [e1]
    by_cases q : (0 : Int) < (h.Events.length : Int)
    · rw [if_pos q]
    · rw [if_neg q]; omega
  refine ref15_Check_ok hh ⟨fun q => absurd hz q, fun _ => ?_⟩
  refine LoopW.upT h.Writes.length (fun k => ((k : Int), selL k (akB h))) rfl (fun k rec hk hr => ⟨fun _ => ?_, fun r => absurd (show (k : Int) < (h.Writes.length : Int) by omega) r⟩) fun rec => ⟨fun r => absurd r (by omega), fun _ => hΦ⟩
  rw [e]
  refine ⟨iS (by omega) (by omega) (by omega), _, rfl, _, ref15_At_sub (Nat.le_refl _) (by omega) rfl, fun q => ⟨sel_room hk hw, iI (by omega) (by omega), hr _ ?_⟩, fun q => ⟨iI (by omega) (by omega), hr _ ?_⟩⟩
  · have q : 0 ≤ atN h.Events h.Events.length ⟨1, (k : Int)⟩ := q
    rw [selL_succ, if_pos (show akB h k = true from decide_eq_true q)]; rfl
  · have q : ¬ 0 ≤ atN h.Events h.Events.length ⟨1, (k : Int)⟩ := q
    rw [selL_succ, if_neg (show ¬ akB h k = true by unfold akB; rw [decide_eq_false q]; simp), List.append_nil]; rfl
theorem ref16_Age_ok {h : api_History} {l : List Int} {Φ : Int × Int → Prop} (hh : SmallH h) (hl : l.length ≤ 1000000) (hΦ : Φ (ageR h l)) : ref16_Age_W h l Φ := by
  unfold ageR at hΦ
  refine ref16_Check_ok hh hl ⟨fun q => by rw [if_pos q] at hΦ; exact hΦ, fun q => ?_⟩
  rw [if_neg q] at hΦ
  obtain ⟨hz, hs, _⟩ := ckcR_zero (Classical.not_not.1 q)
  have hw := hist_wr hz
  refine ref15_Acknowledged_ok hh hz ?_
  have al : (selL h.Writes.length (akB h)).length ≤ h.Writes.length := selL_len
  have sa : isSetB (selL h.Writes.length (akB h)) (h.Writes.length : Int) = true := selL_set (Nat.le_refl _) (Int.le_refl _)
  have ec : ((selL h.Writes.length (akB h)).filter fun x => !decide (x ∈ l)).length = cntL h.Writes.length (ageB h l) := by
    rw [set_filter sa fun x => !decide (x ∈ l), selL_cnt]
    refine cntL_congr fun w hw2 => ?_
    unfold ageB
    congr 1
    rw [Bool.eq_iff_iff, decide_eq_true_iff, mem_selN]
    exact ⟨fun t => t.2, fun t => ⟨hw2, t⟩⟩
  rw [← ec] at hΦ
  generalize selL h.Writes.length (akB h) = A at al sa hΦ ⊢
  refine LoopW.upT A.length (fun i => ((((A.take i).filter fun x => !decide (x ∈ l)).length : Int), (i : Int))) rfl (fun i rec hi hr => ⟨fun _ => ⟨iX (by omega) (by omega), ref15_Has_ok hl ?_⟩, fun r => absurd (show (i : Int) < (A.length : Int) by omega) r⟩) fun rec => ⟨fun r => absurd r (by show ¬ ((A.length : Int) < (A.length : Int)); omega), fun _ => by rw [List.take_length]; exact hΦ⟩
  have st := filter_take_snoc (fun x : Int => !decide (x ∈ l)) hi
  have fl := List.length_filter_le (fun x : Int => !decide (x ∈ l)) (A.take i)
  rw [List.length_take] at fl
  refine ⟨fun t => ⟨iI (by omega) (by omega), iI (by omega) (by omega), hr _ ?_⟩, fun t => ⟨iI (by omega) (by omega), hr _ ?_⟩⟩
  · have t : decide (ix A (i : Int) ∈ l) = false := Bool.eq_false_iff.2 t
    rw [st, if_pos (by rw [t]; rfl), List.length_append]; rfl
  · have t : decide (ix A (i : Int) ∈ l) = true := Classical.not_not.1 t
    rw [st, if_neg (by rw [t]; simp), List.append_nil]; rfl
def frK (h : api_History) (l : List Int) (a k : Nat) : Bool := (l.take k).all fun b => !befP h a b.toNat
theorem frK_succ {h : api_History} {l : List Int} {a k : Nat} (hk : k < l.length) : frK h l a (k + 1) = (frK h l a k && !befP h a (ix l (k : Int)).toNat) := by
  unfold frK
  rw [take_ix hk, List.all_append, List.all_cons, List.all_nil, Bool.and_true]
theorem frF {h : api_History} (hz : histE h = 0) {l : List Int} (hl : isSetB l (h.Writes.length : Int) = true) : l.filter (fun x => frK h l x.toNat l.length) = frC h l := by
  rw [set_filter hl]
  refine selL_congr fun w hw => ?_
  unfold frB frK
  rw [List.take_length, Int.toNat_natCast]
  congr 1
  rw [Bool.eq_iff_iff, List.all_eq_true, List.all_eq_true]
  refine forall_congr' fun x => forall_congr' fun hx => ?_
  have m := isSetB_mem hl hx
  rw [befC_eq hz hw (by omega)]
theorem ref16_Frontier_ok {h : api_History} {l : List Int} {Φ : List Int × Int → Prop} (hh : SmallH h) (hl : l.length ≤ 1000000) (hΦ : Φ (frR h l)) : ref16_Frontier_W h l Φ := by
  unfold frR at hΦ
  refine ref16_Check_ok hh hl ⟨fun q => by rw [if_pos q] at hΦ; exact hΦ, fun q => ?_⟩
  rw [if_neg q] at hΦ
  obtain ⟨hz, hs, _⟩ := ckcR_zero (Classical.not_not.1 q)
  have hw := hist_wr hz
  have ll := isSetB_le hs (by omega)
  rw [← frF hz hs] at hΦ
  refine ref16_Table_ok hh hz ?_
  have t0 : (tblH h).length = h.Writes.length := tblK_len
  refine LoopW.upT l.length (fun i => ((i : Int), (l.take i).filter fun x => frK h l x.toNat l.length)) rfl (fun i rec hi hrec => ⟨fun _ => ?_, fun r => absurd (show (i : Int) < (l.length : Int) by omega) r⟩) fun rec => ⟨fun r => absurd r (by show ¬ ((l.length : Int) < (l.length : Int)); omega), fun _ => by rw [List.take_length]; exact hΦ⟩
  have m := isSetB_at hs hi
  have e : ((ix l (i : Int)).toNat : Int) = ix l (i : Int) := Int.toNat_of_nonneg m.1
  have st := filter_take_snoc (fun x : Int => frK h l x.toNat l.length) hi
  have room : lenOk (((l.take i).filter fun x => frK h l x.toNat l.length) ++ ([(ix l (i : Int))] : List Int)).length 8 := by
    have := List.length_filter_le (fun x : Int => frK h l x.toNat l.length) (l.take i)
    rw [List.length_take] at this
    refine ⟨?_, ?_⟩
    · rw [List.length_append, List.length_singleton]; omega
    · rw [List.length_append, List.length_singleton]; unfold maxLen; omega
  have t1 : (ix (tblH h) (ix l (i : Int))).length = h.Writes.length := by rw [← e, ix_tblH (by omega), rowB_len]
  refine LoopW.upT l.length (fun k => (frK h l (ix l (i : Int)).toNat k, (k : Int))) rfl (fun k rec2 hk hrec2 => ⟨fun _ => ⟨fun q => ?_, fun q => ⟨iI (by omega) (by omega), hrec2 _ ?_⟩⟩, fun r => absurd (show (k : Int) < (l.length : Int) by omega) r⟩) fun rec2 => ⟨fun r => absurd r (by show ¬ ((l.length : Int) < (l.length : Int)); omega), fun _ => ⟨fun q => ⟨iX (by omega) (by omega), room, iI (by omega) (by omega), hrec _ ?_⟩, fun q => ⟨iI (by omega) (by omega), hrec _ ?_⟩⟩⟩
  · have mk := isSetB_at hs hk
    have ek : ((ix l (k : Int)).toNat : Int) = ix l (k : Int) := Int.toNat_of_nonneg mk.1
    have tb : ix (ix (tblH h) (ix l (i : Int))) (ix l (k : Int)) = befP h (ix l (i : Int)).toNat (ix l (k : Int)).toNat := by
      have := ix_tbl (h := h) (a := (ix l (i : Int)).toNat) (b := (ix l (k : Int)).toNat) (by omega) (by omega)
      rw [e, ek] at this; exact this
    refine ⟨iX (by omega) (by omega), iX m.1 (by omega), iX (by omega) (by omega), iX mk.1 (by omega), iI (by omega) (by omega), hrec2 _ ?_⟩
    have d : decide (¬ (ix (ix (tblH h) (ix l (i : Int))) (ix l (k : Int)) = true)) = !befP h (ix l (i : Int)).toNat (ix l (k : Int)).toNat := by
      rw [tb]; cases befP h (ix l (i : Int)).toNat (ix l (k : Int)).toNat <;> rfl
    rw [frK_succ hk, q, d, Bool.true_and]; rfl
  · rw [frK_succ hk, Bool.eq_false_iff.2 q, Bool.false_and]; rfl
  · rw [st, if_pos q]; rfl
  · rw [st, if_neg q, List.append_nil]; rfl
theorem equal_int_refl {l : List Int} {Φ : Bool → Prop} (hl : l.length ≤ 1000000) (hΦ : Φ true) : slices_Equal_int_int_W l l Φ :=
  ⟨fun h => absurd rfl h, fun _ => LoopW.upT l.length (fun k => (k : Int)) rfl (fun k rec hk hr => ⟨fun hlt => ⟨iX (by omega) hlt, iX (by omega) hlt, fun q => absurd rfl q, fun _ => ⟨iI (by omega) (by omega), hr _ rfl⟩⟩, fun r => absurd (show (k : Int) < (l.length : Int) by omega) r⟩) fun rec => ⟨fun r => absurd r (by omega), fun _ => hΦ⟩⟩
theorem law16_few_ok {h : api_History} {L : List (List Int)} {Φ : Bool → Prop} (hL : L.length ≤ 100) (hF : Φ false) (hT : SmallH h → h.Writes.length ≤ 40 → h.Events.length ≤ 90 → (∀ x ∈ L, x.length ≤ 60) → Φ true) : law16_few_W h L Φ := by
  refine ref15_Few_ok ⟨fun t => ?_, fun _ => hF⟩
  have hs := fewH_small t
  have he : h.Events.length ≤ 90 := by
    unfold fewH at t
    rw [Bool.and_eq_true, decide_eq_true_iff] at t
    exact t.1.2.2
  refine LoopW.upI L.length (fun k => (k : Int)) (fun k => ∀ j, j < k → (ix L (j : Int)).length ≤ 60) rfl (fun j hj => absurd hj (Nat.not_lt_zero j)) (fun k rec hk hI hr => ⟨fun hlt => ⟨iX (by omega) hlt, fun t => ?_, fun t => ⟨iI (by omega) (by omega), hr (fun j hj => ?_) _ rfl⟩⟩, fun r => absurd (show (k : Int) < (L.length : Int) by omega) r⟩) fun rec hI => ⟨fun r => absurd r (by omega), fun _ => ?_⟩
  · rw [decide_eq_false (show ¬ ¬ (0 : Int) ≤ (k : Int) by omega)]; exact hF
  · rcases Nat.lt_or_ge j k with c | c
    · exact hI j c
    · obtain rfl : j = k := by omega
      rw [decide_eq_true_iff] at t; omega
  · rw [show decide (¬ (0 : Int) ≤ -1) = true by decide]
    refine hT hs.1 hs.2 he fun x hx => ?_
    obtain ⟨k, hk, e⟩ := List.getElem_of_mem hx
    have := hI k hk
    rw [ix_get hk, e] at this; exact this
end Go.Proofs.YtpmjodnmnffmhaaGreatDoor
