/- Part 5 of the proof of the statement CutListsCardSaid: lemmas. No condition of its own. -/
import Derived.Lib.TrailingZeros
import Derived.Test.YtpmjodnmnffmhaaGreatDoorM4
namespace Go.Proofs.YtpmjodnmnffmhaaGreatDoor
open Go.RowKit
theorem mo : Tryz.prog.follows .mixedOrders = true := by kernel_rfl
theorem ok56 : ct56.Ok Tryz.prog tab gh := Ct.lift (E := ⟨Tryz.prog, tab, [], pl56, [], gh, []⟩) ⟨tabOk, trivial, mo, trivial, ghUp, trivial⟩ 9 ct56 fun x Φ => by rw [eq56]; exact id
theorem ok57 : ct57.Ok Tryz.prog tab gh := Ct.lift (E := ⟨Tryz.prog, tab, [], pl57, [], gh, []⟩) ⟨tabOk, trivial, mo, trivial, ghUp, trivial⟩ 9 ct57 fun x Φ => by rw [eq57]; exact id
theorem ok12 : ct12.Ok Tryz.prog tab gh := Ct.lift (E := ⟨Tryz.prog, tab, [ct56, ct57], pl12, [], gh, []⟩) ⟨tabOk, ⟨ok56, ok57, trivial⟩, mo, trivial, ghUp, trivial⟩ 9 ct12 fun x Φ => by rw [eq12]; exact id
theorem ok103 : ct103.Ok Tryz.prog tab gh := Ct.lift (E := ⟨Tryz.prog, tab, [], pl103, [], gh, []⟩) ⟨tabOk, trivial, mo, trivial, ghUp, trivial⟩ 9 ct103 fun x Φ => by rw [eq103]; exact id
theorem ok104 : ct104.Ok Tryz.prog tab gh := Ct.lift (E := ⟨Tryz.prog, tab, [], pl104, [], gh, []⟩) ⟨tabOk, trivial, mo, trivial, ghUp, trivial⟩ 9 ct104 fun x Φ => by rw [eq104]; exact id
theorem ok105 : ct105.Ok Tryz.prog tab gh := Ct.lift (E := ⟨Tryz.prog, tab, [], pl105, [], gh, []⟩) ⟨tabOk, trivial, mo, trivial, ghUp, trivial⟩ 9 ct105 fun x Φ => by rw [eq105]; exact id
theorem ok58 : ct58.Ok Tryz.prog tab gh := Ct.lift (E := ⟨Tryz.prog, tab, [ct103, ct104, ct105], pl58, [], gh, []⟩) ⟨tabOk, ⟨ok103, ok104, ok105, trivial⟩, mo, trivial, ghUp, trivial⟩ 9 ct58 fun x Φ => by rw [eq58]; exact id
theorem ok161 : ct161.Ok Tryz.prog tab gh := Ct.lift (E := ⟨Tryz.prog, tab, [], pl161, [], gh, []⟩) ⟨tabOk, trivial, mo, trivial, ghUp, trivial⟩ 9 ct161 fun x Φ => by rw [eq161]; exact id
theorem ok142 : ct142.Ok Tryz.prog tab gh := Ct.lift (E := ⟨Tryz.prog, tab, [ct161], pl142, [], gh, []⟩) ⟨tabOk, ⟨ok161, trivial⟩, mo, trivial, ghUp, trivial⟩ 9 ct142 fun x Φ => by rw [eq142]; exact id
theorem ok144 : ct144.Ok Tryz.prog tab gh := Ct.lift (E := ⟨Tryz.prog, tab, [], pl144, [], gh, []⟩) ⟨tabOk, trivial, mo, trivial, ghUp, trivial⟩ 9 ct144 fun x Φ => by rw [eq144]; exact id
theorem ok97 : ct97.Ok Tryz.prog tab gh := Ct.lift (E := ⟨Tryz.prog, tab, [ct142, ct144], pl97, [], gh, []⟩) ⟨tabOk, ⟨ok142, ok144, trivial⟩, mo, trivial, ghUp, trivial⟩ 9 ct97 fun x Φ => by rw [eq97]; exact id
theorem ok189 : ct189.Ok Tryz.prog tab gh := Ct.lift (E := ⟨Tryz.prog, tab, [], pl189, [], gh, []⟩) ⟨tabOk, trivial, mo, trivial, ghUp, trivial⟩ 9 ct189 fun x Φ => by rw [eq189]; exact id
theorem ok160 : ct160.Ok Tryz.prog tab gh := Ct.lift (E := ⟨Tryz.prog, tab, [ct189], pl160, [], gh, []⟩) ⟨tabOk, ⟨ok189, trivial⟩, mo, trivial, ghUp, trivial⟩ 9 ct160 fun x Φ => by rw [eq160]; exact id
theorem ok133 : ct133.Ok Tryz.prog tab gh := Ct.lift (E := ⟨Tryz.prog, tab, [ct142, ct160], pl133, [], gh, []⟩) ⟨tabOk, ⟨ok142, ok160, trivial⟩, mo, trivial, ghUp, trivial⟩ 9 ct133 fun x Φ => by rw [eq133]; exact id
theorem ok147 : ct147.Ok Tryz.prog tab gh := Ct.lift (E := ⟨Tryz.prog, tab, [], pl147, [], gh, []⟩) ⟨tabOk, trivial, mo, trivial, ghUp, trivial⟩ 9 ct147 fun x Φ => by rw [eq147]; exact id
theorem ok126 : ct126.Ok Tryz.prog tab gh := Ct.lift (E := ⟨Tryz.prog, tab, [ct133, ct147], pl126, [], gh, []⟩) ⟨tabOk, ⟨ok133, ok147, trivial⟩, mo, trivial, ghUp, trivial⟩ 9 ct126 fun x Φ => by rw [eq126]; exact id
theorem ok79 : ct79.Ok Tryz.prog tab gh := Ct.lift (E := ⟨Tryz.prog, tab, [ct97, ct126], pl79, [], gh, []⟩) ⟨tabOk, ⟨ok97, ok126, trivial⟩, mo, trivial, ghUp, trivial⟩ 9 ct79 fun x Φ => by rw [eq79]; exact id
theorem ok32 : ct32.Ok Tryz.prog tab gh := Ct.lift (E := ⟨Tryz.prog, tab, [ct79], pl32, [], gh, []⟩) ⟨tabOk, ⟨ok79, trivial⟩, mo, trivial, ghUp, trivial⟩ 9 ct32 fun x Φ => by rw [eq32]; exact id
theorem ok165 : ct165.Ok Tryz.prog tab gh := Ct.lift (E := ⟨Tryz.prog, tab, [], pl165, [], gh, []⟩) ⟨tabOk, trivial, mo, trivial, ghUp, trivial⟩ 9 ct165 fun x Φ => by rw [eq165]; exact id
theorem ok148 : ct148.Ok Tryz.prog tab gh := Ct.lift (E := ⟨Tryz.prog, tab, [ct165], pl148, [], gh, []⟩) ⟨tabOk, ⟨ok165, trivial⟩, mo, trivial, ghUp, trivial⟩ 9 ct148 fun x Φ => by rw [eq148]; exact id
theorem ok106 : ct106.Ok Tryz.prog tab gh := Ct.lift (E := ⟨Tryz.prog, tab, [ct148], pl106, [], gh, []⟩) ⟨tabOk, ⟨ok148, trivial⟩, mo, trivial, ghUp, trivial⟩ 9 ct106 fun x Φ => by rw [eq106]; exact id
theorem ok107 : ct107.Ok Tryz.prog tab gh := Ct.lift (E := ⟨Tryz.prog, tab, [], pl107, [], gh, []⟩) ⟨tabOk, trivial, mo, trivial, ghUp, trivial⟩ 9 ct107 fun x Φ => by rw [eq107]; exact id
theorem ok70 : ct70.Ok Tryz.prog tab gh := Ct.lift (E := ⟨Tryz.prog, tab, [], pl70, [], gh, []⟩) ⟨tabOk, trivial, mo, trivial, ghUp, trivial⟩ 9 ct70 fun x Φ => by rw [eq70]; exact id
theorem ok108 : ct108.Ok Tryz.prog tab gh := Ct.lift (E := ⟨Tryz.prog, tab, [ct70], pl108, [], gh, []⟩) ⟨tabOk, ⟨ok70, trivial⟩, mo, trivial, ghUp, trivial⟩ 9 ct108 fun x Φ => by rw [eq108]; exact id
theorem ok43 : ct43.Ok Tryz.prog tab gh := Ct.lift (E := ⟨Tryz.prog, tab, [], pl43, [], gh, []⟩) ⟨tabOk, trivial, mo, trivial, ghUp, trivial⟩ 9 ct43 fun x Φ => by rw [eq43]; exact id
def Tryz.layS_ren : Go.Shelf.Ren := ⟨fun | 5 => 109 | 8 => 150 | 7 => 149 | 19 => 175 | 20 => 176 | 10 => 166 | 11 => 167 | 12 => 168 | 13 => 169 | 14 => 170 | 15 => 171 | 16 => 172 | 17 => 173 | 18 => 174 | 30 => 190 | 31 => 191 | 32 => 192 | 33 => 193 | 34 => 194 | 35 => 187 | 40 => 200 | n => n, fun | 23 => 22 | 25 => 3 | 3 => 3 | 32 => 185 | 22 => 22 | 0 => 0 | 44 => 207 | 46 => 210 | 4 => 4 | 36 => 215 | 35 => 214 | 41 => 173 | 5 => 5 | 9 => 9 | 53 => 230 | 57 => 234 | 63 => 241 | 64 => 51 | n => n, fun | n => n⟩
theorem Tryz.layS : Go.Proofs.SlLaysM.n5 Tryz.prog Tryz.layS_ren := {
  mixed := by kernel_rfl
  f5 := ⟨Tryz.f109.name, by decide, Tryz.func109.trans (congrArg some (by kernel_rfl))⟩
  f7 := ⟨Tryz.f149.name, by decide, Tryz.func149.trans (congrArg some (by kernel_rfl))⟩
  f8 := Tryz.func150.trans (congrArg some (by kernel_rfl))
  f10 := ⟨Tryz.f166.name, by decide, Tryz.func166.trans (congrArg some (by kernel_rfl))⟩
  f11 := ⟨Tryz.f167.name, by decide, Tryz.func167.trans (congrArg some (by kernel_rfl))⟩
  f12 := ⟨Tryz.f168.name, by decide, Tryz.func168.trans (congrArg some (by kernel_rfl))⟩
  f13 := ⟨Tryz.f169.name, by decide, Tryz.func169.trans (congrArg some (by kernel_rfl))⟩
  f14 := ⟨Tryz.f170.name, by decide, Tryz.func170.trans (congrArg some (by kernel_rfl))⟩
  f15 := ⟨Tryz.f171.name, by decide, Tryz.func171.trans (congrArg some (by kernel_rfl))⟩
  f16 := ⟨Tryz.f172.name, by decide, Tryz.func172.trans (congrArg some (by kernel_rfl))⟩
  f17 := ⟨Tryz.f173.name, by decide, Tryz.func173.trans (congrArg some (by kernel_rfl))⟩
  f18 := ⟨Tryz.f174.name, by decide, Tryz.func174.trans (congrArg some (by kernel_rfl))⟩
  f19 := Tryz.func175.trans (congrArg some (by kernel_rfl))
  f20 := Tryz.func176.trans (congrArg some (by kernel_rfl))
  f30 := ⟨Tryz.f190.name, by decide, Tryz.func190.trans (congrArg some (by kernel_rfl))⟩
  f31 := Tryz.func191.trans (congrArg some (by kernel_rfl))
  f32 := Tryz.func192.trans (congrArg some (by kernel_rfl))
  f33 := ⟨Tryz.f193.name, by decide, Tryz.func193.trans (congrArg some (by kernel_rfl))⟩
  f34 := ⟨Tryz.f194.name, by decide, Tryz.func194.trans (congrArg some (by kernel_rfl))⟩
  f35 := ⟨Tryz.f187.name, by decide, Tryz.func187.trans (congrArg some (by kernel_rfl))⟩
  f40 := ⟨Tryz.f200.name, by decide, Tryz.func200.trans (congrArg some (by kernel_rfl))⟩
  t0 := Tryz.underlying0
  a0 := Tryz.isAgg0
  z0 := Tryz.sizeOf0
  v0 := Tryz.zeroValue0
  t3 := Tryz.underlying3
  a3 := Tryz.isAgg3
  z3 := Tryz.sizeOf3
  v3 := Tryz.zeroValue3
  t4 := Tryz.underlying4
  a4 := Tryz.isAgg4
  z4 := Tryz.sizeOf4
  v4 := Tryz.zeroValue4
  t5 := Tryz.underlying5
  a5 := Tryz.isAgg5
  z5 := Tryz.sizeOf5
  v5 := Tryz.zeroValue5
  t9 := Tryz.underlying9
  a9 := Tryz.isAgg9
  z9 := Tryz.sizeOf9
  v9 := Tryz.zeroValue9
  t22 := Tryz.underlying22
  a22 := Tryz.isAgg22
  z22 := Tryz.sizeOf22
  v22 := Tryz.zeroValue22
  t23 := Tryz.underlying22
  a23 := Tryz.isAgg22
  z23 := Tryz.sizeOf22
  v23 := Tryz.zeroValue22
  t25 := Tryz.underlying3
  a25 := Tryz.isAgg3
  z25 := Tryz.sizeOf3
  v25 := Tryz.zeroValue3
  t32 := Tryz.underlying185
  a32 := Tryz.isAgg185
  z32 := Tryz.sizeOf185
  v32 := Tryz.zeroValue185
  t35 := Tryz.underlying214
  a35 := Tryz.isAgg214
  z35 := Tryz.sizeOf214
  v35 := Tryz.zeroValue214
  t36 := Tryz.underlying215
  a36 := Tryz.isAgg215
  z36 := Tryz.sizeOf215
  v36 := Tryz.zeroValue215
  t41 := Tryz.underlying173
  a41 := Tryz.isAgg173
  z41 := Tryz.sizeOf173
  v41 := Tryz.zeroValue173
  t44 := Tryz.underlying207
  a44 := Tryz.isAgg207
  z44 := Tryz.sizeOf207
  v44 := Tryz.zeroValue207
  t46 := Tryz.underlying210
  a46 := Tryz.isAgg210
  z46 := Tryz.sizeOf210
  v46 := Tryz.zeroValue210
  t53 := Tryz.underlying230
  a53 := Tryz.isAgg230
  z53 := Tryz.sizeOf230
  v53 := Tryz.zeroValue230
  t57 := Tryz.underlying234
  a57 := Tryz.isAgg234
  z57 := Tryz.sizeOf234
  v57 := Tryz.zeroValue234
  t63 := Tryz.underlying241
  a63 := Tryz.isAgg241
  z63 := Tryz.sizeOf241
  v63 := Tryz.zeroValue241
  t64 := Tryz.underlying51
  a64 := Tryz.isAgg51
  z64 := Tryz.sizeOf51
  v64 := Tryz.zeroValue51 }
theorem tnh109 {xs : List (Int)} {Φ : List (Int) → Prop} (hlen : xs.length ≤ 1099511627776) (hW : Φ (sortI xs)) {H : Hp} {w : World} {base : Nat} {v : Value} {n : Nat} {s : List Value} (_ : ∀ b o, H b = some o → w.heap[b]? = some o) (_ : ∀ b, v.ownBlock = some b → H b = none) (ho : w.ownsRow base 3 1 v n s) (hn : n = xs.length) (hd : DtL (α := Int) H s xs) : Calls Tryz.prog 109 (v :: fnVs []).toArray w fun e w' => e = .returned (.tuple #[]) ∧ ∃ (ys : List (Int)) (s' : List Value), Φ ys ∧ DtL (α := Int) H s' ys ∧ ys.length = xs.length ∧ w.grownBy w' v.ownBlock ∧ w'.ownsRow base 3 1 v n s' := by
  obtain rfl := DtL.ints hd
  obtain ⟨_, ⟨hv, h0⟩ | ⟨g, cap, cur, hv, _⟩⟩ := id ho
  · subst hv
    have hx : xs = [] := List.eq_nil_of_length_eq_zero (hn.symm.trans h0)
    have hc := AnyM.slices_Sort_int_none Tryz.layS none 0 w
    change Calls Tryz.prog 109 _ _ _ at hc
    refine hc.mono fun e w' ⟨h2, h3⟩ => ⟨h2, xs, _, ?_, hd, rfl, ?_, ?_⟩
    · rw [hx] at hW ⊢; exact hW
    · rw [h3]; exact ⟨rfl, rfl, rfl, Nat.le_refl _, fun _ _ _ => rfl⟩
    · rw [h3]; exact ho
  · subst hv
    obtain ⟨hH, hb⟩ := owns_holds (enc := Value.int .i64) (d := xs.toArray) ho (by simp)
    have hc := AnyM.slices_Sort_int Tryz.layS g 0 cap xs w hH hb (by omega)
    change Calls Tryz.prog 109 _ _ _ at hc
    rw [← hn] at hc
    refine hc.mono fun e w' ⟨h2, m, os, h3⟩ => ⟨h2, sortI xs, _, hW, DtL.ofInts _, (sortI_perm xs).length_eq, ?_, ?_⟩
    · rw [h3]; exact sorted_grown _ _ _ _ _
    · rw [h3, sortI_merge]
      have := sorted_owns (Value.int .i64) m (sortI xs).toArray os ho (by rw [List.size_toArray, (sortI_perm xs).length_eq, hn]; exact (Nat.mul_one _).symm)
      exact this
theorem tnok109 : tn109.Ok Tryz.prog gh := fun _ _ hW _ _ _ _ _ _ _ hag hap ho hn hd => tnh109 hW.1 hW.2 hag hap ho hn hd
theorem pk22 (v : Value) (cs : List Value) : PkR Tryz.prog 22 v cs = (cs = [v]) := by kernel_rfl
set_option maxRecDepth 100000 in
theorem ok110 : ct110.Ok Tryz.prog tab gh := by
  intro x Φ hW H vs hG hA
  obtain ⟨v0, k0, q0, rfl, p0, r0, hq⟩ := hA
  obtain rfl : q0 = [] := hq
  rw [pk22] at p0
  subst p0
  obtain ⟨A, n, c, cells, e0, hF⟩ := (show Dt.rd (α := List Int) H _ _ from r0)
  obtain rfl := (List.cons.inj e0).1
  obtain ⟨hs, hΦ⟩ := (show smallB x.1 = true ∧ Φ (textS x.1, ()) from hW)
  intro w hw
  refine (text_calls hF hs w hw).mono fun e w' ⟨h1, h2⟩ => ⟨_, H, [], h1, (Mem.start hw).frame h2, _, hΦ, fun nx ρ0 hn0 s b m hre => ?_⟩
  rw [show resE Tryz.prog tab ct110.rs ct110.own (textS x.1, ()) nx = some (.st (textS x.1), [], nx) by kernel_rfl] at hre
  cases hre
  exact ⟨ρ0, RM.le.refl _, Nat.le_refl _, hn0, fun _ _ => rfl, rfl, rfl⟩
def Tryz.layF_ren : Go.Shelf.Ren := ⟨fun | 6 => 111 | 15 => 150 | 14 => 154 | 28 => 175 | 29 => 176 | 20 => 179 | 21 => 180 | 22 => 181 | 23 => 182 | 24 => 183 | 25 => 184 | 26 => 185 | 27 => 186 | 46 => 197 | 47 => 191 | 48 => 192 | 49 => 198 | 50 => 199 | 57 => 205 | n => n, fun | 22 => 29 | 24 => 22 | 25 => 147 | 3 => 3 | 39 => 185 | 0 => 0 | 53 => 207 | 55 => 210 | 4 => 4 | 46 => 215 | 45 => 214 | 50 => 173 | 5 => 5 | 9 => 9 | 66 => 230 | 70 => 234 | 76 => 241 | 77 => 51 | n => n, fun | n => n⟩
theorem Tryz.layF : Go.Proofs.SlLaysF.n6 Tryz.prog Tryz.layF_ren := {
  mixed := by kernel_rfl
  f6 := ⟨Tryz.f111.name, by decide, Tryz.func111.trans (congrArg some (by kernel_rfl))⟩
  f14 := ⟨Tryz.f154.name, by decide, Tryz.func154.trans (congrArg some (by kernel_rfl))⟩
  f15 := Tryz.func150.trans (congrArg some (by kernel_rfl))
  f20 := ⟨Tryz.f179.name, by decide, Tryz.func179.trans (congrArg some (by kernel_rfl))⟩
  f21 := ⟨Tryz.f180.name, by decide, Tryz.func180.trans (congrArg some (by kernel_rfl))⟩
  f22 := ⟨Tryz.f181.name, by decide, Tryz.func181.trans (congrArg some (by kernel_rfl))⟩
  f23 := ⟨Tryz.f182.name, by decide, Tryz.func182.trans (congrArg some (by kernel_rfl))⟩
  f24 := ⟨Tryz.f183.name, by decide, Tryz.func183.trans (congrArg some (by kernel_rfl))⟩
  f25 := ⟨Tryz.f184.name, by decide, Tryz.func184.trans (congrArg some (by kernel_rfl))⟩
  f26 := ⟨Tryz.f185.name, by decide, Tryz.func185.trans (congrArg some (by kernel_rfl))⟩
  f27 := ⟨Tryz.f186.name, by decide, Tryz.func186.trans (congrArg some (by kernel_rfl))⟩
  f28 := Tryz.func175.trans (congrArg some (by kernel_rfl))
  f29 := Tryz.func176.trans (congrArg some (by kernel_rfl))
  f46 := ⟨Tryz.f197.name, by decide, Tryz.func197.trans (congrArg some (by kernel_rfl))⟩
  f47 := Tryz.func191.trans (congrArg some (by kernel_rfl))
  f48 := Tryz.func192.trans (congrArg some (by kernel_rfl))
  f49 := ⟨Tryz.f198.name, by decide, Tryz.func198.trans (congrArg some (by kernel_rfl))⟩
  f50 := ⟨Tryz.f199.name, by decide, Tryz.func199.trans (congrArg some (by kernel_rfl))⟩
  f57 := ⟨Tryz.f205.name, by decide, Tryz.func205.trans (congrArg some (by kernel_rfl))⟩
  t0 := Tryz.underlying0
  a0 := Tryz.isAgg0
  z0 := Tryz.sizeOf0
  v0 := Tryz.zeroValue0
  t3 := Tryz.underlying3
  a3 := Tryz.isAgg3
  z3 := Tryz.sizeOf3
  v3 := Tryz.zeroValue3
  t4 := Tryz.underlying4
  a4 := Tryz.isAgg4
  z4 := Tryz.sizeOf4
  v4 := Tryz.zeroValue4
  t5 := Tryz.underlying5
  a5 := Tryz.isAgg5
  z5 := Tryz.sizeOf5
  v5 := Tryz.zeroValue5
  t9 := Tryz.underlying9
  a9 := Tryz.isAgg9
  z9 := Tryz.sizeOf9
  v9 := Tryz.zeroValue9
  t22 := Tryz.underlying29
  a22 := Tryz.isAgg29
  z22 := Tryz.sizeOf29
  v22 := Tryz.zeroValue29
  a24 := Tryz.isAgg22
  z24 := Tryz.sizeOf22
  t25 := Tryz.underlying147
  a25 := Tryz.isAgg147
  z25 := Tryz.sizeOf147
  v25 := Tryz.zeroValue147
  t39 := Tryz.underlying185
  a39 := Tryz.isAgg185
  z39 := Tryz.sizeOf185
  v39 := Tryz.zeroValue185
  t45 := Tryz.underlying214
  a45 := Tryz.isAgg214
  z45 := Tryz.sizeOf214
  v45 := Tryz.zeroValue214
  t46 := Tryz.underlying215
  a46 := Tryz.isAgg215
  z46 := Tryz.sizeOf215
  v46 := Tryz.zeroValue215
  t50 := Tryz.underlying173
  a50 := Tryz.isAgg173
  z50 := Tryz.sizeOf173
  v50 := Tryz.zeroValue173
  t53 := Tryz.underlying207
  a53 := Tryz.isAgg207
  z53 := Tryz.sizeOf207
  v53 := Tryz.zeroValue207
  t55 := Tryz.underlying210
  a55 := Tryz.isAgg210
  z55 := Tryz.sizeOf210
  v55 := Tryz.zeroValue210
  t66 := Tryz.underlying230
  a66 := Tryz.isAgg230
  z66 := Tryz.sizeOf230
  v66 := Tryz.zeroValue230
  t70 := Tryz.underlying234
  a70 := Tryz.isAgg234
  z70 := Tryz.sizeOf234
  v70 := Tryz.zeroValue234
  t76 := Tryz.underlying241
  a76 := Tryz.isAgg241
  z76 := Tryz.sizeOf241
  v76 := Tryz.zeroValue241
  t77 := Tryz.underlying51
  a77 := Tryz.isAgg51
  z77 := Tryz.sizeOf51
  v77 := Tryz.zeroValue51 }
theorem tnh111 {xs : List (List Int)} {Φ : List (List Int) → Prop} (hlen : xs.length ≤ 1099511627776) (hW : Φ (sortL xs)) {H : Hp} {w : World} {base : Nat} {v : Value} {n : Nat} {s : List Value} (hag : ∀ b o, H b = some o → w.heap[b]? = some o) (hap : ∀ b, v.ownBlock = some b → H b = none) (ho : w.ownsRow base 22 1 v n s) (hn : n = xs.length) (hd : DtL (α := List Int) H s xs) : Calls Tryz.prog 111 (v :: fnVs [112]).toArray w fun e w' => e = .returned (.tuple #[]) ∧ ∃ (ys : List (List Int)) (s' : List Value), Φ ys ∧ DtL (α := List Int) H s' ys ∧ ys.length = xs.length ∧ w.grownBy w' v.ownBlock ∧ w'.ownsRow base 22 1 v n s' := by
  obtain ⟨l, e1, e2⟩ := DtL.els hd
  have hll : l.length = n := by rw [hn, e2, List.length_map]
  have none : ∀ p cap, v = .slice p 0 cap → n = 0 → Calls Tryz.prog 111 (v :: fnVs [112]).toArray w fun e w' => e = .returned (.tuple #[]) ∧ ∃ (ys : List (List Int)) (s' : List Value), Φ ys ∧ DtL (α := List Int) H s' ys ∧ ys.length = xs.length ∧ w.grownBy w' v.ownBlock ∧ w'.ownsRow base 22 1 v n s' := by
    intro p cap hv h0
    have hx : xs = [] := List.eq_nil_of_length_eq_zero (hn.symm.trans h0)
    have hc := AnyF.slices_SortFunc_none (P := Tryz.prog) (ρ := Tryz.layF_ren) { Tryz.layF with } p cap (.func (.func 112) #[] #[]) w
    change Calls Tryz.prog 111 _ _ _ at hc
    rw [hv]
    refine hc.mono fun e w' ⟨h2, h3⟩ => ⟨h2, xs, s, ?_, hd, rfl, ?_, ?_⟩
    · rw [hx] at hW ⊢; exact hW
    · rw [h3]; exact ⟨rfl, rfl, rfl, Nat.le_refl _, fun _ _ _ => rfl⟩
    · rw [h3, ← hv]; exact ho
  obtain ⟨_, ⟨hv, h0⟩ | ⟨g, cap, cur, hv, _⟩⟩ := id ho
  · exact none _ _ hv h0
  · cases hl : l with
    | nil =>
      have h0 : n = 0 := by rw [← hll, hl]; rfl
      subst h0
      exact none _ _ hv rfl
    | cons p0 l' =>
      haveI : Inhabited (ElL H) := ⟨p0⟩
      subst hv
      obtain ⟨hH, hb⟩ := owns_holds (enc := fun p : ElL H => p.1.1) (d := l.toArray) ho (by simpa using e1)
      have hgH : H g = Option.none := hap g rfl
      have eg : ∀ args w, (callFunc 112 args).run Tryz.prog w = .ok (.enter 112 args) w := enters_of Tryz.func112 (by kernel_rfl) rfl
      have hcmp : CmpLays1 Tryz.prog 112 #[] (fun p : ElL H => p.1.1) (fun p q => cmpL p.1.2 q.1.2) g 0 l.toArray.size w := fun m os dk _ p q => by
        have := cmp_calls p q (sortWorld (fun p : ElL H => p.1.1) w g 0 m dk os) fun b o hbo => by
          have h1 := hag b o hbo
          have hne : b ≠ g := by rintro rfl; rw [hgH] at hbo; cases hbo
          unfold sortWorld
          rw [sorted_old _ _ _ _ _ (lt_of_heap h1) hne]; exact h1
        exact this
      have hc := Any.slices_SortFunc Tryz.layF (fun p : ElL H => p.1.1) ElL.one (fun p q => cmpL p.1.2 q.1.2) (swoL H) 112 #[] g 0 cap l.toArray w eg hcmp hH hb (by rw [List.size_toArray, hll]; omega)
      change Calls Tryz.prog 111 _ _ _ at hc
      rw [List.size_toArray, hll] at hc
      refine hc.mono fun e w' ⟨h2, d', m, os, hp, hso, h3⟩ => ?_
      have hd' : d'.size = n := by rw [hp.1, List.size_toArray, hll]
      have hpe : d'.toList.Perm l := by
        have h4 := hp.2.2
        rw [show d'.extract 0 n = d' by rw [← hd']; simp, show l.toArray.extract 0 n = l.toArray by rw [← hll]; simp] at h4
        simpa using h4
      have hys : d'.toList.map (fun p => p.1.2) = sortL xs := by
        rw [e2]
        refine sortL_of (hpe.map _) (List.pairwise_iff_getElem.2 fun i j hi hj hij => ?_)
        have hi' : i < d'.size := by simpa using hi
        have hj' : j < d'.size := by simpa using hj
        have h5 := hso i j (Nat.zero_le _) hij (by rw [hd'] at hj'; exact hj')
        rw [getElem!_pos d' j hj', getElem!_pos d' i hi'] at h5
        simpa using ltL_false.1 h5
      refine ⟨h2, sortL xs, d'.toList.map (fun p => p.1.1), hW, ?_, (sortL_perm xs).length_eq, ?_, ?_⟩
      · rw [← hys]; exact DtL.ofEls _
      · rw [h3]; exact sorted_grown _ _ _ _ _
      · rw [h3]; exact sorted_owns (fun p : ElL H => p.1.1) m d' os ho (by rw [hd']; exact (Nat.mul_one _).symm)
theorem tnok111 : tn111.Ok Tryz.prog gh := fun _ _ hW _ _ _ _ _ _ _ hag hap ho hn hd => tnh111 hW.1 hW.2 hag hap ho hn hd
theorem ok60 : ct60.Ok Tryz.prog tab gh := Ct.lift (E := ⟨Tryz.prog, tab, [ct43, ct107, ct108, ct110], pl60, [], gh, [tn109, tn111]⟩) ⟨tabOk, ⟨ok43, ok107, ok108, ok110, trivial⟩, mo, trivial, ghUp, ⟨tnok109, tnok111, trivial⟩⟩ 9 ct60 fun x Φ => by rw [eq60]; exact id
theorem ok14 : ct14.Ok Tryz.prog tab gh := Ct.lift (E := ⟨Tryz.prog, tab, [ct32, ct60, ct106], pl14, [], gh, []⟩) ⟨tabOk, ⟨ok32, ok60, ok106, trivial⟩, mo, trivial, ghUp, trivial⟩ 9 ct14 fun x Φ => by rw [eq14]; exact id
theorem ok68 : ct68.Ok Tryz.prog tab gh := Ct.lift (E := ⟨Tryz.prog, tab, [], pl68, [], gh, []⟩) ⟨tabOk, trivial, mo, trivial, ghUp, trivial⟩ 9 ct68 fun x Φ => by rw [eq68]; exact id
theorem itok121 : it121.Ok Tryz.prog gh := It.lift (E := ⟨Tryz.prog, tab, [], pl121, [], gh, []⟩) ⟨tabOk, trivial, mo, trivial, ghUp, trivial⟩ it121 fun x l => by rw [eqi121]; exact id
theorem ok71 : ct71.Ok Tryz.prog tab gh := Ct.lift (E := ⟨Tryz.prog, tab, [], pl71, [it121], gh, []⟩) ⟨tabOk, trivial, mo, ⟨itok121, trivial⟩, ghUp, trivial⟩ 9 ct71 fun x Φ => by rw [eq71]; exact id
theorem ok17 : ct17.Ok Tryz.prog tab gh := Ct.lift (E := ⟨Tryz.prog, tab, [ct32, ct68, ct70, ct71, ct106, ct107], pl17, [it121], gh, []⟩) ⟨tabOk, ⟨ok32, ok68, ok70, ok71, ok106, ok107, trivial⟩, mo, ⟨itok121, trivial⟩, ghUp, trivial⟩ 9 ct17 fun x Φ => by rw [eq17]; exact id
theorem ok19 : ct19.Ok Tryz.prog tab gh := Ct.lift (E := ⟨Tryz.prog, tab, [ct32, ct68, ct70, ct71, ct106, ct107], pl19, [it121], gh, []⟩) ⟨tabOk, ⟨ok32, ok68, ok70, ok71, ok106, ok107, trivial⟩, mo, ⟨itok121, trivial⟩, ghUp, trivial⟩ 9 ct19 fun x Φ => by rw [eq19]; exact id
theorem ok120 : ct120.Ok Tryz.prog tab gh := Ct.lift (E := ⟨Tryz.prog, tab, [ct70], pl120, [it121], gh, []⟩) ⟨tabOk, ⟨ok70, trivial⟩, mo, ⟨itok121, trivial⟩, ghUp, trivial⟩ 9 ct120 fun x Φ => by rw [eq120]; exact id
theorem ok28 : ct28.Ok Tryz.prog tab gh := Ct.lift (E := ⟨Tryz.prog, tab, [ct32, ct68, ct70, ct71, ct106, ct107, ct120], pl28, [it121], gh, []⟩) ⟨tabOk, ⟨ok32, ok68, ok70, ok71, ok106, ok107, ok120, trivial⟩, mo, ⟨itok121, trivial⟩, ghUp, trivial⟩ 9 ct28 fun x Φ => by rw [eq28]; exact id
theorem ok30 : ct30.Ok Tryz.prog tab gh := Ct.lift (E := ⟨Tryz.prog, tab, [ct32, ct106, ct107, ct120], pl30, [], gh, []⟩) ⟨tabOk, ⟨ok32, ok106, ok107, ok120, trivial⟩, mo, trivial, ghUp, trivial⟩ 9 ct30 fun x Φ => by rw [eq30]; exact id
theorem ok66 : ct66.Ok Tryz.prog tab gh := Ct.lift (E := ⟨Tryz.prog, tab, [], pl66, [], gh, []⟩) ⟨tabOk, trivial, mo, trivial, ghUp, trivial⟩ 9 ct66 fun x Φ => by rw [eq66]; exact id
theorem ok16 : ct16.Ok Tryz.prog tab gh := Ct.lift (E := ⟨Tryz.prog, tab, [ct66], pl16, [], gh, []⟩) ⟨tabOk, ⟨ok66, trivial⟩, mo, trivial, ghUp, trivial⟩ 9 ct16 fun x Φ => by rw [eq16]; exact id
theorem ok23 : ct23.Ok Tryz.prog tab gh := Ct.lift (E := ⟨Tryz.prog, tab, [], pl23, [], gh, []⟩) ⟨tabOk, trivial, mo, trivial, ghUp, trivial⟩ 9 ct23 fun x Φ => by rw [eq23]; exact id
theorem ok13 : ct13.Ok Tryz.prog tab gh := Ct.lift (E := ⟨Tryz.prog, tab, [ct14, ct16, ct17, ct19, ct23, ct28, ct30, ct58], pl13, [], gh, []⟩) ⟨tabOk, ⟨ok14, ok16, ok17, ok19, ok23, ok28, ok30, ok58, trivial⟩, mo, trivial, ghUp, trivial⟩ 9 ct13 fun x Φ => by rw [eq13]; exact id
theorem ok113 : ct113.Ok Tryz.prog tab gh := Ct.lift (E := ⟨Tryz.prog, tab, [], pl113, [], gh, []⟩) ⟨tabOk, trivial, mo, trivial, ghUp, trivial⟩ 9 ct113 fun x Φ => by rw [eq113]; exact id
theorem ok114 : ct114.Ok Tryz.prog tab gh := Ct.lift (E := ⟨Tryz.prog, tab, [], pl114, [], gh, []⟩) ⟨tabOk, trivial, mo, trivial, ghUp, trivial⟩ 9 ct114 fun x Φ => by rw [eq114]; exact id
theorem ok116 : ct116.Ok Tryz.prog tab gh := Ct.lift (E := ⟨Tryz.prog, tab, [], pl116, [], gh, []⟩) ⟨tabOk, trivial, mo, trivial, ghUp, trivial⟩ 9 ct116 fun x Φ => by rw [eq116]; exact id
theorem ok115 : ct115.Ok Tryz.prog tab gh := Ct.lift (E := ⟨Tryz.prog, tab, [], pl115, [], gh, []⟩) ⟨tabOk, trivial, mo, trivial, ghUp, trivial⟩ 9 ct115 fun x Φ => by rw [eq115]; exact id
theorem ok61 : ct61.Ok Tryz.prog tab gh := Ct.lift (E := ⟨Tryz.prog, tab, [ct113, ct114, ct115, ct116], pl61, [], gh, []⟩) ⟨tabOk, ⟨ok113, ok114, ok115, ok116, trivial⟩, mo, trivial, ghUp, trivial⟩ 9 ct61 fun x Φ => by rw [eq61]; exact id
theorem ok62 : ct62.Ok Tryz.prog tab gh := Ct.lift (E := ⟨Tryz.prog, tab, [], pl62, [], gh, []⟩) ⟨tabOk, trivial, mo, trivial, ghUp, trivial⟩ 9 ct62 fun x Φ => by rw [eq62]; exact id
theorem ok63 : ct63.Ok Tryz.prog tab gh := Ct.lift (E := ⟨Tryz.prog, tab, [], pl63, [], gh, []⟩) ⟨tabOk, trivial, mo, trivial, ghUp, trivial⟩ 9 ct63 fun x Φ => by rw [eq63]; exact id
theorem ok65 : ct65.Ok Tryz.prog tab gh := Ct.lift (E := ⟨Tryz.prog, tab, [], pl65, [], gh, []⟩) ⟨tabOk, trivial, mo, trivial, ghUp, trivial⟩ 9 ct65 fun x Φ => by rw [eq65]; exact id
theorem ok117 : ct117.Ok Tryz.prog tab gh := Ct.lift (E := ⟨Tryz.prog, tab, [], pl117, [], gh, []⟩) ⟨tabOk, trivial, mo, trivial, ghUp, trivial⟩ 9 ct117 fun x Φ => by rw [eq117]; exact id
theorem ok64 : ct64.Ok Tryz.prog tab gh := Ct.lift (E := ⟨Tryz.prog, tab, [ct66, ct117], pl64, [], gh, []⟩) ⟨tabOk, ⟨ok66, ok117, trivial⟩, mo, trivial, ghUp, trivial⟩ 9 ct64 fun x Φ => by rw [eq64]; exact id
theorem ok15 : ct15.Ok Tryz.prog tab gh := Ct.lift (E := ⟨Tryz.prog, tab, [ct61, ct62, ct63, ct64, ct65], pl15, [], gh, []⟩) ⟨tabOk, ⟨ok61, ok62, ok63, ok64, ok65, trivial⟩, mo, trivial, ghUp, trivial⟩ 9 ct15 fun x Φ => by rw [eq15]; exact id
theorem ok3 : ct3.Ok Tryz.prog tab gh := Ct.lift (E := ⟨Tryz.prog, tab, [ct12, ct13, ct14, ct15, ct16], pl3, [], gh, []⟩) ⟨tabOk, ⟨ok12, ok13, ok14, ok15, ok16, trivial⟩, mo, trivial, ghUp, trivial⟩ 9 ct3 fun x Φ => by rw [eq3]; exact id
section
theorem iI {x : Int} (h1 : -9223372036854775808 ≤ x) (h2 : x ≤ 9223372036854775807) : inI x := ⟨h1, h2⟩
theorem iX {i : Int} {n : Nat} (h1 : 0 ≤ i) (h2 : i < (n : Int)) : inX i n := ⟨h1, h2⟩
theorem iS {a b : Int} {n : Nat} (h1 : 0 ≤ a) (h2 : a ≤ b) (h3 : b ≤ (n : Int)) : inS a b n := ⟨h1, h2, h3⟩
theorem iL {n b : Nat} (h : n ≤ 1000000) (hb : b ≤ 1000000) : lenOk n b := by
  have := Nat.mul_le_mul h hb
  refine ⟨by omega, ?_⟩
  simp only [maxLen]
  omega
section
variable {α : Type} [Dt α]
theorem ix_get {xs : List α} {k : Nat} (h : k < xs.length) : ix xs (k : Int) = xs[k] := by
  show xs.getD k default = _
  rw [List.getD_eq_getElem?_getD, List.getElem?_eq_getElem h]; rfl
theorem take_ix {xs : List α} {k : Nat} (h : k < xs.length) : xs.take (k + 1) = xs.take k ++ [ix xs (k : Int)] := by
  rw [ix_get h]; exact (List.take_append_getElem h).symm
theorem ix_mem {xs : List α} {i : Int} (h : inX i xs.length) : ix xs i ∈ xs := by
  have e := h.nat
  have hl := h.lt
  rw [e, ix_get hl]
  exact List.getElem_mem hl
theorem drop_ix {xs : List α} {k : Nat} (h : k < xs.length) : xs.drop k = ix xs (k : Int) :: xs.drop (k + 1) := by
  rw [ix_get h]; exact List.drop_eq_getElem_cons h
theorem ext_ix {xs ys : List α} (hl : xs.length = ys.length) (h : ∀ k : Nat, k < xs.length → ix xs (k : Int) = ix ys (k : Int)) : xs = ys := by
  apply List.ext_getElem hl
  intro k h1 h2
  have := h k h1
  rwa [ix_get h1, ix_get h2] at this
end
section
variable {A : Type}
theorem LoopW.up {step : Int → (Int → Prop) → Prop} (n : Nat) (Inv : Nat → Prop) (h : ∀ (k : Nat) rec, k ≤ n → Inv k → (k < n → Inv (k + 1) → rec ((k : Int) + 1)) → step (k : Int) rec) {k0 : Nat} {i0 : Int} (hi : i0 = (k0 : Int)) (hk : k0 ≤ n) (h0 : Inv k0) : LoopW step i0 := by
  subst hi
  refine LoopW.of_inv (fun i => ∃ k : Nat, i = (k : Int) ∧ k ≤ n ∧ Inv k) (fun i => n - i.toNat) ?_ ⟨k0, rfl, hk, h0⟩
  rintro _ rec ⟨k, rfl, hk, hI⟩ hrec
  refine h k rec hk hI fun hlt hI' => hrec _ ⟨k + 1, rfl, hlt, hI'⟩ ?_
  simp only [Int.toNat_natCast]
  omega
def firstN (f : Nat → Int) : Nat → Int
  | 0 => 0
  | n + 1 => if firstN f n ≠ 0 then firstN f n else f n
theorem firstN_hit {f : Nat → Int} : ∀ {n k : Nat}, k < n → (∀ j, j < k → f j = 0) → f k ≠ 0 → firstN f n = f k
  | 0, _, hk, _, _ => by omega
  | n + 1, k, hk, h0, h1 => by
    unfold firstN
    rcases Nat.lt_or_ge k n with h | h
    · rw [firstN_hit h h0 h1, if_pos h1]
    · have e : k = n := by omega
      subst e
      have : firstN f k = 0 := by
        clear h1 hk h
        induction k with
        | zero => rfl
        | succ k ih => unfold firstN; rw [ih fun j hj => h0 j (by omega), if_neg (by simp), h0 k (by omega)]
      rw [this, if_neg (by simp)]
theorem firstN_zero {f : Nat → Int} : ∀ {n : Nat}, firstN f n = 0 ↔ ∀ k, k < n → f k = 0
  | 0 => by simp [firstN]
  | n + 1 => by
    unfold firstN
    constructor
    · intro h k hk
      by_cases h1 : firstN f n ≠ 0
      · rw [if_pos h1] at h; exact absurd h h1
      · rw [if_neg h1] at h
        rcases Nat.lt_or_ge k n with hlt | hge
        · exact (firstN_zero.1 (Classical.not_not.1 h1)) k hlt
        · have : k = n := by omega
          subst this; exact h
    · intro h
      rw [if_neg (by rw [firstN_zero.2 fun k hk => h k (by omega)]; simp), h n (by omega)]
def allN (p : Nat → Bool) (n : Nat) : Bool := (List.range n).all p
theorem allN_true {p : Nat → Bool} {n : Nat} : allN p n = true ↔ ∀ k, k < n → p k = true := by simp [allN]
theorem allN_false {p : Nat → Bool} {n k : Nat} (hk : k < n) (h : p k = false) : allN p n = false := by
  cases hx : allN p n with
  | false => rfl
  | true => rw [allN_true.1 hx k hk] at h; cases h
theorem LoopW.allL {step : Int → (Int → Prop) → Prop} (n : Nat) (p : Nat → Bool) {Φ : Bool → Prop} (hΦ : Φ (allN p n)) (h : ∀ (k : Nat) rec, k < n → (∀ j, j < k → p j = true) → (p k = false → Φ false) → (p k = true → rec ((k : Int) + 1)) → step (k : Int) rec)
    (he : ∀ rec, Φ true → (∀ j, j < n → p j = true) → step (n : Int) rec) : LoopW step 0 := by
  refine LoopW.up n (fun k => ∀ j, j < k → p j = true) ?_ rfl (Nat.zero_le _) (fun j hj => absurd hj (Nat.not_lt_zero j))
  intro k rec hk hI hrec
  rcases Nat.lt_or_ge k n with hlt | hge
  · refine h k rec hlt hI (fun h1 => by rw [allN_false hlt h1] at hΦ; exact hΦ) fun h0 => hrec hlt fun j hj => ?_
    rcases Nat.lt_or_ge j k with h2 | h2
    · exact hI j h2
    · have : j = k := by omega
      subst this; exact h0
  · have e : k = n := by omega
    subst e
    exact he rec (by rw [allN_true.2 hI] at hΦ; exact hΦ) hI
end
end
theorem LoopW.upI {S : Type} {step : S → (S → Prop) → Prop} (n : Nat) (st : Nat → S) (I : Nat → Prop) {s : S} (hs : s = st 0) (h0 : I 0)
    (h : ∀ (k : Nat) rec, k < n → I k → (I (k + 1) → ∀ s, s = st (k + 1) → rec s) → step (st k) rec) (he : ∀ rec, I n → step (st n) rec) : LoopW step s := by
  have key : ∀ m k, k + m = n → I k → LoopN step (m + 1) (st k) := by
    intro m
    induction m with
    | zero => intro k hk hI; obtain rfl : k = n := hk; exact he _ hI
    | succ m ih => intro k hk hI; exact h k _ (by omega) hI fun hI' s hs => by rw [hs]; exact ih (k + 1) (by omega) hI'
  exact ⟨n + 1, by rw [hs]; exact key n 0 (by omega) h0⟩
theorem LoopW.upT {S : Type} {step : S → (S → Prop) → Prop} (n : Nat) (st : Nat → S) {s : S} (hs : s = st 0)
    (h : ∀ (k : Nat) rec, k < n → (∀ s, s = st (k + 1) → rec s) → step (st k) rec) (he : ∀ rec, step (st n) rec) : LoopW step s :=
  LoopW.upI n st (fun _ => True) hs trivial (fun k rec hk _ hr => h k rec hk (hr trivial)) fun rec _ => he rec
theorem LoopW.findI {step : Int → (Int → Prop) → Prop} (n : Nat) (p : Nat → Bool) (h : ∀ (k : Nat) rec, k < n → (∀ j, j < k → p j = false) → (p k = false → rec ((k : Int) + 1)) → step (k : Int) rec)
    (he : ∀ rec, (∀ j, j < n → p j = false) → step (n : Int) rec) : LoopW step 0 :=
  LoopW.upI n (fun k => (k : Int)) (fun k => ∀ j, j < k → p j = false) rfl (fun j hj => absurd hj (Nat.not_lt_zero j)) (fun k rec hk hI hr => h k rec hk hI fun hp => hr (fun j hj => by
    rcases Nat.lt_or_ge j k with h2 | h2
    · exact hI j h2
    · obtain rfl : j = k := by omega
      exact hp) _ rfl) he
theorem any_ix {α : Type} [Dt α] {xs : List α} {p : α → Bool} : xs.any p = true ↔ ∃ k, k < xs.length ∧ p (ix xs (k : Int)) = true := by
  rw [List.any_eq_true]
  constructor
  · rintro ⟨x, hx, hp⟩
    obtain ⟨k, hk, rfl⟩ := List.getElem_of_mem hx
    exact ⟨k, hk, by rw [ix_get hk]; exact hp⟩
  · rintro ⟨k, hk, hp⟩
    exact ⟨xs[k], List.getElem_mem hk, by rw [ix_get hk] at hp; exact hp⟩
theorem any_false_ix {α : Type} [Dt α] {xs : List α} {p : α → Bool} (h : ∀ k, k < xs.length → p (ix xs (k : Int)) = false) : xs.any p = false := by
  rw [Bool.eq_false_iff]
  intro q
  obtain ⟨k, hk, hp⟩ := any_ix.1 q
  rw [h k hk] at hp; cases hp
theorem any_true_ix {α : Type} [Dt α] {xs : List α} {p : α → Bool} {k : Nat} (hk : k < xs.length) (h : p (ix xs (k : Int)) = true) : xs.any p = true := any_ix.2 ⟨k, hk, h⟩
theorem LoopW.anyL {α : Type} [Dt α] {step : Int → (Int → Prop) → Prop} (xs : List α) (p : α → Bool) {Φ : Bool → Prop} (hΦ : Φ (xs.any p)) (h : ∀ (k : Nat) rec, k < xs.length → (p (ix xs (k : Int)) = true → Φ true) → (p (ix xs (k : Int)) = false → rec ((k : Int) + 1)) → step (k : Int) rec)
    (he : ∀ rec, Φ false → step (xs.length : Int) rec) : LoopW step 0 :=
  LoopW.findI xs.length (fun k => p (ix xs (k : Int))) (fun k rec hk _ hr => h k rec hk (fun hp => by rw [any_true_ix hk hp] at hΦ; exact hΦ) hr) fun rec hn => he rec (by rw [any_false_ix hn] at hΦ; exact hΦ)
theorem LoopW.allE {α : Type} [Dt α] {step : Int → (Int → Prop) → Prop} (xs : List α) (p : α → Bool) {Φ : Bool → Prop} (hΦ : Φ (xs.all p)) (h : ∀ (k : Nat) rec, k < xs.length → (p (ix xs (k : Int)) = false → Φ false) → (p (ix xs (k : Int)) = true → rec ((k : Int) + 1)) → step (k : Int) rec)
    (he : ∀ rec, Φ true → step (xs.length : Int) rec) : LoopW step 0 := by
  have e : xs.all p = !(xs.any fun x => !p x) := by simp [List.all_eq_not_any_not]
  rw [e] at hΦ
  refine LoopW.anyL xs (fun x => !p x) (Φ := fun b => Φ (!b)) hΦ (fun k rec hk h1 h2 => h k rec hk (fun hp => h1 (by simp [hp])) fun hp => h2 (by simp [hp])) he
theorem len_snoc {α : Type} (xs : List α) (x : α) : (xs ++ [x]).length = xs.length + 1 := by simp
theorem lenT {α : Type} {xs : List α} {k : Nat} (h : k ≤ xs.length) : (xs.take k).length = k := by rw [List.length_take]; omega
theorem take_all {α : Type} (xs : List α) : xs.take xs.length = xs := List.take_length
theorem map_take_snoc {α β : Type} [Dt α] {xs : List α} {k : Nat} (f : α → β) (h : k < xs.length) : (xs.take (k + 1)).map f = (xs.take k).map f ++ [f (ix xs (k : Int))] := by rw [take_ix h, List.map_append]; rfl
theorem filter_range_snoc (k : Nat) (p : Nat → Bool) : (List.range (k + 1)).filter p = (List.range k).filter p ++ (if p k then [k] else []) := by
  rw [List.range_succ, List.filter_append]; congr 1; by_cases hp : p k = true <;> simp [hp]
theorem LoopW.errI {S : Type} {step : S → (S → Prop) → Prop} (n : Nat) (st : Nat → S) (f : Nat → Int) {Ψ : Int → Prop} {s : S} (hs : s = st 0) (hΨ : Ψ (firstN f n))
    (h : ∀ (k : Nat) rec, k < n → (∀ j, j < k → f j = 0) → (f k ≠ 0 → Ψ (f k)) → (f k = 0 → ∀ s, s = st (k + 1) → rec s) → step (st k) rec) (he : ∀ rec, (∀ j, j < n → f j = 0) → Ψ 0 → step (st n) rec) : LoopW step s :=
  LoopW.upI n st (fun k => ∀ j, j < k → f j = 0) hs (fun j hj => absurd hj (Nat.not_lt_zero j)) (fun k rec hk hI hr => h k rec hk hI (fun h1 => by rw [firstN_hit hk hI h1] at hΨ; exact hΨ) fun h0 => hr fun j hj => by
    rcases Nat.lt_or_ge j k with h2 | h2
    · exact hI j h2
    · obtain rfl : j = k := by omega
      exact h0) fun rec hI => he rec hI (by rw [firstN_zero.2 hI] at hΨ; exact hΨ)
def sizesE (l : List Int) : Int := if (l.length : Int) < 1 ∨ 8 < (l.length : Int) then 6 else firstN (fun k => if ix l (k : Int) < 1 ∨ 4096 < ix l (k : Int) then 2 else 0) l.length
def szs (im : List (List Sec)) : List Int := im.map fun v => (v.length : Int)
def imgE (im : List (List Sec)) : Int := sizesE (szs im)
theorem szs_len (im : List (List Sec)) : (szs im).length = im.length := by unfold szs; rw [List.length_map]
theorem ix_szs {im : List (List Sec)} {k : Nat} (h : k < im.length) : ix (szs im) (k : Int) = ((ix im (k : Int)).length : Int) := by
  rw [ix_get (by rw [szs_len]; exact h), ix_get h]; unfold szs; rw [List.getElem_map]
theorem sizesE_len {l : List Int} (h : sizesE l = 0) : 1 ≤ l.length ∧ l.length ≤ 8 := by
  unfold sizesE at h
  by_cases hl : (l.length : Int) < 1 ∨ 8 < (l.length : Int)
  · rw [if_pos hl] at h; cases h
  · omega
theorem sizesE_ix {l : List Int} (h : sizesE l = 0) {k : Nat} (hk : k < l.length) : 1 ≤ ix l (k : Int) ∧ ix l (k : Int) ≤ 4096 := by
  unfold sizesE at h
  by_cases hl : (l.length : Int) < 1 ∨ 8 < (l.length : Int)
  · rw [if_pos hl] at h; cases h
  · rw [if_neg hl] at h
    have := firstN_zero.1 h k hk
    by_cases q : ix l (k : Int) < 1 ∨ 4096 < ix l (k : Int)
    · rw [if_pos q] at this; cases this
    · omega
theorem ref07_Sizes_ok {l : List Int} {Φ : Int → Prop} (hΦ : Φ (sizesE l)) : ref07_Sizes_W l Φ := by
  unfold sizesE at hΦ
  by_cases h : (l.length : Int) < 1 ∨ 8 < (l.length : Int)
  · rw [if_pos h] at hΦ
    exact ⟨fun _ => hΦ, fun _ => ⟨fun _ => hΦ, fun _ => by omega⟩⟩
  · rw [if_neg h] at hΦ
    refine ⟨fun _ => by omega, fun _ => ⟨fun _ => by omega, fun _ => ?_⟩⟩
    refine LoopW.errI l.length (fun k => (k : Int)) _ rfl hΦ (fun k rec hk _ h1 h2 => ?_) fun rec _ h0 => ⟨fun _ => by omega, fun _ => h0⟩
    refine ⟨fun _ => ⟨iX (by omega) (by omega), fun q => ?_, fun q => ⟨iX (by omega) (by omega), fun r => ?_, fun r => ⟨iI (by omega) (by omega), h2 (if_neg (by omega)) _ rfl⟩⟩⟩, fun _ => by omega⟩
    · have := h1 (by rw [if_pos (.inl q)]; omega)
      rw [if_pos (.inl q)] at this; exact this
    · have := h1 (by rw [if_pos (.inr r)]; omega)
      rw [if_pos (.inr r)] at this; exact this
theorem image_checkSizes_ok {l : List Int} {Φ : Int → Prop} (hΦ : Φ (sizesE l)) : image_checkSizes_W l Φ := by
  unfold sizesE at hΦ
  by_cases h : (l.length : Int) < 1 ∨ 8 < (l.length : Int)
  · rw [if_pos h] at hΦ
    exact ⟨fun _ => hΦ, fun _ => ⟨fun _ => hΦ, fun _ => by omega⟩⟩
  · rw [if_neg h] at hΦ
    refine ⟨fun _ => by omega, fun _ => ⟨fun _ => by omega, fun _ => ?_⟩⟩
    refine LoopW.errI l.length (fun k => (k : Int)) _ rfl hΦ (fun k rec hk _ h1 h2 => ?_) fun rec _ h0 => ⟨fun _ => by omega, fun _ => ⟨fun _ => by omega, fun _ => h0⟩⟩
    have go : ∀ q : ix l (k : Int) < 1 ∨ 4096 < ix l (k : Int), Φ 2 := fun q => by
      have := h1 (by rw [if_pos q]; omega)
      rw [if_pos q] at this; exact this
    refine ⟨fun _ => ⟨iX (by omega) (by omega), fun q => ⟨fun _ => ⟨fun _ => go (.inl q), fun _ => by omega⟩, fun r => absurd rfl r⟩, fun q => ⟨fun r => ⟨fun _ => go (.inr (of_decide_eq_true r)), fun _ => by omega⟩, fun r => ⟨iI (by omega) (by omega), h2 (if_neg (by have := of_decide_eq_false (Bool.eq_false_iff.2 r); omega)) _ rfl⟩⟩⟩, fun _ => by omega⟩
theorem image_sizes_ok {im : List (List Sec)} {Φ : List Int → Prop} (hl : im.length ≤ 100000) (hΦ : Φ (szs im)) : image_sizes_W im Φ := by
  refine ⟨by omega, iL (by omega) (by omega), ?_⟩
  refine LoopW.upT im.length (fun k => ((k : Int), (im.take k).map fun v => (v.length : Int))) rfl (fun k rec hk hr => ?_) fun rec => ⟨fun _ => by omega, fun _ => by rw [take_all]; exact hΦ⟩
  refine ⟨fun _ => ⟨iX (by omega) (by omega), iL (by rw [len_snoc, List.length_map, lenT (by omega)]; omega) (by omega), iI (by omega) (by omega), hr _ (by rw [map_take_snoc _ hk]; rfl)⟩, fun _ => by omega⟩
theorem image_Check_ok {im : List (List Sec)} {Φ : Int → Prop} (hl : im.length ≤ 100000) (hΦ : Φ (imgE im)) : image_Check_W im Φ := image_sizes_ok hl (image_checkSizes_ok hΦ)
def zeroI (l : List Int) : List (List Sec) := l.map fun n => List.replicate n.toNat sec0
theorem zeroI_len (l : List Int) : (zeroI l).length = l.length := by unfold zeroI; rw [List.length_map]
theorem ix_zeroI {l : List Int} {k : Nat} (h : k < l.length) : ix (zeroI l) (k : Int) = List.replicate (ix l (k : Int)).toNat sec0 := by
  rw [ix_get (by rw [zeroI_len]; exact h), ix_get h]; unfold zeroI; rw [List.getElem_map]
theorem szs_zeroI {l : List Int} (h : sizesE l = 0) : szs (zeroI l) = l := by
  refine ext_ix (by rw [szs_len, zeroI_len]) fun k hk => ?_
  rw [szs_len, zeroI_len] at hk
  have := sizesE_ix h hk
  rw [ix_szs (by rw [zeroI_len]; exact hk), ix_zeroI hk, List.length_replicate]; omega
theorem image_New_ok {l : List Int} {Φ : List (List Sec) × Int → Prop} (h0 : sizesE l = 0 → Φ (zeroI l, 0)) (h1 : sizesE l ≠ 0 → Φ ([], sizesE l)) : image_New_W l Φ := by
  refine image_checkSizes_ok ⟨fun q => h1 q, fun q => ?_⟩
  have q : sizesE l = 0 := Classical.not_not.1 q
  have hl := sizesE_len q
  refine ⟨by omega, iL (by omega) (by omega), ?_⟩
  refine LoopW.upT l.length (fun k => ((k : Int), (l.take k).map fun n => List.replicate n.toNat sec0)) rfl (fun k rec hk hr => ?_) fun rec => ⟨fun _ => by omega, fun _ => by rw [take_all]; exact h0 q⟩
  have := sizesE_ix q hk
  refine ⟨fun _ => ⟨iX (by omega) (by omega), by omega, iL (by omega) (by omega), iL (by rw [len_snoc, List.length_map, lenT (by omega)]; omega) (by omega), iI (by omega) (by omega), hr _ (by rw [map_take_snoc _ hk]; rfl)⟩, fun _ => by omega⟩
def fitW (l : List Int) (w : api_Write) : Int := if w.Volume < 0 ∨ (l.length : Int) ≤ w.Volume then 7 else if (w.Data.length : Int) = 0 then 1 else if w.Start < 0 ∨ ix l w.Volume - w.Start < (w.Data.length : Int) then 2 else 0
theorem image_fits_ok {im : List (List Sec)} {w : api_Write} {Φ : Int → Prop} (hd : w.Data.length ≤ 1000000) (hv : ∀ k : Nat, k < im.length → (ix im (k : Int)).length ≤ 1000000) (hΦ : Φ (fitW (szs im) w)) : image_fits_W im w Φ := by
  unfold fitW at hΦ
  rw [szs_len] at hΦ
  show (_ → image_fits_J1 _ _ _ _) ∧ _
  have tail : ¬ (w.Volume < 0 ∨ (im.length : Int) ≤ w.Volume) → image_fits_J1 im w Φ false := fun q => by
    rw [if_neg q] at hΦ
    refine ⟨fun r => (Bool.noConfusion r), fun _ => ⟨fun r => by rw [if_pos (by omega)] at hΦ; exact hΦ, fun r => ?_⟩⟩
    rw [if_neg (by omega)] at hΦ
    obtain ⟨v, hw⟩ := Int.eq_ofNat_of_zero_le (show 0 ≤ w.Volume by omega)
    have hvl : v < im.length := by omega
    rw [hw, ix_szs hvl] at hΦ
    have := hv v hvl
    refine ⟨fun s => by rw [if_pos (.inl s)] at hΦ; exact hΦ, fun s => ⟨iX (by omega) (by omega), ?_⟩⟩
    rw [hw]
    exact ⟨iI (by omega) (by omega), fun t => by rw [if_pos (by omega)] at hΦ; exact hΦ, fun t => by rw [if_neg (by omega)] at hΦ; exact hΦ⟩
  refine ⟨fun q => ⟨fun _ => by rw [if_pos (.inl q)] at hΦ; exact hΦ, fun r => absurd rfl r⟩, fun q => ?_⟩
  by_cases r : (im.length : Int) ≤ w.Volume
  · rw [decide_eq_true r]
    exact ⟨fun _ => by rw [if_pos (.inr r)] at hΦ; exact hΦ, fun r => absurd rfl r⟩
  · rw [decide_eq_false r]; exact tail (by omega)
theorem ref07_FitsSizes_ok {l : List Int} {w : api_Write} {Φ : Int → Prop} (hd : w.Data.length ≤ 1000000) (hl : ∀ k : Nat, k < l.length → ix l (k : Int) ≤ 1000000) (hΦ : Φ (fitW l w)) : ref07_FitsSizes_W l w Φ := by
  unfold fitW at hΦ
  refine ⟨fun q => by rw [if_pos (.inl q)] at hΦ; exact hΦ, fun q => ⟨fun r => by rw [if_pos (.inr r)] at hΦ; exact hΦ, fun r => ?_⟩⟩
  rw [if_neg (by omega)] at hΦ
  refine ⟨fun s => by rw [if_pos (by omega)] at hΦ; exact hΦ, fun s => ?_⟩
  rw [if_neg (by omega)] at hΦ
  obtain ⟨v, hw⟩ := Int.eq_ofNat_of_zero_le (show 0 ≤ w.Volume by omega)
  have hvl : v < l.length := by omega
  have := hl v hvl
  rw [hw] at hΦ ⊢
  refine ⟨fun t => by rw [if_pos (.inl t)] at hΦ; exact hΦ, fun t => ⟨iX (by omega) (by omega), fun u => by rw [if_pos (by omega)] at hΦ; exact hΦ, fun u => ⟨iX (by omega) (by omega), iI (by omega) (by omega), fun x => by rw [if_pos (by omega)] at hΦ; exact hΦ, fun x => by rw [if_neg (by omega)] at hΦ; exact hΦ⟩⟩⟩
theorem szs_small {im : List (List Sec)} (h : imgE im = 0) (k : Nat) (hk : k < im.length) : (ix im (k : Int)).length ≤ 4096 := by
  have := sizesE_ix h (k := k) (by rw [szs_len]; exact hk)
  rw [ix_szs hk] at this; omega
theorem image_Fits_ok {im : List (List Sec)} {w : api_Write} {Φ : Int → Prop} (hd : w.Data.length ≤ 1000000) (h : imgE im = 0) (hΦ : Φ (fitW (szs im) w)) : image_Fits_W im w Φ := by
  have hl := sizesE_len h
  rw [szs_len] at hl
  exact image_Check_ok (by omega) ⟨fun q => absurd h q, fun _ => image_fits_ok hd (fun k hk => Nat.le_trans (szs_small h k hk) (by omega)) hΦ⟩
theorem ix_put {α : Type} [Dt α] (xs : List α) {i j : Nat} (x : α) (hi : i < xs.length) : ix (put xs (i : Int) x) (j : Int) = if j = i then x else ix xs (j : Int) := by
  show (xs.set i x).getD j default = if j = i then x else xs.getD j default
  rw [List.getD_eq_getElem?_getD, List.getD_eq_getElem?_getD]
  by_cases h : j = i
  · subst h; rw [List.getElem?_set_self hi, if_pos rfl]; rfl
  · rw [List.getElem?_set_ne (by omega), if_neg h]
def sec (im : List (List Sec)) (v i : Nat) : Sec := ix (ix im (v : Int)) (i : Int)
def idxN (p : Nat → Bool) (n : Nat) : Int := match (List.range n).find? p with
  | some k => (k : Int)
  | none => -1
theorem idxN_hit {p : Nat → Bool} {n k : Nat} (hk : k < n) (h0 : ∀ j, j < k → p j = false) (h1 : p k = true) : idxN p n = (k : Int) := by
  unfold idxN
  have : (List.range n).find? p = some k := by
    rw [List.find?_range_eq_some]
    exact ⟨h1, List.mem_range.2 hk, fun j hj => by rw [h0 j hj]; rfl⟩
  rw [this]
theorem idxN_none {p : Nat → Bool} {n : Nat} (h0 : ∀ j, j < n → p j = false) : idxN p n = -1 := by
  unfold idxN
  have : (List.range n).find? p = none := by
    rw [List.find?_eq_none]
    intro j hj
    rw [h0 j (List.mem_range.1 hj)]; simp
  rw [this]
theorem LoopW.idxL {step : Int → (Int → Prop) → Prop} (n : Nat) (p : Nat → Bool) {Φ : Int → Prop} (hΦ : Φ (idxN p n)) (h : ∀ (k : Nat) rec, k < n → (p k = true → Φ (k : Int)) → (p k = false → rec ((k : Int) + 1)) → step (k : Int) rec)
    (he : ∀ rec, Φ (-1) → step (n : Int) rec) : LoopW step 0 := by
  refine LoopW.up n (fun k => ∀ j, j < k → p j = false) ?_ rfl (Nat.zero_le _) (fun j hj => absurd hj (Nat.not_lt_zero j))
  intro k rec hk hI hrec
  rcases Nat.lt_or_ge k n with hlt | hge
  · refine h k rec hlt (fun h1 => by rw [idxN_hit hlt hI h1] at hΦ; exact hΦ) fun h0 => hrec hlt fun j hj => ?_
    rcases Nat.lt_or_ge j k with h2 | h2
    · exact hI j h2
    · have : j = k := by omega
      subst this; exact h0
  · have e : k = n := by omega
    subst e
    exact he rec (by rw [idxN_none hI] at hΦ; exact hΦ)
theorem idxN_cases (p : Nat → Bool) (n : Nat) : (idxN p n = -1 ∧ ∀ k, k < n → p k = false) ∨ ∃ k, k < n ∧ idxN p n = (k : Int) ∧ p k = true ∧ ∀ j, j < k → p j = false := by
  unfold idxN
  cases h : (List.range n).find? p with
  | none => exact .inl ⟨rfl, fun k hk => by rw [List.find?_eq_none] at h; have := h k (List.mem_range.2 hk); simpa using this⟩
  | some k =>
    rw [List.find?_range_eq_some] at h
    exact .inr ⟨k, List.mem_range.1 h.2.1, rfl, h.1, fun j hj => by have := h.2.2 j hj; simpa using this⟩
theorem idxN_succ (p : Nat → Bool) (n : Nat) : idxN p (n + 1) = if 0 ≤ idxN p n then idxN p n else if p n = true then (n : Int) else -1 := by
  rcases idxN_cases p n with ⟨h, h0⟩ | ⟨k, hk, h, h1, h0⟩
  · rw [h, if_neg (by omega)]
    by_cases hp : p n = true
    · rw [if_pos hp]; exact idxN_hit (Nat.lt_succ_self n) h0 hp
    · rw [if_neg hp]
      refine idxN_none fun j hj => ?_
      rcases Nat.lt_or_ge j n with h2 | h2
      · exact h0 j h2
      · obtain rfl : j = n := by omega
        simpa using hp
  · rw [h, if_pos (by omega)]; exact idxN_hit (by omega) h0 h1
theorem idxN_congr {p q : Nat → Bool} {n : Nat} (h : ∀ k, k < n → p k = q k) : idxN p n = idxN q n := by
  induction n with
  | zero => rfl
  | succ n ih => rw [idxN_succ, idxN_succ, ih fun k hk => h k (by omega), h n (Nat.lt_succ_self n)]
theorem idxN_lt (p : Nat → Bool) (n : Nat) : -1 ≤ idxN p n ∧ idxN p n < (n : Int) ∨ n = 0 ∧ idxN p n = -1 := by
  rcases idxN_cases p n with ⟨h, _⟩ | ⟨k, hk, h, _⟩
  · rw [h]
    rcases Nat.eq_zero_or_pos n with h0 | h0
    · exact .inr ⟨h0, rfl⟩
    · exact .inl ⟨by omega, by omega⟩
  · rw [h]; exact .inl ⟨by omega, by omega⟩
def atN (l : List api_HistoryEvent) (n : Nat) (e : api_HistoryEvent) : Int := idxN (fun k => decide (ix l (k : Int) = e)) n
theorem atN_succ (l : List api_HistoryEvent) (n : Nat) (e : api_HistoryEvent) : atN l (n + 1) e = if 0 ≤ atN l n e then atN l n e else if ix l (n : Int) = e then (n : Int) else -1 := by
  unfold atN; rw [idxN_succ]; simp
theorem atN_keep {l : List api_HistoryEvent} {n : Nat} {e : api_HistoryEvent} (h : ix l (n : Int) ≠ e) : atN l (n + 1) e = atN l n e := by
  rw [atN_succ, if_neg h]
  rcases idxN_cases (fun k => decide (ix l (k : Int) = e)) n with ⟨q, _⟩ | ⟨k, _, q, _⟩
  · have q : atN l n e = -1 := q
    rw [q, if_neg (by omega)]
  · have q : atN l n e = (k : Int) := q
    rw [q, if_pos (by omega)]
theorem atN_here {l : List api_HistoryEvent} {n : Nat} (h : atN l n (ix l (n : Int)) < 0) : atN l (n + 1) (ix l (n : Int)) = (n : Int) := by rw [atN_succ, if_neg (by omega), if_pos rfl]
theorem atN_old {l : List api_HistoryEvent} {n : Nat} {e : api_HistoryEvent} (h : 0 ≤ atN l n e) : atN l (n + 1) e = atN l n e := by rw [atN_succ, if_pos h]
theorem atN_nn {l : List api_HistoryEvent} {n : Nat} {e : api_HistoryEvent} : 0 ≤ atN l (n + 1) e ↔ 0 ≤ atN l n e ∨ ix l (n : Int) = e := by
  rw [atN_succ]
  by_cases h : 0 ≤ atN l n e
  · rw [if_pos h]; exact ⟨fun q => .inl q, fun _ => h⟩
  · rw [if_neg h]
    by_cases q : ix l (n : Int) = e
    · rw [if_pos q]; exact ⟨fun _ => .inr q, fun _ => by omega⟩
    · rw [if_neg q]; exact ⟨fun r => by omega, fun r => (r.elim (fun r => absurd r h) fun r => absurd r q)⟩
theorem atN_lt (l : List api_HistoryEvent) (n : Nat) (e : api_HistoryEvent) : -1 ≤ atN l n e ∧ atN l n e < (n : Int) ∨ atN l n e = -1 := by
  rcases idxN_lt (fun k => decide (ix l (k : Int) = e)) n with h | h
  · exact .inl h
  · exact .inr h.2
theorem atN_neg {l : List api_HistoryEvent} {n : Nat} {e : api_HistoryEvent} (h : ¬ 0 ≤ atN l n e) : atN l n e = -1 := by
  rcases atN_lt l n e with q | q <;> omega
def cntI (l : List api_HistoryEvent) : Nat → Nat
  | 0 => 0
  | k + 1 => cntI l k + if (ix l (k : Int)).Kind = 0 then 1 else 0
theorem cntI_le (l : List api_HistoryEvent) : ∀ k, cntI l k ≤ k
  | 0 => Nat.le_refl _
  | k + 1 => by have := cntI_le l k; unfold cntI; split <;> omega
def evErr (l : List api_HistoryEvent) (n : Nat) (k : Nat) : Int :=
  if (ix l (k : Int)).Kind = 0 then (if (ix l (k : Int)).Write ≠ (cntI l k : Int) ∨ n ≤ cntI l k then 3 else 0)
  else if (ix l (k : Int)).Kind ≠ 1 then 3 else if (ix l (k : Int)).Write < 0 ∨ (cntI l k : Int) ≤ (ix l (k : Int)).Write then 7 else if 0 ≤ atN l k (ix l (k : Int)) then 8 else 0
theorem evErr_issue {l : List api_HistoryEvent} {n k : Nat} (h : evErr l n k = 0) (hk : (ix l (k : Int)).Kind = 0) : ix l (k : Int) = ⟨0, (cntI l k : Int)⟩ ∧ cntI l k < n := by
  unfold evErr at h
  rw [if_pos hk] at h
  by_cases q : (ix l (k : Int)).Write ≠ (cntI l k : Int) ∨ n ≤ cntI l k
  · rw [if_pos q] at h; cases h
  · refine ⟨?_, by omega⟩
    cases hx : ix l (k : Int) with
    | mk a b => rw [hx] at hk q; simp only at hk q; rw [hk, show b = (cntI l k : Int) by omega]
theorem evErr_ack {l : List api_HistoryEvent} {n k : Nat} (h : evErr l n k = 0) (hk : ¬ (ix l (k : Int)).Kind = 0) : ix l (k : Int) = ⟨1, (ix l (k : Int)).Write⟩ ∧ 0 ≤ (ix l (k : Int)).Write ∧ (ix l (k : Int)).Write < (cntI l k : Int) ∧ atN l k (ix l (k : Int)) = -1 := by
  unfold evErr at h
  rw [if_neg hk] at h
  by_cases q : (ix l (k : Int)).Kind ≠ 1
  · rw [if_pos q] at h; cases h
  rw [if_neg q] at h
  by_cases r : (ix l (k : Int)).Write < 0 ∨ (cntI l k : Int) ≤ (ix l (k : Int)).Write
  · rw [if_pos r] at h; cases h
  rw [if_neg r] at h
  by_cases s : 0 ≤ atN l k (ix l (k : Int))
  · rw [if_pos s] at h; cases h
  refine ⟨?_, by omega, by omega, atN_neg s⟩
  cases hx : ix l (k : Int) with
  | mk a b => rw [hx] at q; simp only at q; rw [Classical.not_not.1 q]
theorem cnt_issue {l : List api_HistoryEvent} {k : Nat} (h : (ix l (k : Int)).Kind = 0) : cntI l (k + 1) = cntI l k + 1 := by rw [cntI, if_pos h]
theorem cnt_ack {l : List api_HistoryEvent} {k : Nat} (h : ¬ (ix l (k : Int)).Kind = 0) : cntI l (k + 1) = cntI l k := by rw [cntI, if_neg h]; rfl
theorem at_issue {l : List api_HistoryEvent} {n : Nat} : ∀ {k : Nat}, (∀ j, j < k → evErr l n j = 0) → ∀ w : Int, 0 ≤ atN l k ⟨0, w⟩ ↔ 0 ≤ w ∧ w < (cntI l k : Int)
  | 0, _, w => ⟨fun h => absurd (show (0 : Int) ≤ -1 from h) (by decide), fun h => by unfold cntI at h; omega⟩
  | k + 1, hz, w => by
    rw [atN_nn, at_issue (fun j hj => hz j (by omega)) w]
    by_cases hk : (ix l (k : Int)).Kind = 0
    · have := (evErr_issue (hz k (Nat.lt_succ_self k)) hk).1
      rw [this, cnt_issue hk, api_HistoryEvent.mk.injEq]; omega
    · rw [cnt_ack hk]
      refine ⟨fun h => h.elim id fun q => absurd (by rw [q]) hk, .inl⟩
theorem at_ack {l : List api_HistoryEvent} {n : Nat} : ∀ {k : Nat}, (∀ j, j < k → evErr l n j = 0) → ∀ w : Int, 0 ≤ atN l k ⟨1, w⟩ → 0 ≤ w ∧ w < (cntI l k : Int)
  | 0, _, w => fun h => absurd (show (0 : Int) ≤ -1 from h) (by decide)
  | k + 1, hz, w => by
    rw [atN_nn]
    have ih := at_ack (k := k) (fun j hj => hz j (by omega)) w
    by_cases hk : (ix l (k : Int)).Kind = 0
    · rw [cnt_issue hk]
      rintro (h | h)
      · have := ih h; omega
      · rw [h] at hk; cases hk
    · rw [cnt_ack hk]
      rintro (h | h)
      · exact ih h
      · have := evErr_ack (hz k (Nat.lt_succ_self k)) hk
        rw [h] at this; exact ⟨this.2.1, this.2.2.1⟩
theorem cnt_le {l : List api_HistoryEvent} {n : Nat} : ∀ {k : Nat}, (∀ j, j < k → evErr l n j = 0) → cntI l k ≤ n
  | 0, _ => Nat.zero_le _
  | k + 1, hz => by
    by_cases hk : (ix l (k : Int)).Kind = 0
    · have := (evErr_issue (hz k (Nat.lt_succ_self k)) hk).2
      rw [cnt_issue hk]; omega
    · rw [cnt_ack hk]; exact cnt_le fun j hj => hz j (by omega)
def issL (l : List api_HistoryEvent) (k : Nat) : List Int := (List.range (cntI l k)).map fun w : Nat => atN l k ⟨0, (w : Int)⟩
def ackL (l : List api_HistoryEvent) (k : Nat) : List Int := (List.range (cntI l k)).map fun w : Nat => atN l k ⟨1, (w : Int)⟩
theorem issL_len (l : List api_HistoryEvent) (k : Nat) : (issL l k).length = cntI l k := by unfold issL; rw [List.length_map, List.length_range]
theorem ackL_len (l : List api_HistoryEvent) (k : Nat) : (ackL l k).length = cntI l k := by unfold ackL; rw [List.length_map, List.length_range]
theorem ix_ackL {l : List api_HistoryEvent} {k w : Nat} (h : w < cntI l k) : ix (ackL l k) (w : Int) = atN l k ⟨1, (w : Int)⟩ := by
  rw [ix_get (by rw [ackL_len]; exact h)]; unfold ackL; rw [List.getElem_map, List.getElem_range]
theorem issL_issue {l : List api_HistoryEvent} {n k : Nat} (hz : ∀ j, j < k + 1 → evErr l n j = 0) (hk : (ix l (k : Int)).Kind = 0) : issL l (k + 1) = issL l k ++ [(k : Int)] := by
  have h0 : ∀ j, j < k → evErr l n j = 0 := fun j hj => hz j (by omega)
  have hx := (evErr_issue (hz k (Nat.lt_succ_self k)) hk).1
  unfold issL
  rw [cnt_issue hk, List.range_succ, List.map_append]
  congr 1
  · refine List.map_congr_left fun w hw => atN_old ((at_issue h0 _).2 ⟨by omega, by have := List.mem_range.1 hw; omega⟩)
  · simp only [List.map_cons, List.map_nil]
    rw [← hx, atN_here (by rw [hx]; have := mt (at_issue h0 (cntI l k : Int)).1 (by omega); omega)]
theorem ackL_issue {l : List api_HistoryEvent} {n k : Nat} (hz : ∀ j, j < k + 1 → evErr l n j = 0) (hk : (ix l (k : Int)).Kind = 0) : ackL l (k + 1) = ackL l k ++ [-1] := by
  have h0 : ∀ j, j < k → evErr l n j = 0 := fun j hj => hz j (by omega)
  have hx := (evErr_issue (hz k (Nat.lt_succ_self k)) hk).1
  have hne : ∀ w : Int, ix l (k : Int) ≠ ⟨1, w⟩ := fun w q => by rw [q] at hk; cases hk
  unfold ackL
  rw [cnt_issue hk, List.range_succ, List.map_append]
  congr 1
  · exact List.map_congr_left fun w _ => atN_keep (hne _)
  · simp only [List.map_cons, List.map_nil]
    rw [atN_keep (hne _), atN_neg (fun q => by have := at_ack h0 _ q; omega)]
theorem issL_ack {l : List api_HistoryEvent} {k : Nat} (hk : ¬ (ix l (k : Int)).Kind = 0) : issL l (k + 1) = issL l k := by
  unfold issL
  rw [cnt_ack hk]
  exact List.map_congr_left fun w _ => atN_keep fun q => hk (by rw [q])
theorem ackL_ack {l : List api_HistoryEvent} {n k : Nat} (hz : ∀ j, j < k + 1 → evErr l n j = 0) (hk : ¬ (ix l (k : Int)).Kind = 0) : ackL l (k + 1) = put (ackL l k) (ix l (k : Int)).Write (k : Int) := by
  obtain ⟨hx, h1, h2, h3⟩ := evErr_ack (hz k (Nat.lt_succ_self k)) hk
  obtain ⟨w, hw⟩ := Int.eq_ofNat_of_zero_le h1
  rw [hw] at hx h2 ⊢
  refine ext_ix (by rw [put_len, ackL_len, ackL_len, cnt_ack hk]) fun j hj => ?_
  rw [ackL_len, cnt_ack hk] at hj
  rw [ix_put _ _ (by rw [ackL_len]; omega), ix_ackL (by rw [cnt_ack hk]; exact hj), ix_ackL hj]
  by_cases hjw : j = w
  · rw [if_pos hjw, hjw, ← hx, atN_here (by rw [h3]; omega)]
  · rw [if_neg hjw, atN_keep (by rw [hx]; intro q; rw [api_HistoryEvent.mk.injEq] at q; omega)]
def evE (h : api_History) : Int := if firstN (evErr h.Events h.Writes.length) h.Events.length ≠ 0 then firstN (evErr h.Events h.Writes.length) h.Events.length else if cntI h.Events h.Events.length < h.Writes.length then 3 else 0
def histE (h : api_History) : Int := if sizesE h.Sizes ≠ 0 then sizesE h.Sizes else if 4096 < (h.Writes.length : Int) then 6 else if firstN (fun k => fitW h.Sizes (ix h.Writes (k : Int))) h.Writes.length ≠ 0 then firstN (fun k => fitW h.Sizes (ix h.Writes (k : Int))) h.Writes.length else evE h
def tlH (h : api_History) : history_timeline := ⟨issL h.Events h.Events.length, ackL h.Events h.Events.length⟩
def noH : history_checked := ⟨⟨[], [], []⟩, ⟨[], []⟩⟩
structure SmallH (h : api_History) : Prop where
  ev : h.Events.length ≤ 100000
  wr : h.Writes.length ≤ 100000
  data : ∀ k : Nat, k < h.Writes.length → (ix h.Writes (k : Int)).Data.length ≤ 100000
theorem history_check_ok {h : api_History} {Φ : history_checked × Int → Prop} (hh : SmallH h) (k0 : histE h = 0 → Φ (⟨h, tlH h⟩, 0)) (k1 : histE h ≠ 0 → Φ (noH, histE h)) : history_check_W h Φ := by
  unfold histE at k0 k1
  refine image_New_ok (fun hs => ⟨fun q => absurd rfl q, fun _ => ?_⟩) fun hs => ⟨fun _ => ?_, fun q => absurd hs q⟩
  · rw [if_neg (by omega)] at k0 k1
    refine ⟨fun q => ?_, fun q => ?_⟩
    · rw [if_pos q] at k1; exact k1 (by omega)
    rw [if_neg q] at k0 k1
    have hi : imgE (zeroI h.Sizes) = 0 := by unfold imgE; rw [szs_zeroI hs, hs]
    refine LoopW.errI (Ψ := fun e => (e = 0 → LoopW (history_check_L2 h Φ) (0, [], [])) ∧ (e ≠ 0 → Φ (noH, e))) h.Writes.length (fun k => (k : Int)) (fun k => fitW h.Sizes (ix h.Writes (k : Int))) rfl ⟨fun hf => ?_, fun hf => ?_⟩
      (fun k rec hk _ h1 h2 => ⟨fun _ => ⟨iX (by omega) (by omega), image_Fits_ok (by have := hh.data k hk; omega) hi ?_⟩, fun _ => by omega⟩) fun rec _ h0 => ⟨fun _ => by omega, fun _ => h0.1 rfl⟩
    · rw [if_neg (by omega)] at k0 k1
      unfold evE at k0 k1
      refine LoopW.errI (Ψ := fun e => (e = 0 → (cntI h.Events h.Events.length < h.Writes.length → Φ (noH, 3)) ∧ (¬ cntI h.Events h.Events.length < h.Writes.length → Φ (⟨h, tlH h⟩, 0))) ∧ (e ≠ 0 → Φ (noH, e))) h.Events.length (fun k => ((k : Int), issL h.Events k, ackL h.Events k))
        (evErr h.Events h.Writes.length) rfl ⟨fun hf => ⟨fun hc => ?_, fun hc => ?_⟩, fun hf => ?_⟩ (fun k rec hk h0 h1 h2 => ⟨fun _ => ⟨iX (by omega) (by omega), ?_⟩, fun _ => by omega⟩) fun rec _ h0 => ⟨fun _ => by omega, fun _ => ⟨fun q => ?_, fun q => ?_⟩⟩
      · rw [if_neg (by omega), if_pos hc] at k1; exact k1 (by omega)
      · rw [if_neg (by omega), if_neg hc] at k0; exact k0 rfl
      · rw [if_pos hf] at k1; exact k1 hf
      · have hev := hh.ev
        have hcl := cntI_le h.Events k
        have fail : ∀ e : Int, e ≠ 0 → evErr h.Events h.Writes.length k = e → history_check_J3 (k : Int) rec Φ (e, issL h.Events k, ackL h.Events k) := fun e he hq => ⟨fun _ => (by have := (h1 (by rw [hq]; exact he)).2 (by rw [hq]; exact he); rw [hq] at this; exact this), fun q => absurd he q⟩
        have good : evErr h.Events h.Writes.length k = 0 → history_check_J3 (k : Int) rec Φ (0, issL h.Events (k + 1), ackL h.Events (k + 1)) := fun hq => ⟨fun q => absurd rfl q, fun _ => ⟨iI (by omega) (by omega), h2 hq _ rfl⟩⟩
        have hz : evErr h.Events h.Writes.length k = 0 → ∀ j, j < k + 1 → evErr h.Events h.Writes.length j = 0 := fun hq j hj => by
          rcases Nat.lt_or_ge j k with h3 | h3
          · exact h0 j h3
          · obtain rfl : j = k := by omega
            exact hq
        show (_ → _) ∧ _
        refine ⟨fun hk0 => ⟨fun q => ?_, fun q => ⟨fun r => ?_, fun r => ?_⟩⟩, fun hk0 => ⟨fun hk1 => ⟨fun q => ?_, fun q => ⟨fun r => ?_, fun r => ?_⟩⟩, fun hk1 => ?_⟩⟩
        · rw [issL_len] at q
          exact fail 3 (by omega) (by unfold evErr; rw [if_pos hk0, if_pos (.inl q)])
        · rw [issL_len] at q
          exact fail 3 (by omega) (by unfold evErr; rw [if_pos hk0, if_pos (by omega)])
        · rw [issL_len] at q
          have e0 : evErr h.Events h.Writes.length k = 0 := by unfold evErr; rw [if_pos hk0, if_neg (by omega)]
          refine ⟨iL (by rw [len_snoc, issL_len]; omega) (by omega), iL (by rw [len_snoc, ackL_len]; omega) (by omega), ?_⟩
          have := good e0
          rw [issL_issue (hz e0) hk0, ackL_issue (hz e0) hk0] at this; exact this
        · exact fail 7 (by omega) (by unfold evErr; rw [if_neg hk0, if_neg (by omega), if_pos (.inl q)])
        · rw [issL_len] at r
          exact fail 7 (by omega) (by unfold evErr; rw [if_neg hk0, if_neg (by omega), if_pos (.inr r)])
        · rw [issL_len] at r
          obtain ⟨w, hw⟩ := Int.eq_ofNat_of_zero_le (show 0 ≤ (ix h.Events (k : Int)).Write by omega)
          have hwl : w < cntI h.Events k := by omega
          have ha : ix (ackL h.Events k) (ix h.Events (k : Int)).Write = atN h.Events k (ix h.Events (k : Int)) := by
            rw [hw, ix_ackL hwl]
            congr 1
            cases hx : ix h.Events (k : Int) with
            | mk a b => rw [hx] at hw hk1; simp only at hw hk1; rw [hw, hk1]
          have hX : inX (ix h.Events (k : Int)).Write (ackL h.Events k).length := iX (by omega) (by rw [ackL_len]; omega)
          refine ⟨hX, fun s => ?_, fun s => ⟨hX, ?_⟩⟩
          · rw [ha] at s
            exact fail 8 (by omega) (by unfold evErr; rw [if_neg hk0, if_neg (by omega), if_neg (by omega), if_pos s])
          · rw [ha] at s
            have e0 : evErr h.Events h.Writes.length k = 0 := by unfold evErr; rw [if_neg hk0, if_neg (by omega), if_neg (by omega), if_neg s]
            have := good e0
            rw [issL_ack hk0, ackL_ack (hz e0) hk0] at this; exact this
        · exact fail 3 (by omega) (by unfold evErr; rw [if_neg hk0, if_pos hk1])
      · rw [issL_len] at q; exact (h0.1 rfl).1 (by omega)
      · rw [issL_len] at q; exact (h0.1 rfl).2 (by omega)
    · rw [if_pos hf] at k1; exact k1 hf
    · rw [szs_zeroI hs]
      exact ⟨fun q => (h1 q).2 q, fun q => ⟨iI (by have := hh.wr; omega) (by have := hh.wr; omega), h2 (Classical.not_not.1 q) _ rfl⟩⟩
  · rw [if_pos hs] at k1; exact k1 hs
theorem LoopW.lst {α S : Type} {step : (List α × S) → ((List α × S) → Prop) → Prop} (L : List α) (acc : Nat → S) {s0 : S} (hs : s0 = acc 0)
    (h : ∀ (k : Nat) (hk : k < L.length) rec, (∀ s, s = acc (k + 1) → rec (L.drop (k + 1), s)) → step (L[k] :: L.drop (k + 1), acc k) rec) (he : ∀ rec, step ([], acc L.length) rec) : LoopW step (L, s0) :=
  LoopW.upT L.length (fun k => (L.drop k, acc k)) (by rw [hs]; rfl) (fun k rec hk hr => by rw [List.drop_eq_getElem_cons hk]; exact h k hk rec fun s e => hr _ (by rw [e])) fun rec => by rw [List.drop_length]; exact he rec
theorem sub0 {α : Type} (xs : List α) (k : Nat) : sub xs 0 (k : Int) = xs.take k := by unfold sub; simp
theorem ix_take {α : Type} [Dt α] {xs : List α} {n k : Nat} (h : k < n) (hn : n ≤ xs.length) : ix (xs.take n) (k : Int) = ix xs (k : Int) := by
  rw [ix_get (by rw [lenT hn]; exact h), ix_get (by omega), List.getElem_take]
theorem ref15_At_ok {l : List api_HistoryEvent} {e : api_HistoryEvent} {Φ : Int → Prop} (hl : l.length ≤ 1000000) (hΦ : Φ (atN l l.length e)) : ref15_At_W l e Φ :=
  LoopW.idxL l.length (fun k => decide (ix l (k : Int) = e)) hΦ (fun k rec hk h1 h2 => ⟨fun _ => ⟨iX (by omega) (by omega), fun q => h1 (decide_eq_true q), fun q => ⟨iI (by omega) (by omega), h2 (decide_eq_false q)⟩⟩, fun _ => by omega⟩) fun rec h0 => ⟨fun _ => by omega, fun _ => h0⟩
theorem atN_take (l : List api_HistoryEvent) (e : api_HistoryEvent) {n : Nat} (hn : n ≤ l.length) : atN (l.take n) n e = atN l n e := idxN_congr fun k hk => by rw [ix_take hk hn]
theorem ref15_At_sub {l : List api_HistoryEvent} {n : Nat} {e : api_HistoryEvent} {Φ : Int → Prop} (hn : n ≤ l.length) (hl : l.length ≤ 1000000) (hΦ : Φ (atN l n e)) : ref15_At_W (sub l 0 (n : Int)) e Φ := by
  rw [sub0]
  refine ref15_At_ok (by rw [lenT hn]; omega) ?_
  rw [lenT hn, atN_take l e hn]; exact hΦ
theorem ref15_Check_ok {h : api_History} {Φ : Int → Prop} (hh : SmallH h) (hΦ : Φ (histE h)) : ref15_Check_W h Φ := by
  unfold histE at hΦ
  refine ref07_Sizes_ok ⟨fun q => by rw [if_pos q] at hΦ; exact hΦ, fun q => ?_⟩
  rw [if_neg q] at hΦ
  have hs : sizesE h.Sizes = 0 := Classical.not_not.1 q
  refine ⟨fun r => by rw [if_pos r] at hΦ; exact hΦ, fun r => ?_⟩
  rw [if_neg r] at hΦ
  refine LoopW.errI (Ψ := fun e => (e = 0 → LoopW (ref15_Check_L2 h Φ) (0, 0)) ∧ (e ≠ 0 → Φ e)) h.Writes.length (fun k => (k : Int)) (fun k => fitW h.Sizes (ix h.Writes (k : Int))) rfl ⟨fun hf => ?_, fun hf => ?_⟩
      (fun k rec hk _ h1 h2 => ⟨fun _ => ⟨iX (by omega) (by omega), (fitW h.Sizes (ix h.Writes (k : Int)), ()), ref07_FitsSizes_ok (by have := hh.data k hk; omega) (fun j hj => by have := sizesE_ix hs hj; omega) rfl, fun q => (h1 q).2 q, fun q => ⟨iI (by have := hh.wr; omega) (by have := hh.wr; omega), h2 (Classical.not_not.1 q) _ rfl⟩⟩, fun _ => by omega⟩) fun rec _ h0 => ⟨fun _ => by omega, fun _ => h0.1 rfl⟩
  · rw [if_neg (by omega)] at hΦ
    unfold evE at hΦ
    refine LoopW.errI (Ψ := fun e => (e = 0 → (cntI h.Events h.Events.length < h.Writes.length → Φ 3) ∧ (¬ cntI h.Events h.Events.length < h.Writes.length → Φ 0)) ∧ (e ≠ 0 → Φ e)) h.Events.length (fun k => ((cntI h.Events k : Int), (k : Int)))
      (evErr h.Events h.Writes.length) rfl ⟨fun hf => ⟨fun hc => ?_, fun hc => ?_⟩, fun hf => ?_⟩ (fun k rec hk h0 h1 h2 => ⟨fun _ => ⟨iX (by omega) (by omega), ?_⟩, fun _ => by omega⟩) fun rec _ h0 => ⟨fun _ => by omega, fun _ => ⟨fun q => (h0.1 rfl).1 (by omega), fun q => (h0.1 rfl).2 (by omega)⟩⟩
    · rw [if_neg (by omega), if_pos hc] at hΦ; exact hΦ
    · rw [if_neg (by omega), if_neg hc] at hΦ; exact hΦ
    · rw [if_pos hf] at hΦ; exact hΦ
    · have hev := hh.ev
      have hcl := cntI_le h.Events k
      have fail : ∀ e : Int, e ≠ 0 → evErr h.Events h.Writes.length k = e → Φ e := fun e he hq => by
        have := (h1 (by rw [hq]; exact he)).2 (by rw [hq]; exact he)
        rw [hq] at this; exact this
      have hX : inS 0 (k : Int) h.Events.length := iS (by omega) (by omega) (by omega)
      refine ⟨fun hk0 => ⟨fun q => ?_, fun q => ⟨fun r => ?_, fun r => ?_⟩⟩, fun hk0 => ⟨fun hk1 => ?_, fun hk1 => ⟨hX, (⟨0, (ix h.Events (k : Int)).Write⟩, ()), rfl, (atN h.Events k ⟨0, (ix h.Events (k : Int)).Write⟩, ()), ref15_At_sub (by omega) (by omega) rfl, fun q => ?_, fun q => ⟨hX, (atN h.Events k (ix h.Events (k : Int)), ()), ref15_At_sub (by omega) (by omega) rfl, fun s => ?_, fun s => ?_⟩⟩⟩⟩
      · exact fail 3 (by omega) (by unfold evErr; rw [if_pos hk0, if_pos (.inl q)])
      · exact fail 3 (by omega) (by unfold evErr; rw [if_pos hk0, if_pos (by omega)])
      · have e0 : evErr h.Events h.Writes.length k = 0 := by unfold evErr; rw [if_pos hk0, if_neg (by omega)]
        exact ⟨iI (by omega) (by omega), iI (by omega) (by omega), h2 e0 _ (by rw [cnt_issue hk0]; rfl)⟩
      · exact fail 3 (by omega) (by unfold evErr; rw [if_neg hk0, if_pos hk1])
      · have q : atN h.Events k ⟨0, (ix h.Events (k : Int)).Write⟩ < 0 := q
        have := mt (at_issue h0 (ix h.Events (k : Int)).Write).2 (by omega)
        exact fail 7 (by omega) (by unfold evErr; rw [if_neg hk0, if_neg (by omega), if_pos (by omega)])
      · have q : ¬ atN h.Events k ⟨0, (ix h.Events (k : Int)).Write⟩ < 0 := q
        have := (at_issue h0 (ix h.Events (k : Int)).Write).1 (by omega)
        exact fail 8 (by omega) (by unfold evErr; rw [if_neg hk0, if_neg (by omega), if_neg (by omega), if_pos s])
      · have q : ¬ atN h.Events k ⟨0, (ix h.Events (k : Int)).Write⟩ < 0 := q
        have := (at_issue h0 (ix h.Events (k : Int)).Write).1 (by omega)
        have e0 : evErr h.Events h.Writes.length k = 0 := by unfold evErr; rw [if_neg hk0, if_neg (by omega), if_neg (by omega), if_neg s]
        exact ⟨iI (by omega) (by omega), h2 e0 _ (by rw [cnt_ack hk0]; rfl)⟩
  · rw [if_pos hf] at hΦ; exact hΦ
theorem histE_zero {h : api_History} (hz : histE h = 0) : sizesE h.Sizes = 0 ∧ h.Writes.length ≤ 4096 ∧ (∀ w ∈ h.Writes, fitW h.Sizes w = 0) ∧ evE h = 0 := by
  unfold histE at hz
  by_cases q : sizesE h.Sizes ≠ 0
  · rw [if_pos q] at hz; exact absurd hz q
  rw [if_neg q] at hz
  by_cases r : 4096 < (h.Writes.length : Int)
  · rw [if_pos r] at hz; cases hz
  rw [if_neg r] at hz
  by_cases s : firstN (fun k => fitW h.Sizes (ix h.Writes (k : Int))) h.Writes.length ≠ 0
  · rw [if_pos s] at hz; exact absurd hz s
  rw [if_neg s] at hz
  refine ⟨Classical.not_not.1 q, by omega, fun w hw => ?_, hz⟩
  obtain ⟨k, hk, rfl⟩ := List.getElem_of_mem hw
  have := firstN_zero.1 (Classical.not_not.1 s) k hk
  rw [ix_get hk] at this; exact this
def isSetP (l : List Int) (n : Int) (k : Nat) : Bool := decide (0 ≤ ix l (k : Int) ∧ ix l (k : Int) < n ∧ (0 < k → ix l ((k : Int) - 1) < ix l (k : Int)))
def isSetB (l : List Int) (n : Int) : Bool := allN (isSetP l n) l.length
theorem isSetB_at {l : List Int} {n : Int} (h : isSetB l n = true) {k : Nat} (hk : k < l.length) : 0 ≤ ix l (k : Int) ∧ ix l (k : Int) < n ∧ (0 < k → ix l ((k : Int) - 1) < ix l (k : Int)) := of_decide_eq_true (allN_true.1 h k hk)
theorem isSetB_lt {l : List Int} {n : Int} (h : isSetB l n = true) {i j : Nat} (hij : i < j) (hj : j < l.length) : ix l (i : Int) < ix l (j : Int) := by
  induction j with
  | zero => omega
  | succ j ih =>
    have := (isSetB_at h hj).2.2 (by omega)
    rw [show ((j + 1 : Nat) : Int) - 1 = (j : Int) by omega] at this
    rcases Nat.lt_or_ge i j with q | q
    · have := ih q (by omega); omega
    · obtain rfl : i = j := by omega
      exact this
theorem isSetB_len {l : List Int} {n : Int} (h : isSetB l n = true) : ∀ {k : Nat}, k < l.length → (k : Int) ≤ ix l (k : Int)
  | 0, hk => (isSetB_at h hk).1
  | k + 1, hk => by have h1 := isSetB_len h (k := k) (by omega); have h2 : ix l (k : Int) < ix l ((k + 1 : Nat) : Int) := isSetB_lt h (Nat.lt_succ_self k) hk; omega
theorem isSetB_le {l : List Int} {n : Int} (h : isSetB l n = true) (hn : 0 ≤ n) : (l.length : Int) ≤ n := by
  rcases Nat.eq_zero_or_pos l.length with q | q
  · omega
  · have := isSetB_len h (k := l.length - 1) (by omega); have := (isSetB_at h (k := l.length - 1) (by omega)).2.1; omega
theorem isSetB_mem {l : List Int} {n : Int} (h : isSetB l n = true) {x : Int} (hx : x ∈ l) : 0 ≤ x ∧ x < n := by
  obtain ⟨k, hk, rfl⟩ := List.getElem_of_mem hx
  have := isSetB_at h hk
  rw [ix_get hk] at this; exact ⟨this.1, this.2.1⟩
theorem any_eq_mem (l : List Int) (x : Int) : l.any (fun y => decide (y = x)) = decide (x ∈ l) := by
  rw [Bool.eq_iff_iff, List.any_eq_true, decide_eq_true_iff]
  exact ⟨fun ⟨y, hy, e⟩ => (of_decide_eq_true e) ▸ hy, fun h => ⟨x, h, decide_eq_true rfl⟩⟩
theorem ref15_Has_ok {l : List Int} {x : Int} {Φ : Bool → Prop} (hl : l.length ≤ 1000000) (hΦ : Φ (decide (x ∈ l))) : ref15_Has_W l x Φ := by
  rw [← any_eq_mem] at hΦ
  exact LoopW.anyL l (fun y => decide (y = x)) hΦ (fun k rec hk h1 h2 => ⟨fun _ => ⟨iX (by omega) (by omega), fun q => h1 (decide_eq_true q), fun q => ⟨iI (by omega) (by omega), h2 (decide_eq_false q)⟩⟩, fun _ => by omega⟩) fun rec h0 => ⟨fun _ => by omega, fun _ => h0⟩
theorem ref15_SameInts_ok {a b : List Int} {Φ : Bool → Prop} (hl : a.length ≤ 1000000) (hΦ : Φ (decide (a = b))) : ref15_SameInts_W a b Φ := by
  refine ⟨fun q => by rw [decide_eq_false (fun e => q (by rw [e]))] at hΦ; exact hΦ, fun q => ?_⟩
  have e : decide (a = b) = allN (fun k => decide (ix a (k : Int) = ix b (k : Int))) a.length := by
    rw [Bool.eq_iff_iff, decide_eq_true_iff, allN_true]
    exact ⟨fun e k _ => by rw [e]; exact decide_eq_true rfl, fun h => ext_ix (by omega) fun k hk => of_decide_eq_true (h k hk)⟩
  rw [e] at hΦ
  exact LoopW.allL _ _ hΦ (fun k rec hk _ h1 h2 => ⟨fun _ => ⟨iX (by omega) (by omega), iX (by omega) (by omega), fun r => h1 (decide_eq_false r), fun r => ⟨iI (by omega) (by omega), h2 (decide_eq_true (Classical.not_not.1 r))⟩⟩, fun _ => by omega⟩) fun rec h0 _ => ⟨fun _ => by omega, fun _ => h0⟩
theorem mem_ix {α : Type} [Dt α] {xs : List α} {i : Int} (h0 : 0 ≤ i) (h1 : i < (xs.length : Int)) : ix xs i ∈ xs := ix_mem ⟨h0, h1⟩
def fewH (h : api_History) : Bool := decide (h.Sizes.length ≤ 9 ∧ h.Writes.length ≤ 40 ∧ h.Events.length ≤ 90) && (h.Sizes.all (fun n => decide (n ≤ 24)) && h.Writes.all fun w => decide (w.Data.length ≤ 30))
theorem ref15_Few_ok {h : api_History} {Φ : Bool → Prop} (hΦ : Φ (fewH h)) : ref15_Few_W h Φ := by
  unfold fewH at hΦ
  refine ⟨fun q => by rw [decide_eq_false (by omega)] at hΦ; exact hΦ, fun q => ⟨fun r => by rw [decide_eq_false (by omega)] at hΦ; exact hΦ, fun r => ⟨fun s => by rw [decide_eq_false (by omega)] at hΦ; exact hΦ, fun s => ?_⟩⟩⟩
  rw [decide_eq_true (by omega), Bool.true_and] at hΦ
  refine LoopW.findI h.Sizes.length (fun k => !decide (ix h.Sizes (k : Int) ≤ 24)) (fun k rec hk _ hr => ⟨fun _ => ⟨iX (by omega) (by omega), fun t => ?_, fun t => ⟨iI (by omega) (by omega), hr (by simp; omega)⟩⟩, fun _ => by omega⟩) fun rec hn => ⟨fun _ => by omega, fun _ => ?_⟩
  · rw [show h.Sizes.all (fun n => decide (n ≤ 24)) = false from by
      rw [List.all_eq_not_any_not, any_true_ix hk (by simp; omega)]; rfl] at hΦ
    exact hΦ
  · rw [show h.Sizes.all (fun n => decide (n ≤ 24)) = true from by
      rw [List.all_eq_not_any_not, any_false_ix fun k hk => by simpa using hn k hk]; rfl, Bool.true_and] at hΦ
    exact LoopW.allE h.Writes (fun w => decide (w.Data.length ≤ 30)) hΦ (fun k rec hk h1 h2 => ⟨fun _ => ⟨iX (by omega) (by omega), fun t => h1 (decide_eq_false (by omega)), fun t => ⟨iI (by omega) (by omega), h2 (decide_eq_true (by omega))⟩⟩, fun _ => by omega⟩) fun rec h0 => ⟨fun _ => by omega, fun _ => h0⟩
theorem fewH_small {h : api_History} (hf : fewH h = true) : SmallH h ∧ h.Writes.length ≤ 40 := by
  unfold fewH at hf
  rw [Bool.and_eq_true, Bool.and_eq_true, decide_eq_true_iff] at hf
  refine ⟨⟨by omega, by omega, fun k hk => ?_⟩, by omega⟩
  have := List.all_eq_true.1 hf.2.2 (ix h.Writes (k : Int)) (mem_ix (by omega) (by omega))
  have := of_decide_eq_true this
  omega
def wr (h : api_History) (i : Nat) : api_Write := ix h.Writes (i : Int)
theorem hist_wr {h : api_History} (hz : histE h = 0) : h.Writes.length ≤ 4096 := by
  unfold histE at hz
  split at hz
  · rename_i q; exact absurd hz q
  · split at hz
    · omega
    · omega
theorem history_Check_ok {h : api_History} {Φ : Int → Prop} (hh : SmallH h) (hΦ : Φ (histE h)) : history_Check_W h Φ :=
  history_check_ok hh (fun q => by rw [q] at hΦ; exact hΦ) fun _ => hΦ
theorem paste_rep {a z : Int} {c m : Nat} : paste (List.replicate c a ++ List.replicate m z) (c : Int) (List.replicate c a) = List.replicate (c + min c m) a ++ List.replicate (m - min c m) z := by
  unfold paste
  rw [Int.toNat_natCast, List.length_append, List.length_replicate, List.length_replicate, Nat.add_sub_cancel_left, List.take_left' List.length_replicate, List.take_replicate, ← List.append_assoc, List.replicate_append_replicate, List.drop_append, List.length_replicate, List.drop_replicate, List.drop_replicate,
    show c - (c + min c m) = 0 by omega, show m - (c + min c m - c) = m - min c m by omega, show min m c = min c m by omega]
  rfl
theorem repeat_loop {a : Int} {n c : Nat} {Φ : List Int → Prop} (hn : n ≤ 100000) (hc : c ≤ n) (h0 : 0 < c ∨ n = 0) (hΦ : Φ (List.replicate n a)) : LoopW (slices_Repeat_int_int_L2 Φ) ((c : Int), List.replicate c a ++ List.replicate (n - c) 0) := by
  refine LoopW.of_inv (fun s => ∃ c : Nat, s = ((c : Int), List.replicate c a ++ List.replicate (n - c) 0) ∧ c ≤ n ∧ (0 < c ∨ n = 0)) (fun s => (n : Int).toNat - s.1.toNat) ?_ ⟨c, rfl, hc, h0⟩
  rintro _ rec ⟨c, rfl, hc, h0⟩ hrec
  have hl : (List.replicate c a ++ List.replicate (n - c) (0 : Int)).length = n := by rw [List.length_append, List.length_replicate, List.length_replicate]; omega
  have hs : sub (List.replicate c a ++ List.replicate (n - c) (0 : Int)) 0 (c : Int) = List.replicate c a := by
    rw [sub0, List.take_left' List.length_replicate]
  refine ⟨fun q => ?_, fun q => ?_⟩
  · rw [hs, hl, paste_rep, List.length_replicate, Int.toNat_natCast]
    rw [hl] at q
    refine ⟨⟨by omega, by omega, by omega⟩, ⟨by omega, by omega, by omega⟩, iI (by omega) (by omega), hrec _ ⟨c + min c (n - c), ?_, by omega, .inl (by omega)⟩ ?_⟩
    · rw [show n - (c + min c (n - c)) = n - c - min c (n - c) by omega]; rfl
    · show (n : Int).toNat - ((c : Int) + ((min c (n - c) : Nat) : Int)).toNat < (n : Int).toNat - ((c : Int)).toNat
      omega
  · rw [hl] at q
    obtain rfl : c = n := by omega
    rw [Nat.sub_self, List.replicate_zero, List.append_nil]
    exact hΦ
theorem shr32 {n : Nat} (hn : n ≤ 100000) : (BitVec.ofNat 64 n) >>> 32 = 0#64 := by
  apply BitVec.eq_of_toNat_eq
  rw [BitVec.toNat_ushiftRight, BitVec.toNat_ofNat, Nat.mod_eq_of_lt (by omega), Nat.shiftRight_eq_div_pow]
  show n / 4294967296 = 0
  omega
theorem and32 {n : Nat} (hn : n ≤ 100000) : (BitVec.ofNat 64 n) &&& 4294967295#64 = BitVec.ofNat 64 n := by
  apply BitVec.eq_of_toNat_eq
  rw [BitVec.toNat_and, BitVec.toNat_ofNat, Nat.mod_eq_of_lt (by omega)]
  show n &&& (2 ^ 32 - 1) = n
  rw [Nat.and_two_pow_sub_one_eq_mod]
  omega
theorem mul_one_ok {n : Nat} {Φ : BitVec 64 × BitVec 64 → Prop} (hn : n ≤ 100000) (hΦ : Φ (0#64, BitVec.ofNat 64 n)) : math_bits_Mul_W (BitVec.ofInt 64 ((1 : Nat) : Int)) (BitVec.ofInt 64 (n : Int)) Φ := by
  have e1 : BitVec.ofInt 64 ((1 : Nat) : Int) = 1#64 := rfl
  have e2 : BitVec.ofInt 64 (n : Int) = BitVec.ofNat 64 n := BitVec.ofInt_natCast ..
  have e3 : ((32#64).toNat : Int).toNat = 32 := rfl
  have e4 : (1#64) >>> 32 = 0#64 := rfl
  have e5 : (1#64) &&& 4294967295#64 = 1#64 := rfl
  show Φ _
  rw [e1, e2]
  simp only [e3, e4, e5, shr32 hn, and32 hn, BitVec.zero_mul, BitVec.mul_zero, BitVec.one_mul, BitVec.zero_add, BitVec.add_zero, BitVec.zero_and]
  exact hΦ
theorem slices_Repeat_int_ok {a : Int} {n : Nat} {Φ : List Int → Prop} (hn : n ≤ 100000) (hΦ : Φ (List.replicate n a)) : slices_Repeat_int_int_W [a] (n : Int) Φ := by
  have e : (BitVec.ofNat 64 n).toInt = (n : Int) := by rw [BitVec.toInt_eq_toNat_cond, BitVec.toNat_ofNat, Nat.mod_eq_of_lt (by omega), if_pos (by omega)]
  have no : slices_Repeat_int_int_J1 [a] (0#64, BitVec.ofNat 64 n) Φ false := by
    refine ⟨fun q => Bool.noConfusion q, fun _ => ⟨by show 0 ≤ (BitVec.ofNat 64 n).toInt; rw [e]; omega, ?_, ?_⟩⟩
    · show lenOk (BitVec.ofNat 64 n).toInt.toNat 8
      rw [e]
      exact ⟨by show n * 8 ≤ _; omega, by show n ≤ maxLen; unfold maxLen; omega⟩
    · show LoopW (slices_Repeat_int_int_L2 Φ) (((min 1 ((List.replicate (BitVec.ofNat 64 n).toInt.toNat (0 : Int)).length - 0) : Nat) : Int), paste (List.replicate (BitVec.ofNat 64 n).toInt.toNat (0 : Int)) 0 [a])
      rw [e, Int.toNat_natCast, List.length_replicate, Nat.sub_zero]
      have h := repeat_loop (a := a) (n := n) (c := min 1 n) hn (by omega) (by omega) hΦ
      have p : paste (List.replicate n (0 : Int)) 0 [a] = List.replicate (min 1 n) a ++ List.replicate (n - min 1 n) 0 := by
        cases n with
        | zero => rfl
        | succ n => rw [show min 1 (n + 1) = 1 by omega, Nat.add_sub_cancel, List.replicate_succ]; unfold paste; simp
      rw [p]; exact h
  refine ⟨fun q => by omega, fun _ => mul_one_ok hn ⟨fun q => ?_, fun _ => ?_⟩⟩
  · exact absurd (show (0#64) < (0#64) from q) (by decide)
  · rw [show decide ((9223372036854775807#64) < (BitVec.ofNat 64 n)) = false from ?_]
    · exact no
    · rw [decide_eq_false_iff_not, BitVec.lt_def]
      have : (BitVec.ofNat 64 n).toNat = n := by rw [BitVec.toNat_ofNat, Nat.mod_eq_of_lt (by omega)]
      rw [this]
      show ¬ (9223372036854775807 < n)
      omega
def relL (l : List api_HistoryEvent) (t : Int) (n : Nat) (N : Int) (k : Nat) : List Int := (List.range n).map fun w : Nat => if 0 ≤ atN l k ⟨t, (w : Int)⟩ then atN l k ⟨t, (w : Int)⟩ else N
theorem relL_len {l : List api_HistoryEvent} {t : Int} {n k : Nat} {N : Int} : (relL l t n N k).length = n := by unfold relL; rw [List.length_map, List.length_range]
theorem ix_relL {l : List api_HistoryEvent} {t : Int} {n k w : Nat} {N : Int} (h : w < n) : ix (relL l t n N k) (w : Int) = if 0 ≤ atN l k ⟨t, (w : Int)⟩ then atN l k ⟨t, (w : Int)⟩ else N := by
  rw [ix_get (by rw [relL_len]; exact h)]
  unfold relL
  rw [List.getElem_map, List.getElem_range]
theorem relL_zero {l : List api_HistoryEvent} {t : Int} {n : Nat} {N : Int} : relL l t n N 0 = List.replicate n N := by
  unfold relL
  rw [List.eq_replicate_iff]
  refine ⟨by rw [List.length_map, List.length_range], fun x hx => ?_⟩
  obtain ⟨w, _, rfl⟩ := List.mem_map.1 hx
  rw [if_neg (by show ¬ (0 : Int) ≤ -1; omega)]
theorem relL_miss {l : List api_HistoryEvent} {t : Int} {n k : Nat} {N : Int} (h : (ix l (k : Int)).Kind ≠ t) : relL l t n N (k + 1) = relL l t n N k := by
  unfold relL
  refine List.map_congr_left fun w _ => ?_
  rw [atN_keep fun e => h (by rw [e])]
theorem relL_hit {l : List api_HistoryEvent} {t : Int} {n k w : Nat} {N : Int} (hw : w < n) (h : ix l (k : Int) = ⟨t, (w : Int)⟩) (hn : ¬ 0 ≤ atN l k ⟨t, (w : Int)⟩) : relL l t n N (k + 1) = put (relL l t n N k) (w : Int) (k : Int) := by
  have hp : ∀ j : Nat, j < n → ix (relL l t n N (k + 1)) (j : Int) = ix (put (relL l t n N k) (w : Int) (k : Int)) (j : Int) := by
    intro j hj
    rw [ix_relL hj, ix_put _ _ (by rw [relL_len]; exact hw)]
    by_cases q : j = w
    · subst q
      rw [if_pos rfl, atN_succ, if_neg hn, if_pos h, if_pos (by omega)]
    · rw [if_neg q, ix_relL hj, atN_keep fun e => q ?_]
      rw [h] at e
      exact (Int.ofNat.inj (congrArg api_HistoryEvent.Write e)).symm
  exact ext_ix (by rw [put_len, relL_len, relL_len]) fun j hj => hp j (by rw [relL_len] at hj; exact hj)
theorem hist_ev {h : api_History} (hz : histE h = 0) {k : Nat} (hk : k < h.Events.length) : evErr h.Events h.Writes.length k = 0 := by
  unfold histE at hz
  split at hz
  · rename_i q; exact absurd hz q
  · split at hz
    · omega
    · split at hz
      · rename_i q; exact absurd hz q
      · unfold evE at hz
        by_cases r : firstN (evErr h.Events h.Writes.length) h.Events.length ≠ 0
        · rw [if_pos r] at hz; exact absurd hz r
        · exact firstN_zero.1 (Classical.not_not.1 r) k hk
theorem ev_put {h : api_History} (hz : histE h = 0) {N : Int} {k : Nat} (hk : k < h.Events.length) :
    ((ix h.Events (k : Int)).Kind = 0 → ∃ w : Nat, (ix h.Events (k : Int)).Write = (w : Int) ∧ w < h.Writes.length ∧ relL h.Events 0 h.Writes.length N (k + 1) = put (relL h.Events 0 h.Writes.length N k) (w : Int) (k : Int) ∧ relL h.Events 1 h.Writes.length N (k + 1) = relL h.Events 1 h.Writes.length N k) ∧
    ((ix h.Events (k : Int)).Kind ≠ 0 → ∃ w : Nat, (ix h.Events (k : Int)).Write = (w : Int) ∧ w < h.Writes.length ∧ relL h.Events 1 h.Writes.length N (k + 1) = put (relL h.Events 1 h.Writes.length N k) (w : Int) (k : Int) ∧ relL h.Events 0 h.Writes.length N (k + 1) = relL h.Events 0 h.Writes.length N k) := by
  have h0 : ∀ j, j < k → evErr h.Events h.Writes.length j = 0 := fun j hj => hist_ev hz (by omega)
  refine ⟨fun q => ?_, fun q => ?_⟩
  · have e := evErr_issue (hist_ev hz hk) q
    refine ⟨cntI h.Events k, by rw [e.1], e.2, relL_hit e.2 e.1 (fun t => by have := (at_issue h0 _).1 t; omega), relL_miss (by rw [q]; decide)⟩
  · have e := evErr_ack (hist_ev hz hk) q
    have c := cnt_le h0
    have w : (((ix h.Events (k : Int)).Write.toNat : Nat) : Int) = (ix h.Events (k : Int)).Write := Int.toNat_of_nonneg e.2.1
    refine ⟨(ix h.Events (k : Int)).Write.toNat, w.symm, by omega, relL_hit (by omega) (by rw [w]; exact e.1) (by rw [w, ← e.1, e.2.2.2]; omega), relL_miss q⟩
def issW (h : api_History) : List Int := relL h.Events 0 h.Writes.length h.Events.length h.Events.length
def ackW (h : api_History) : List Int := relL h.Events 1 h.Writes.length h.Events.length h.Events.length
def markL (n : Nat) (l : List Int) : List Bool := (List.range n).map fun w : Nat => decide ((w : Int) ∈ l)
theorem markL_len {n : Nat} {l : List Int} : (markL n l).length = n := by unfold markL; rw [List.length_map, List.length_range]
theorem ix_markL {n w : Nat} {l : List Int} (h : w < n) : ix (markL n l) (w : Int) = decide ((w : Int) ∈ l) := by
  rw [ix_get (by rw [markL_len]; exact h)]
  unfold markL
  rw [List.getElem_map, List.getElem_range]
theorem markL_put {n k w : Nat} {l : List Int} (hk : k < l.length) (hw : w < n) (e : ix l (k : Int) = (w : Int)) : markL n (l.take (k + 1)) = put (markL n (l.take k)) (w : Int) true := by
  refine ext_ix (by rw [put_len, markL_len, markL_len]) fun j hj => ?_
  rw [markL_len] at hj
  rw [ix_markL hj, ix_put _ _ (by rw [markL_len]; exact hw), ix_markL hj, take_ix hk, e]
  by_cases q : j = w
  · rw [if_pos q, q, decide_eq_true_iff]; simp
  · rw [if_neg q]
    have : (j : Int) ≠ (w : Int) := by omega
    simp [this]
theorem cut_relation_mark_ok {r : Ptr cut_relation} {n : Nat} {l : List Int} {Φ : List Bool × Bool → Prop} (hr : r.val.n = (n : Int)) (hn : n ≤ 100000) (hl : l.length ≤ 1000000) (h1 : isSetB l (n : Int) = true → Φ (markL n l, true)) (h0 : isSetB l (n : Int) = false → Φ ([], false)) : cut_relation_mark_W r l Φ := by
  unfold cut_relation_mark_W
  rw [hr]
  have z : List.replicate n false = markL n (l.take 0) := by
    refine ext_ix (by rw [markL_len, List.length_replicate]) fun j hj => ?_
    rw [List.length_replicate] at hj
    rw [ix_markL hj, ix_get (by rw [List.length_replicate]; exact hj), List.getElem_replicate]; simp
  refine ⟨by omega, ⟨by rw [Int.toNat_natCast]; omega, by rw [Int.toNat_natCast]; unfold maxLen; omega⟩, ?_⟩
  rw [Int.toNat_natCast, z]
  refine LoopW.upI l.length (fun k => ((k : Int), markL n (l.take k))) (fun k => ∀ j, j < k → isSetP l (n : Int) j = true) rfl (fun j hj => absurd hj (Nat.not_lt_zero j)) (fun k rec hk hI hrec => ⟨fun _ => ⟨iX (by omega) (by omega), ?_⟩, fun q => by omega⟩) fun rec hI => ⟨fun q => by omega, fun _ => ?_⟩
  · have bad : isSetP l (n : Int) k = false → cut_relation_mark_J2 l (k : Int) (markL n (l.take k)) rec Φ true := fun t => ⟨fun _ => h0 (allN_false hk t), fun u => absurd rfl u⟩
    have good : isSetP l (n : Int) k = true → 0 ≤ ix l (k : Int) → ix l (k : Int) < (n : Int) → cut_relation_mark_J2 l (k : Int) (markL n (l.take k)) rec Φ false := fun t a b => ⟨fun u => Bool.noConfusion u, fun _ => ⟨iX a (by rw [markL_len]; exact b), iI (by omega) (by omega), hrec (fun j hj => by
      rcases Nat.lt_or_ge j k with c | c
      · exact hI j c
      · obtain rfl : j = k := by omega
        exact t) _ (by
      have w : (((ix l (k : Int)).toNat : Nat) : Int) = ix l (k : Int) := Int.toNat_of_nonneg a
      rw [markL_put hk (w := (ix l (k : Int)).toNat) (by omega) w.symm, w]; rfl)⟩⟩
    unfold isSetP at bad good
    refine ⟨fun q => bad (decide_eq_false (by omega)), fun q => ⟨fun s => bad (decide_eq_false (by rw [hr] at s; omega)), fun s => ?_⟩⟩
    rw [hr] at s
    refine ⟨fun t => ⟨iI (by omega) (by omega), iX (by omega) (by omega), ?_⟩, fun t => good (decide_eq_true ⟨by omega, by omega, fun u => by omega⟩) (by omega) (by omega)⟩
    by_cases u : ix l (k : Int) ≤ ix l ((k : Int) - 1)
    · rw [decide_eq_true u]; exact bad (decide_eq_false (by omega))
    · rw [decide_eq_false u]; exact good (decide_eq_true ⟨by omega, by omega, fun _ => by omega⟩) (by omega) (by omega)
  · have := h1 (allN_true.2 hI)
    rw [List.take_length]; exact this
def befC (h : api_History) (a b : Nat) : Bool := decide (ix (ackW h) (a : Int) < ix (issW h) (b : Int))
theorem cut_before_ok {h : api_History} {n e : Int} {a b : Nat} {Φ : Bool → Prop} (ha : a < h.Writes.length) (hb : b < h.Writes.length) (hΦ : Φ (befC h a b)) : cut_relation_before_W (Ptr.mk (cut_relation.mk n e (issW h) (ackW h))) (a : Int) (b : Int) Φ :=
  ⟨iX (by omega) (by show (a : Int) < ((ackW h).length : Int); unfold ackW; rw [relL_len]; omega), iX (by omega) (by show (b : Int) < ((issW h).length : Int); unfold issW; rw [relL_len]; omega), hΦ⟩
def selL (n : Nat) (p : Nat → Bool) : List Int := ((List.range n).filter p).map fun w : Nat => (w : Int)
theorem mem_selL {n : Nat} {p : Nat → Bool} {x : Int} : x ∈ selL n p ↔ ∃ w : Nat, x = (w : Int) ∧ w < n ∧ p w = true := by
  unfold selL
  rw [List.mem_map]
  constructor
  · rintro ⟨w, hw, rfl⟩
    have := List.mem_filter.1 hw
    exact ⟨w, rfl, List.mem_range.1 this.1, this.2⟩
  · rintro ⟨w, rfl, h1, h2⟩
    exact ⟨w, List.mem_filter.2 ⟨List.mem_range.2 h1, h2⟩, rfl⟩
theorem selL_succ {n : Nat} {p : Nat → Bool} : selL (n + 1) p = selL n p ++ (if p n = true then [(n : Int)] else []) := by
  unfold selL
  rw [filter_range_snoc, List.map_append]
  by_cases q : p n = true
  · rw [if_pos q, if_pos q]; rfl
  · rw [if_neg q, if_neg q]; rfl
theorem selL_lt {n : Nat} {p : Nat → Bool} : ∀ {k : Nat}, k < (selL n p).length → 0 ≤ ix (selL n p) (k : Int) ∧ ix (selL n p) (k : Int) < (n : Int) := by
  intro k hk
  obtain ⟨w, e, h1, _⟩ := mem_selL.1 (mem_ix (xs := selL n p) (i := (k : Int)) (by omega) (by omega))
  omega
theorem ix_app_l {xs ys : List Int} {k : Nat} (h : k < xs.length) : ix (xs ++ ys) (k : Int) = ix xs (k : Int) := by
  rw [ix_get (by rw [List.length_append]; omega), ix_get h, List.getElem_append_left h]
theorem selL_set {n : Nat} {p : Nat → Bool} {N : Int} : ∀ {m : Nat}, m ≤ n → (n : Int) ≤ N → isSetB (selL m p) N = true := by
  intro m
  induction m with
  | zero => intro _ _; exact allN_true.2 fun k hk => absurd hk (Nat.not_lt_zero k)
  | succ m ih =>
    intro hm hN
    have h0 := allN_true.1 (ih (by omega) hN)
    rw [selL_succ]
    by_cases q : p m = true
    · rw [if_pos q]
      refine allN_true.2 fun k hk => ?_
      rw [List.length_append, List.length_singleton] at hk
      rcases Nat.lt_or_ge k (selL m p).length with c | c
      · have := of_decide_eq_true (h0 k c)
        refine decide_eq_true ?_
        rw [ix_app_l c]
        refine ⟨this.1, this.2.1, fun u => ?_⟩
        have e : ((k : Int) - 1) = ((k - 1 : Nat) : Int) := by omega
        rw [e, ix_app_l (by omega), ← e]; exact this.2.2 u
      · obtain rfl : k = (selL m p).length := by omega
        have hx : ix (selL m p ++ [(m : Int)]) ((selL m p).length : Int) = (m : Int) := by
          rw [ix_get (by rw [List.length_append, List.length_singleton]; omega), List.getElem_append_right (Nat.le_refl _)]
          simp
        refine decide_eq_true ?_
        rw [hx]
        refine ⟨by omega, by omega, fun u => ?_⟩
        have e : (((selL m p).length : Int) - 1) = (((selL m p).length - 1 : Nat) : Int) := by omega
        rw [e, ix_app_l (by omega)]
        exact (selL_lt (n := m) (p := p) (k := (selL m p).length - 1) (by omega)).2
    · rw [if_neg q, List.append_nil]; exact ih (by omega) hN
theorem set_ext {n : Int} : ∀ {a b : List Int}, a.Pairwise (· < ·) → b.Pairwise (· < ·) → (∀ x, x ∈ a ↔ x ∈ b) → a = b
  | [], [], _, _, _ => rfl
  | [], y :: b, _, _, h => absurd ((h y).2 List.mem_cons_self) List.not_mem_nil
  | x :: a, [], _, _, h => absurd ((h x).1 List.mem_cons_self) List.not_mem_nil
  | x :: a, y :: b, ha, hb, h => by
    have ha' := List.pairwise_cons.1 ha
    have hb' := List.pairwise_cons.1 hb
    have e : x = y := by
      have h1 := (h x).1 List.mem_cons_self
      have h2 := (h y).2 List.mem_cons_self
      rcases List.mem_cons.1 h1 with r | r
      · exact r
      · rcases List.mem_cons.1 h2 with s | s
        · exact s.symm
        · have := hb'.1 x r; have := ha'.1 y s; omega
    subst e
    rw [set_ext (n := n) ha'.2 hb'.2 fun z => ?_]
    constructor
    · intro hz
      rcases List.mem_cons.1 ((h z).1 (List.mem_cons_of_mem _ hz)) with r | r
      · have := ha'.1 z hz; omega
      · exact r
    · intro hz
      rcases List.mem_cons.1 ((h z).2 (List.mem_cons_of_mem _ hz)) with r | r
      · have := hb'.1 z hz; omega
      · exact r
theorem set_pair {l : List Int} {n : Int} (h : isSetB l n = true) : l.Pairwise (· < ·) := by
  rw [List.pairwise_iff_getElem]
  intro i j hi hj hij
  have := isSetB_lt h hij hj
  rw [ix_get hi, ix_get hj] at this
  exact this
theorem set_filter {l : List Int} {n : Nat} (h : isSetB l (n : Int) = true) (p : Int → Bool) : l.filter p = selL n fun w => decide ((w : Int) ∈ l) && p (w : Int) :=
  set_ext (n := 0) ((set_pair h).filter p) (set_pair (selL_set (N := (n : Int)) (Nat.le_refl n) (Int.le_refl _))) fun x => by
    rw [mem_selL, List.mem_filter]
    constructor
    · rintro ⟨hx, hp⟩
      have := isSetB_mem h hx
      refine ⟨x.toNat, by omega, by omega, ?_⟩
      rw [Int.toNat_of_nonneg this.1, decide_eq_true hx, hp]; rfl
    · rintro ⟨w, rfl, _, hw⟩
      rw [Bool.and_eq_true, decide_eq_true_iff] at hw
      exact hw
def befP (h : api_History) (a b : Nat) : Bool := decide (0 ≤ atN h.Events h.Events.length ⟨1, (a : Int)⟩ ∧ atN h.Events h.Events.length ⟨1, (a : Int)⟩ < atN h.Events h.Events.length ⟨0, (b : Int)⟩)
theorem evE_cnt {h : api_History} (hz : histE h = 0) : cntI h.Events h.Events.length = h.Writes.length := by
  have h1 := (histE_zero hz).2.2.2
  have h2 := cnt_le (l := h.Events) (n := h.Writes.length) (k := h.Events.length) fun j hj => hist_ev hz hj
  unfold evE at h1
  split at h1
  · rename_i q; exact absurd h1 q
  · split at h1
    · omega
    · omega
theorem iss_nn {h : api_History} (hz : histE h = 0) {b : Nat} (hb : b < h.Writes.length) : 0 ≤ atN h.Events h.Events.length ⟨0, (b : Int)⟩ :=
  (at_issue (n := h.Writes.length) (fun j hj => hist_ev hz hj) _).2 ⟨by omega, by rw [evE_cnt hz]; omega⟩
theorem atN_top (l : List api_HistoryEvent) (n : Nat) (e : api_HistoryEvent) : atN l n e < (n : Int) := by
  rcases atN_lt l n e with h | h <;> omega
theorem befC_eq {h : api_History} (hz : histE h = 0) {a b : Nat} (ha : a < h.Writes.length) (hb : b < h.Writes.length) : befC h a b = befP h a b := by
  unfold befC befP ackW issW
  rw [ix_relL ha, ix_relL hb]
  have h1 := iss_nn hz hb
  rw [if_pos h1]
  refine decide_eq_decide.2 ?_
  by_cases q : 0 ≤ atN h.Events h.Events.length ⟨1, (a : Int)⟩
  · rw [if_pos q]; exact ⟨fun t => ⟨q, t⟩, fun t => t.2⟩
  · rw [if_neg q]
    have := atN_top h.Events h.Events.length ⟨0, (b : Int)⟩
    exact ⟨fun t => by omega, fun t => absurd t.1 q⟩
def fullL (n k : Nat) (a b : Int) : List Int := (List.range n).map fun w : Nat => if w < k then a else b
theorem fullL_len {n k : Nat} {a b : Int} : (fullL n k a b).length = n := by unfold fullL; rw [List.length_map, List.length_range]
theorem ix_fillL {n k w : Nat} {a b : Int} (h : w < n) : ix (fullL n k a b) (w : Int) = if w < k then a else b := by
  rw [ix_get (by rw [fullL_len]; exact h)]
  unfold fullL
  rw [List.getElem_map, List.getElem_range]
theorem ix_rep {n w : Nat} {a : Int} (h : w < n) : ix (List.replicate n a) (w : Int) = a := by rw [ix_get (by rw [List.length_replicate]; exact h), List.getElem_replicate]
theorem fullL_zero {n : Nat} {a b : Int} : List.replicate n b = fullL n 0 a b := ext_ix (by rw [fullL_len, List.length_replicate]) fun j hj => by
  rw [List.length_replicate] at hj
  rw [ix_fillL hj, ix_rep hj, if_neg (Nat.not_lt_zero j)]
theorem fullL_all {n : Nat} {a b : Int} : fullL n n a b = List.replicate n a := ext_ix (by rw [fullL_len, List.length_replicate]) fun j hj => by
  rw [fullL_len] at hj
  rw [ix_fillL hj, ix_rep hj, if_pos hj]
theorem fullL_put {n k : Nat} {a b : Int} (hk : k < n) : put (fullL n k a b) (k : Int) a = fullL n (k + 1) a b := ext_ix (by rw [put_len, fullL_len, fullL_len]) fun j hj => by
  rw [put_len, fullL_len] at hj
  rw [ix_put _ _ (by rw [fullL_len]; exact hk), ix_fillL hj, ix_fillL hj]
  by_cases e : j = k
  · rw [if_pos e, if_pos (by omega)]
  · rw [if_neg e]
    by_cases q : j < k
    · rw [if_pos q, if_pos (by omega)]
    · rw [if_neg q, if_neg (by omega)]
def rowB (n k : Nat) (p : Nat → Bool) : List Bool := (List.range n).map fun w : Nat => decide (w < k) && p w
theorem rowB_len {n k : Nat} {p : Nat → Bool} : (rowB n k p).length = n := by unfold rowB; rw [List.length_map, List.length_range]
theorem ix_rowB {n k w : Nat} {p : Nat → Bool} (h : w < n) : ix (rowB n k p) (w : Int) = (decide (w < k) && p w) := by
  rw [ix_get (by rw [rowB_len]; exact h)]
  unfold rowB
  rw [List.getElem_map, List.getElem_range]
theorem rowB_zero {n : Nat} {p : Nat → Bool} : List.replicate n false = rowB n 0 p := ext_ix (by rw [rowB_len, List.length_replicate]) fun j hj => by
  rw [List.length_replicate] at hj
  rw [ix_rowB hj, ix_get (by rw [List.length_replicate]; exact hj), List.getElem_replicate]; simp
theorem rowB_put {n k : Nat} {p : Nat → Bool} {b : Bool} (hk : k < n) (e : p k = b) : rowB n (k + 1) p = put (rowB n k p) (k : Int) b := ext_ix (by rw [put_len, rowB_len, rowB_len]) fun j hj => by
  rw [rowB_len] at hj
  rw [ix_put _ _ (by rw [rowB_len]; exact hk), ix_rowB hj, ix_rowB hj]
  by_cases q : j = k
  · subst q; rw [if_pos rfl, e, decide_eq_true (Nat.lt_succ_self j), Bool.true_and]
  · rw [if_neg q]
    have : decide (j < k + 1) = decide (j < k) := decide_eq_decide.2 (by omega)
    rw [this]
def tblK (h : api_History) (k : Nat) : List (List Bool) := (List.range k).map fun a : Nat => rowB h.Writes.length h.Writes.length fun b => befP h a b
def tblH (h : api_History) : List (List Bool) := tblK h h.Writes.length
theorem tblK_len {h : api_History} {k : Nat} : (tblK h k).length = k := by unfold tblK; rw [List.length_map, List.length_range]
theorem tblK_succ {h : api_History} {k : Nat} : tblK h (k + 1) = tblK h k ++ [rowB h.Writes.length h.Writes.length fun b => befP h k b] := by unfold tblK; rw [List.range_succ, List.map_append]; rfl
theorem ix_tblH {h : api_History} {a : Nat} (ha : a < h.Writes.length) : ix (tblH h) (a : Int) = rowB h.Writes.length h.Writes.length fun b => befP h a b := by
  rw [ix_get (by unfold tblH; rw [tblK_len]; exact ha)]
  unfold tblH tblK
  rw [List.getElem_map, List.getElem_range]
theorem ix_tbl {h : api_History} {a b : Nat} (ha : a < h.Writes.length) (hb : b < h.Writes.length) : ix (ix (tblH h) (a : Int)) (b : Int) = befP h a b := by
  rw [ix_tblH ha, ix_rowB hb, decide_eq_true hb, Bool.true_and]
def ackP (h : api_History) : List Int := relL h.Events 1 h.Writes.length (-1) h.Events.length
def issP (h : api_History) : List Int := relL h.Events 0 h.Writes.length 0 h.Events.length
theorem ackP_at {h : api_History} {a : Nat} (ha : a < h.Writes.length) : ix (ackP h) (a : Int) = atN h.Events h.Events.length ⟨1, (a : Int)⟩ := by
  unfold ackP
  rw [ix_relL ha]
  by_cases q : 0 ≤ atN h.Events h.Events.length ⟨1, (a : Int)⟩
  · rw [if_pos q]
  · rw [if_neg q, atN_neg q]
theorem issP_at {h : api_History} (hz : histE h = 0) {a : Nat} (ha : a < h.Writes.length) : ix (issP h) (a : Int) = atN h.Events h.Events.length ⟨0, (a : Int)⟩ := by
  unfold issP
  rw [ix_relL ha, if_pos (iss_nn hz ha)]
theorem table_L4 {h : api_History} {a : Nat} {t : List (List Bool)} {rec3 : (Int × List (List Bool)) → Prop} {Φ : List (List Bool) → Prop} (hz : histE h = 0) (ha : a < h.Writes.length) (ht : t = tblK h a) (hr : rec3 ((a : Int) + 1, tblK h (a + 1))) : LoopW (ref16_Table_L4 h (ackP h) (issP h) (a : Int) t rec3 Φ) (0, List.replicate h.Writes.length false) := by
  have hw := hist_wr hz
  have la : (ackP h).length = h.Writes.length := relL_len
  have li : (issP h).length = h.Writes.length := relL_len
  have ea := ackP_at ha
  refine LoopW.upT h.Writes.length (fun k => ((k : Int), rowB h.Writes.length k fun b => befP h a b)) (by rw [rowB_zero (p := fun b => befP h a b)]; rfl) (fun k rec hk hrec => ⟨fun _ => ⟨iX (by omega) (by omega), fun q => ⟨iX (by omega) (by omega), iX (by omega) (by omega), iX (by omega) (by rw [rowB_len]; omega), iI (by omega) (by omega), hrec _ ?_⟩, fun q => ⟨iX (by omega) (by rw [rowB_len]; omega), iI (by omega) (by omega), hrec _ ?_⟩⟩, fun r => absurd (show (k : Int) < (h.Writes.length : Int) by omega) r⟩) fun rec => ⟨fun r => absurd r (by show ¬ ((h.Writes.length : Int) < (h.Writes.length : Int)); omega), fun _ => ?_⟩
  · rw [ea] at q
    rw [ea, issP_at hz hk, rowB_put hk (b := decide (atN h.Events h.Events.length ⟨1, (a : Int)⟩ < atN h.Events h.Events.length ⟨0, (k : Int)⟩)) (decide_eq_decide.2 ⟨fun t => t.2, fun t => ⟨q, t⟩⟩)]; rfl
  · rw [ea] at q
    rw [rowB_put hk (b := false) (decide_eq_false fun t => q t.1)]; rfl
  · subst ht
    rw [← tblK_succ]
    have l1 : (tblK h (a + 1)).length = a + 1 := tblK_len
    exact ⟨⟨by rw [l1]; omega, by rw [l1]; unfold maxLen; omega⟩, iI (by omega) (by omega), hr⟩
theorem ref16_Table_ok {h : api_History} {Φ : List (List Bool) → Prop} (hh : SmallH h) (hz : histE h = 0) (hΦ : Φ (tblH h)) : ref16_Table_W h Φ := by
  have hw := hist_wr hz
  have hev := hh.ev
  refine ⟨by omega, ⟨by rw [Int.toNat_natCast]; omega, by rw [Int.toNat_natCast]; unfold maxLen; omega⟩, by omega, ⟨by rw [Int.toNat_natCast]; omega, by rw [Int.toNat_natCast]; unfold maxLen; omega⟩, ?_⟩
  rw [Int.toNat_natCast, fullL_zero (a := -1)]
  refine LoopW.upT h.Writes.length (fun k => ((k : Int), fullL h.Writes.length k (-1) 0)) rfl (fun k rec hk hrec => ⟨fun _ => ⟨iX (by omega) (by rw [fullL_len]; omega), iI (by omega) (by omega), hrec _ (by rw [fullL_put hk]; rfl)⟩, fun r => absurd (show (k : Int) < (h.Writes.length : Int) by omega) r⟩) fun rec => ⟨fun r => absurd r (by show ¬ ((h.Writes.length : Int) < (h.Writes.length : Int)); omega), fun _ => ?_⟩
  rw [fullL_all, Int.toNat_natCast]
  refine LoopW.upT h.Events.length (fun k => ((k : Int), relL h.Events 1 h.Writes.length (-1) k, relL h.Events 0 h.Writes.length 0 k)) (by rw [relL_zero, relL_zero]; rfl) (fun k rec hk hr => ⟨fun _ => ⟨iX (by omega) (by omega), fun q => ?_, fun q => ?_⟩, fun r => absurd (show (k : Int) < (h.Events.length : Int) by omega) r⟩) fun rec => ⟨fun r => absurd r (by show ¬ ((h.Events.length : Int) < (h.Events.length : Int)); omega), fun _ => ?_⟩
  · have q' : (ix h.Events (k : Int)).Kind ≠ 0 := by rw [q]; decide
    obtain ⟨w, e1, e2, e3, e4⟩ := (ev_put hz (N := -1) hk).2 q'
    obtain ⟨_, _, _, _, e5⟩ := (ev_put hz (N := 0) hk).2 q'
    refine ⟨iX (by omega) (by omega), iX (by rw [e1]; omega) (by rw [e1, relL_len]; omega), iI (by omega) (by omega), hr _ ?_⟩
    rw [e1, e3, e5]; rfl
  · have q' : (ix h.Events (k : Int)).Kind = 0 := by
      by_cases z : (ix h.Events (k : Int)).Kind = 0
      · exact z
      · have e := (evErr_ack (hist_ev hz hk) z).1
        rw [e] at q; exact absurd rfl q
    obtain ⟨w, e1, e2, e3, e4⟩ := (ev_put hz (N := 0) hk).1 q'
    obtain ⟨_, _, _, _, e5⟩ := (ev_put hz (N := -1) hk).1 q'
    refine ⟨iX (by omega) (by omega), iX (by rw [e1]; omega) (by rw [e1, relL_len]; omega), iI (by omega) (by omega), hr _ ?_⟩
    rw [e1, e3, e5]; rfl
  · refine LoopW.upT h.Writes.length (fun k => ((k : Int), tblK h k)) rfl (fun k rec hk hrec => ⟨fun _ => ⟨by omega, ⟨by rw [Int.toNat_natCast]; omega, by rw [Int.toNat_natCast]; unfold maxLen; omega⟩, ?_⟩, fun r => absurd (show (k : Int) < (h.Writes.length : Int) by omega) r⟩) fun rec => ⟨fun r => absurd r (by show ¬ ((h.Writes.length : Int) < (h.Writes.length : Int)); omega), fun _ => hΦ⟩
    rw [Int.toNat_natCast]
    exact table_L4 hz hk rfl (hrec _ rfl)
def relP (h : api_History) : Ptr cut_relation := Ptr.mk (cut_relation.mk (h.Writes.length : Int) (h.Events.length : Int) (issW h) (ackW h))
theorem allN_succ {p : Nat → Bool} {k : Nat} : allN p (k + 1) = (allN p k && p k) := by
  unfold allN
  rw [List.range_succ, List.all_append, List.all_cons, List.all_nil, Bool.and_true]
theorem atN_mono {l : List api_HistoryEvent} {e : api_HistoryEvent} {k : Nat} (h : 0 ≤ atN l k e) : ∀ m, atN l (k + m) e = atN l k e
  | 0 => rfl
  | m + 1 => by
    have ih := atN_mono h m
    rw [show k + (m + 1) = (k + m) + 1 by omega, atN_old (by rw [ih]; exact h), ih]
theorem atN_at {l : List api_HistoryEvent} {e : api_HistoryEvent} {n : Nat} (h : 0 ≤ atN l n e) : ∃ k : Nat, k < n ∧ atN l n e = (k : Int) ∧ ix l (k : Int) = e := by
  rcases idxN_cases (fun k => decide (ix l (k : Int) = e)) n with ⟨h1, _⟩ | ⟨k, hk, h1, h2, _⟩
  · have h1 : atN l n e = -1 := h1
    omega
  · exact ⟨k, hk, h1, of_decide_eq_true h2⟩
theorem ack_issue {h : api_History} (hz : histE h = 0) {a : Int} (q : 0 ≤ atN h.Events h.Events.length ⟨1, a⟩) : 0 ≤ a ∧ a < (h.Writes.length : Int) ∧ atN h.Events h.Events.length ⟨0, a⟩ < atN h.Events h.Events.length ⟨1, a⟩ := by
  obtain ⟨k, hk, e1, e2⟩ := atN_at q
  have hev := hist_ev hz hk
  have nk : ¬ (ix h.Events (k : Int)).Kind = 0 := by rw [e2]; exact fun t => absurd (show (1 : Int) = 0 from t) (by decide)
  obtain ⟨_, h1, h2, _⟩ := evErr_ack hev nk
  rw [e2] at h1 h2
  have h1 : 0 ≤ a := h1
  have h2 : a < (cntI h.Events k : Int) := h2
  have h0 : ∀ j, j < k → evErr h.Events h.Writes.length j = 0 := fun j hj => hist_ev hz (by omega)
  have c := cnt_le h0
  have i1 := (at_issue h0 a).2 ⟨h1, h2⟩
  have i2 := atN_mono i1 (h.Events.length - k)
  rw [show k + (h.Events.length - k) = h.Events.length by omega] at i2
  have i3 := atN_top h.Events k ⟨0, a⟩
  exact ⟨h1, by omega, by rw [i2, e1]; exact i3⟩
def ClosedS (h : api_History) (l : List Int) : Prop := ∀ a b : Nat, a < h.Writes.length → (b : Int) ∈ l → befP h a b = true → (a : Int) ∈ l
def StL (l : List (List Int)) : Prop := l.Pairwise fun a b => cmpL a b < 0
theorem ltL_irr (a : List Int) : ¬ cmpL a a < 0 := by rw [cmpL_self]; omega
theorem ltL_trans {a b c : List Int} (h : cmpL a b < 0) (k : cmpL b c < 0) : cmpL a c < 0 := by
  have h1 := cmpL_trans a b c (by omega) (by omega)
  by_cases h2 : cmpL a c = 0
  · have := cmpL_eq a c h2
    subst this
    have := cmpL_swap a b; omega
  · omega
theorem StL.ext : ∀ {a b : List (List Int)}, StL a → StL b → (∀ x, x ∈ a ↔ x ∈ b) → a = b
  | [], [], _, _, _ => rfl
  | [], y :: _, _, _, h => absurd ((h y).2 List.mem_cons_self) (by simp)
  | x :: _, [], _, _, h => absurd ((h x).1 List.mem_cons_self) (by simp)
  | x :: a, y :: b, ha, hb, h => by
    have h1 := List.pairwise_cons.1 ha
    have h2 := List.pairwise_cons.1 hb
    have e : x = y := by
      rcases List.mem_cons.1 ((h x).1 List.mem_cons_self) with q | q
      · exact q
      · rcases List.mem_cons.1 ((h y).2 List.mem_cons_self) with r | r
        · exact r.symm
        · have := ltL_trans (h1.1 y r) (h2.1 x q)
          exact absurd this (ltL_irr x)
    subst e
    rw [StL.ext h1.2 h2.2 fun z => ?_]
    have hz := h z
    rw [List.mem_cons, List.mem_cons] at hz
    constructor
    · intro m
      rcases hz.1 (.inr m) with q | q
      · subst q; exact absurd (h1.1 z m) (ltL_irr z)
      · exact q
    · intro m
      rcases hz.2 (.inr m) with q | q
      · subst q; exact absurd (h2.1 z m) (ltL_irr z)
      · exact q
def insU (x : List Int) (l : List (List Int)) : List (List Int) := if x ∈ l then l else insL x l
theorem mem_insL {x y : List Int} {l : List (List Int)} : y ∈ insL x l ↔ y = x ∨ y ∈ l := by
  rw [(insL_perm x l).mem_iff, List.mem_cons]
theorem mem_insU {x y : List Int} {l : List (List Int)} : y ∈ insU x l ↔ y = x ∨ y ∈ l := by
  unfold insU
  split
  · rename_i h
    exact ⟨.inr, fun t => t.elim (fun e => e ▸ h) id⟩
  · exact mem_insL
theorem insL_st {x : List Int} : ∀ {l : List (List Int)}, StL l → x ∉ l → StL (insL x l)
  | [], _, _ => by simp [insL, StL]
  | y :: r, h, hx => by
    have h1 := List.pairwise_cons.1 h
    have hxy : x ≠ y := fun e => hx (e ▸ List.mem_cons_self)
    unfold insL
    split
    · rename_i c
      have c2 : cmpL x y < 0 := by
        have : cmpL x y ≠ 0 := fun t => hxy (cmpL_eq _ _ t)
        omega
      refine List.pairwise_cons.2 ⟨fun z hz => ?_, h⟩
      rcases List.mem_cons.1 hz with rfl | hz
      · exact c2
      · exact ltL_trans c2 (h1.1 z hz)
    · rename_i c
      refine List.pairwise_cons.2 ⟨fun z hz => ?_, insL_st h1.2 fun t => hx (List.mem_cons_of_mem _ t)⟩
      rcases mem_insL.1 hz with rfl | hz
      · have := cmpL_swap z y; omega
      · exact h1.1 z hz
theorem insU_st {x : List Int} {l : List (List Int)} (h : StL l) : StL (insU x l) := by
  unfold insU
  split
  · exact h
  · rename_i q; exact insL_st h q
theorem insU_len {x : List Int} {l : List (List Int)} : (insU x l).length ≤ l.length + 1 := by
  unfold insU
  split
  · omega
  · rw [(insL_perm x l).length_eq]; simp
def dedS (l : List (List Int)) : List (List Int) := l.foldl (fun a x => insU x a) []
theorem dedS_snoc (l : List (List Int)) (x : List Int) : dedS (l ++ [x]) = insU x (dedS l) := by unfold dedS; rw [List.foldl_append]; rfl
theorem foldU_mem {y : List Int} : ∀ {l a : List (List Int)}, y ∈ l.foldl (fun a x => insU x a) a ↔ y ∈ a ∨ y ∈ l
  | [], a => by simp
  | x :: l, a => by
    rw [List.foldl_cons, foldU_mem (l := l), mem_insU, List.mem_cons]
    constructor
    · rintro ((h | h) | h)
      · exact .inr (.inl h)
      · exact .inl h
      · exact .inr (.inr h)
    · rintro (h | h | h)
      · exact .inl (.inr h)
      · exact .inl (.inl h)
      · exact .inr h
theorem mem_dedS {y : List Int} {l : List (List Int)} : y ∈ dedS l ↔ y ∈ l := by unfold dedS; rw [foldU_mem]; simp
theorem foldU_st : ∀ {l a : List (List Int)}, StL a → StL (l.foldl (fun a x => insU x a) a)
  | [], _, h => h
  | _ :: l, _, h => foldU_st (l := l) (insU_st h)
theorem dedS_st (l : List (List Int)) : StL (dedS l) := foldU_st List.Pairwise.nil
def dedF (l : List (List Int)) : List (List Int) := l.foldl (fun a x => if x ∈ a then a else a ++ [x]) []
theorem dedF_snoc (l : List (List Int)) (x : List Int) : dedF (l ++ [x]) = if x ∈ dedF l then dedF l else dedF l ++ [x] := by unfold dedF; rw [List.foldl_append]; rfl
theorem foldF_mem {y : List Int} : ∀ {l a : List (List Int)}, y ∈ l.foldl (fun a x => if x ∈ a then a else a ++ [x]) a ↔ y ∈ a ∨ y ∈ l
  | [], a => by simp
  | x :: l, a => by
    rw [List.foldl_cons, foldF_mem (l := l), List.mem_cons]
    by_cases q : x ∈ a
    · rw [if_pos q]
      constructor
      · rintro (h | h)
        · exact .inl h
        · exact .inr (.inr h)
      · rintro (h | h | h)
        · exact .inl h
        · exact .inl (h ▸ q)
        · exact .inr h
    · rw [if_neg q, List.mem_append, List.mem_singleton]
      constructor
      · rintro ((h | h) | h)
        · exact .inl h
        · exact .inr (.inl h)
        · exact .inr (.inr h)
      · rintro (h | h | h)
        · exact .inl (.inl h)
        · exact .inl (.inr h)
        · exact .inr h
theorem mem_dedF {y : List Int} {l : List (List Int)} : y ∈ dedF l ↔ y ∈ l := by unfold dedF; rw [foldF_mem]; simp
theorem foldF_nd : ∀ {l a : List (List Int)}, a.Nodup → (l.foldl (fun a x => if x ∈ a then a else a ++ [x]) a).Nodup
  | [], _, h => h
  | x :: l, a, h => by
    rw [List.foldl_cons]
    refine foldF_nd ?_
    by_cases q : x ∈ a
    · rw [if_pos q]; exact h
    · rw [if_neg q]
      refine List.nodup_append.2 ⟨h, by simp, fun u hu v hv e => q ?_⟩
      rw [List.mem_singleton] at hv
      rw [← hv, ← e]; exact hu
theorem dedF_nd (l : List (List Int)) : (dedF l).Nodup := foldF_nd List.nodup_nil
theorem sortL_st {l : List (List Int)} (h : l.Nodup) : StL (sortL l) := by
  have h1 := sortL_sorted l
  have h2 : (sortL l).Nodup := (sortL_perm l).nodup_iff.2 h
  refine (h1.and h2).imp ?_
  rintro a b ⟨h3, h4⟩
  have : cmpL a b ≠ 0 := fun t => h4 (cmpL_eq _ _ t)
  unfold leL at h3; omega
theorem sort_dedF (l : List (List Int)) : sortL (dedF l) = dedS l := (sortL_st (dedF_nd l)).ext (dedS_st l) fun x => by
  rw [(sortL_perm _).mem_iff, mem_dedF, mem_dedS]
theorem dedF_len (l : List (List Int)) : (dedF l).length = (dedS l).length := by rw [← sort_dedF, (sortL_perm _).length_eq]
theorem dedF_le (l m : List (List Int)) : (dedF l).length ≤ (dedF (l ++ m)).length := by
  unfold dedF
  rw [List.foldl_append]
  generalize List.foldl (fun a x => if x ∈ a then a else a ++ [x]) [] l = a
  induction m generalizing a with
  | nil => exact Nat.le_refl _
  | cons x m ih =>
    rw [List.foldl_cons]
    refine Nat.le_trans ?_ (ih _)
    by_cases q : x ∈ a
    · rw [if_pos q]; exact Nat.le_refl _
    · rw [if_neg q]; simp
theorem dedS_le (l m : List (List Int)) : (dedS l).length ≤ (dedS (l ++ m)).length := by rw [← dedF_len, ← dedF_len]; exact dedF_le l m
def canB (h : api_History) (c : List Int) (n : Nat) : Bool := !decide ((n : Int) ∈ c) && allN (fun a => !befP h a n || decide ((a : Int) ∈ c)) h.Writes.length
def extK (h : api_History) (c : List Int) (k : Nat) : List (List Int) := ((List.range k).filter (canB h c)).map fun n : Nat => insI (n : Int) c
def candL (h : api_History) (L : List (List Int)) : List (List Int) := L.flatMap fun c => extK h c h.Writes.length
theorem extK_succ {h : api_History} {c : List Int} {k : Nat} : extK h c (k + 1) = extK h c k ++ (if canB h c k = true then [insI (k : Int) c] else []) := by
  unfold extK
  rw [filter_range_snoc, List.map_append]
  by_cases q : canB h c k = true
  · rw [if_pos q, if_pos q]; rfl
  · rw [if_neg q, if_neg q]; rfl
theorem candL_take {h : api_History} {L : List (List Int)} {i : Nat} (hi : i < L.length) : candL h (L.take (i + 1)) = candL h (L.take i) ++ extK h (ix L (i : Int)) h.Writes.length := by
  unfold candL
  rw [take_ix hi, List.flatMap_append]; simp
def nextL (h : api_History) (L : List (List Int)) : List (List Int) := dedS (candL h L)
def allK (h : api_History) (most : Int) : Nat → List (List Int) → List (List Int) → List (List Int) × Int
  | 0, _, _ => ([], 6)
  | f + 1, out, L => if L = [] then (out, 0) else if most < ((out ++ L).length : Int) then ([], 6) else allK h most f (out ++ L) (nextL h L)
def allR (h : api_History) (most : Int) : List (List Int) × Int := if histE h ≠ 0 then ([], histE h) else if most < 0 ∨ 4096 < most then ([], 2) else allK h most (h.Writes.length + 2) [] [[]]
def LevelOk (h : api_History) (k : Nat) (L : List (List Int)) : Prop := ∀ c ∈ L, isSetB c (h.Writes.length : Int) = true ∧ c.length = k
theorem set_of_pair {n : Int} : ∀ {l : List Int}, l.Pairwise (· < ·) → (∀ x ∈ l, 0 ≤ x ∧ x < n) → isSetB l n = true := by
  intro l hp hr
  refine allN_true.2 fun k hk => decide_eq_true ?_
  have m := hr _ (ix_mem (xs := l) (i := (k : Int)) ⟨by omega, by omega⟩)
  refine ⟨m.1, m.2, fun h0 => ?_⟩
  have := List.pairwise_iff_getElem.1 hp (k - 1) k (by omega) hk (by omega)
  rw [← ix_get (xs := l) (k := k - 1) (by omega), ← ix_get hk] at this
  rw [show ((k - 1 : Nat) : Int) = (k : Int) - 1 by omega] at this
  exact this
theorem mem_insI {x y : Int} {l : List Int} : y ∈ insI x l ↔ y = x ∨ y ∈ l := by rw [(insI_perm x l).mem_iff, List.mem_cons]
theorem insI_lt {x : Int} : ∀ {l : List Int}, l.Pairwise (· < ·) → x ∉ l → (insI x l).Pairwise (· < ·)
  | [], _, _ => by simp [insI]
  | y :: r, h, hx => by
    have h1 := List.pairwise_cons.1 h
    have hxy : x ≠ y := fun e => hx (e ▸ List.mem_cons_self)
    unfold insI
    split
    · rename_i c
      refine List.pairwise_cons.2 ⟨fun z hz => ?_, h⟩
      rcases List.mem_cons.1 hz with rfl | hz
      · omega
      · have := h1.1 z hz; omega
    · rename_i c
      refine List.pairwise_cons.2 ⟨fun z hz => ?_, insI_lt h1.2 fun t => hx (List.mem_cons_of_mem _ t)⟩
      rcases mem_insI.1 hz with rfl | hz
      · omega
      · exact h1.1 z hz
theorem insI_set {n : Nat} {N : Int} {c : List Int} (hn : (n : Int) < N) (hc : isSetB c N = true) (hx : (n : Int) ∉ c) : isSetB (insI (n : Int) c) N = true :=
  set_of_pair (insI_lt (set_pair hc) hx) fun x hx => (mem_insI.1 hx).elim (fun e => by omega) fun m => isSetB_mem hc m
theorem mem_extK {h : api_History} {c d : List Int} {k : Nat} : d ∈ extK h c k ↔ ∃ n : Nat, n < k ∧ canB h c n = true ∧ d = insI (n : Int) c := by
  unfold extK
  rw [List.mem_map]
  constructor
  · rintro ⟨n, hn, rfl⟩
    have := List.mem_filter.1 hn
    exact ⟨n, List.mem_range.1 this.1, this.2, rfl⟩
  · rintro ⟨n, h1, h2, rfl⟩
    exact ⟨n, List.mem_filter.2 ⟨List.mem_range.2 h1, h2⟩, rfl⟩
theorem canB_not {h : api_History} {c : List Int} {n : Nat} (q : canB h c n = true) : (n : Int) ∉ c := by
  unfold canB at q
  rw [Bool.and_eq_true, Bool.not_eq_true', decide_eq_false_iff_not] at q
  exact q.1
theorem ext_ok {h : api_History} {c d : List Int} {k : Nat} (hc : isSetB c (h.Writes.length : Int) = true ∧ c.length = k) (hd : d ∈ extK h c h.Writes.length) : isSetB d (h.Writes.length : Int) = true ∧ d.length = k + 1 := by
  obtain ⟨n, h1, h2, rfl⟩ := mem_extK.1 hd
  exact ⟨insI_set (by omega) hc.1 (canB_not h2), by rw [(insI_perm _ _).length_eq, List.length_cons, hc.2]⟩
theorem cand_ok {h : api_History} {k : Nat} {L : List (List Int)} (hL : LevelOk h k L) : LevelOk h (k + 1) (candL h L) := by
  intro d hd
  obtain ⟨c, hc, hd⟩ := List.mem_flatMap.1 hd
  exact ext_ok (hL c hc) hd
theorem next_ok {h : api_History} {k : Nat} {L : List (List Int)} (hL : LevelOk h k L) : LevelOk h (k + 1) (nextL h L) := fun d hd => cand_ok hL d (mem_dedS.1 hd)
theorem level_le {h : api_History} {k : Nat} {L : List (List Int)} (hL : LevelOk h k L) (hn : L ≠ []) : k ≤ h.Writes.length := by
  cases L with
  | nil => exact absurd rfl hn
  | cons c L =>
    have := hL c List.mem_cons_self
    have := isSetB_le this.1 (by omega)
    omega
theorem befP_iss {h : api_History} (hz : histE h = 0) {a b : Nat} (q : befP h a b = true) : atN h.Events h.Events.length ⟨0, (a : Int)⟩ < atN h.Events h.Events.length ⟨0, (b : Int)⟩ := by
  unfold befP at q
  rw [decide_eq_true_iff] at q
  have := (ack_issue hz q.1).2.2
  omega
theorem cntI_mono (l : List api_HistoryEvent) : ∀ {i : Nat} (m : Nat), cntI l i ≤ cntI l (i + m)
  | _, 0 => Nat.le_refl _
  | i, m + 1 => by
    have ih := cntI_mono l (i := i) m
    by_cases q : (ix l ((i + m : Nat) : Int)).Kind = 0
    · rw [show i + (m + 1) = (i + m) + 1 by omega, cnt_issue q]; omega
    · rw [show i + (m + 1) = (i + m) + 1 by omega, cnt_ack q]; exact ih
theorem iss_at {h : api_History} (hz : histE h = 0) {a : Nat} (ha : a < h.Writes.length) : ∃ k : Nat, k < h.Events.length ∧ atN h.Events h.Events.length ⟨0, (a : Int)⟩ = (k : Int) ∧ (ix h.Events (k : Int)).Kind = 0 ∧ cntI h.Events k = a := by
  obtain ⟨k, hk, e1, e2⟩ := atN_at (iss_nn hz ha)
  have kd : (ix h.Events (k : Int)).Kind = 0 := by rw [e2]
  have := (evErr_issue (hist_ev hz hk) kd).1
  rw [e2] at this
  have e3 : (a : Int) = (cntI h.Events k : Int) := congrArg api_HistoryEvent.Write this
  exact ⟨k, hk, e1, kd, by omega⟩
theorem iss_mono {h : api_History} (hz : histE h = 0) {a b : Nat} (ha : a < h.Writes.length) (hb : b < h.Writes.length) (q : atN h.Events h.Events.length ⟨0, (a : Int)⟩ < atN h.Events h.Events.length ⟨0, (b : Int)⟩) : a < b := by
  obtain ⟨i, hi, e1, k1, c1⟩ := iss_at hz ha
  obtain ⟨j, hj, e2, k2, c2⟩ := iss_at hz hb
  have m := cntI_mono h.Events (i := i + 1) (j - (i + 1))
  rw [cnt_issue k1, show i + 1 + (j - (i + 1)) = j by omega] at m
  omega
def lev (h : api_History) : Nat → List (List Int)
  | 0 => [[]]
  | k + 1 => nextL h (lev h k)
theorem lev_ok (h : api_History) : ∀ k, LevelOk h k (lev h k)
  | 0 => fun c hc => by rw [List.mem_singleton.1 hc]; exact ⟨rfl, rfl⟩
  | k + 1 => next_ok (lev_ok h k)
theorem canB_iff {h : api_History} {c : List Int} {n : Nat} : canB h c n = true ↔ (n : Int) ∉ c ∧ ∀ a : Nat, a < h.Writes.length → befP h a n = true → (a : Int) ∈ c := by
  unfold canB
  rw [Bool.and_eq_true, Bool.not_eq_true', decide_eq_false_iff_not, allN_true]
  refine and_congr_right fun _ => forall_congr' fun a => forall_congr' fun _ => ?_
  cases befP h a n <;> simp
theorem ins_closed {h : api_History} {c : List Int} {n : Nat} (hc : ClosedS h c) (q : canB h c n = true) : ClosedS h (insI (n : Int) c) := by
  intro a b ha hb hab
  rcases mem_insI.1 hb with e | m
  · have e : b = n := by omega
    subst e
    exact mem_insI.2 (.inr ((canB_iff.1 q).2 a ha hab))
  · exact mem_insI.2 (.inr (hc a b ha m hab))
theorem max_ex : ∀ {l : List Int}, l ≠ [] → ∃ x ∈ l, ∀ y ∈ l, y ≤ x
  | [], h => absurd rfl h
  | [x], _ => ⟨x, List.mem_cons_self, fun y hy => by rw [List.mem_singleton.1 hy]; omega⟩
  | x :: y :: r, _ => by
    obtain ⟨z, hz, h2⟩ := max_ex (l := y :: r) (by simp)
    by_cases c : x ≤ z
    · exact ⟨z, List.mem_cons_of_mem _ hz, fun u hu => (List.mem_cons.1 hu).elim (fun e => e ▸ c) (h2 u)⟩
    · exact ⟨x, List.mem_cons_self, fun u hu => (List.mem_cons.1 hu).elim (fun e => by omega) fun m => by have := h2 u m; omega⟩
theorem bef_lt {h : api_History} (hz : histE h = 0) {a b : Nat} (ha : a < h.Writes.length) (hb : b < h.Writes.length) (hab : befP h a b = true) : a < b := iss_mono hz ha hb (befP_iss hz hab)
theorem lev_mem {h : api_History} (hz : histE h = 0) : ∀ {k : Nat} {c : List Int}, c ∈ lev h k ↔ isSetB c (h.Writes.length : Int) = true ∧ c.length = k ∧ ClosedS h c
  | 0, c => by
    constructor
    · intro hc
      rw [List.mem_singleton.1 hc]
      exact ⟨rfl, rfl, fun _ _ _ hb => absurd hb (by simp)⟩
    · rintro ⟨_, h2, _⟩
      rw [List.eq_nil_of_length_eq_zero h2]; exact List.mem_singleton.2 rfl
  | k + 1, c => by
    constructor
    · intro hc
      have h1 := lev_ok h (k + 1) c hc
      obtain ⟨d, hd, he⟩ := List.mem_flatMap.1 (mem_dedS.1 hc)
      obtain ⟨n, _, h3, rfl⟩ := mem_extK.1 he
      exact ⟨h1.1, h1.2, ins_closed ((lev_mem hz).1 hd).2.2 h3⟩
    · rintro ⟨h1, h2, h3⟩
      obtain ⟨x, hx, hmax⟩ := max_ex (l := c) (fun e => by rw [e] at h2; cases h2)
      have m := isSetB_mem h1 hx
      obtain ⟨n, rfl⟩ : ∃ n : Nat, x = (n : Int) := ⟨x.toNat, by omega⟩
      have hn : n < h.Writes.length := by omega
      have hd1 : isSetB (c.filter fun x => !decide (x = (n : Int))) (h.Writes.length : Int) = true := by
        rw [set_filter h1]; exact selL_set (Nat.le_refl _) (Int.le_refl _)
      have md : ∀ y, y ∈ (c.filter fun x => !decide (x = (n : Int))) ↔ y ∈ c ∧ y ≠ (n : Int) := fun y => by
        rw [List.mem_filter, Bool.not_eq_true', decide_eq_false_iff_not]
      have hd3 : ClosedS h (c.filter fun x => !decide (x = (n : Int))) := fun a b ha hb hab => by
        have hb := (md _).1 hb
        have bm := isSetB_mem h1 hb.1
        have := bef_lt hz ha (b := b) (by omega) hab
        have := hmax _ hb.1
        exact (md _).2 ⟨h3 a b ha hb.1 hab, by omega⟩
      have hc : canB h (c.filter fun x => !decide (x = (n : Int))) n = true := canB_iff.2 ⟨fun t => ((md _).1 t).2 rfl, fun a ha hab => (md _).2 ⟨h3 a n ha hx hab, by have := bef_lt hz ha hn hab; omega⟩⟩
      have e : insI (n : Int) (c.filter fun x => !decide (x = (n : Int))) = c := set_ext (n := (h.Writes.length : Int)) (insI_lt (set_pair hd1) fun t => ((md _).1 t).2 rfl) (set_pair h1) fun y => by
        rw [mem_insI, md]
        constructor
        · rintro (q | q)
          · rw [q]; exact hx
          · exact q.1
        · intro q
          by_cases r : y = (n : Int)
          · exact .inl r
          · exact .inr ⟨q, r⟩
      have hl : (c.filter fun x => !decide (x = (n : Int))).length = k := by
        have := (insI_perm (n : Int) (c.filter fun x => !decide (x = (n : Int)))).length_eq
        rw [e, List.length_cons] at this
        omega
      refine mem_dedS.2 (List.mem_flatMap.2 ⟨_, (lev_mem hz).2 ⟨hd1, hl, hd3⟩, mem_extK.2 ⟨n, hn, hc, e.symm⟩⟩)
def levs (h : api_History) (k : Nat) : List (List Int) := (List.range k).flatMap (lev h)
theorem levs_succ {h : api_History} {k : Nat} : levs h (k + 1) = levs h k ++ lev h k := by unfold levs; rw [List.range_succ, List.flatMap_append]; simp
theorem mem_levs {h : api_History} (hz : histE h = 0) {k : Nat} {c : List Int} : c ∈ levs h k ↔ isSetB c (h.Writes.length : Int) = true ∧ c.length < k ∧ ClosedS h c := by
  unfold levs
  rw [List.mem_flatMap]
  constructor
  · rintro ⟨j, hj, hc⟩
    obtain ⟨h1, h2, h3⟩ := (lev_mem hz).1 hc
    exact ⟨h1, by have := List.mem_range.1 hj; omega, h3⟩
  · rintro ⟨h1, h2, h3⟩
    exact ⟨c.length, List.mem_range.2 h2, (lev_mem hz).2 ⟨h1, rfl, h3⟩⟩
theorem lev_nil {h : api_History} {k : Nat} (e : lev h k = []) : ∀ j, lev h (k + j) = []
  | 0 => e
  | j + 1 => by
    show nextL h (lev h (k + j)) = []
    rw [lev_nil e j]; rfl
theorem levs_nil {h : api_History} {k : Nat} (e : lev h k = []) : ∀ j, levs h (k + j) = levs h k
  | 0 => rfl
  | j + 1 => by
    rw [show k + (j + 1) = (k + j) + 1 by omega, levs_succ, lev_nil e j, List.append_nil, levs_nil e j]
theorem levs_mono {h : api_History} {k : Nat} : ∀ j, (levs h k).length ≤ (levs h (k + j)).length
  | 0 => Nat.le_refl _
  | j + 1 => by
    rw [show k + (j + 1) = (k + j) + 1 by omega, levs_succ, List.length_append]
    have := levs_mono (h := h) (k := k) j
    omega
theorem allK_spec {h : api_History} {most : Int} : ∀ {f k : Nat}, h.Writes.length + 2 ≤ f + k → k ≤ h.Writes.length + 1 → ((levs h k).length : Int) ≤ most → (allK h most f (levs h k) (lev h k) = (levs h (h.Writes.length + 1), 0) ∧ ((levs h (h.Writes.length + 1)).length : Int) ≤ most) ∨ allK h most f (levs h k) (lev h k) = ([], 6) ∧ most < ((levs h (h.Writes.length + 1)).length : Int)
  | 0, k, hk, hk2, _ => by omega
  | f + 1, k, hk, hk2, hm => by
    unfold allK
    by_cases e : lev h k = []
    · rw [if_pos e]
      obtain ⟨j, hj⟩ : ∃ j, h.Writes.length + 1 = k + j := ⟨h.Writes.length + 1 - k, by omega⟩
      rw [hj, levs_nil e j]
      exact .inl ⟨rfl, hm⟩
    · rw [if_neg e]
      have hk3 : k ≤ h.Writes.length := level_le (lev_ok h k) e
      have e2 : levs h k ++ lev h k = levs h (k + 1) := levs_succ.symm
      rw [e2]
      by_cases q : most < ((levs h (k + 1)).length : Int)
      · rw [if_pos q]
        obtain ⟨j, hj⟩ : ∃ j, h.Writes.length + 1 = k + 1 + j := ⟨h.Writes.length - k, by omega⟩
        have := levs_mono (h := h) (k := k + 1) j
        rw [← hj] at this
        exact .inr ⟨rfl, by omega⟩
      · rw [if_neg q]
        exact allK_spec (f := f) (k := k + 1) (by omega) (by omega) (by omega)
theorem allR_spec {h : api_History} {most : Int} (hz : histE h = 0) (h0 : 0 ≤ most) (h1 : most ≤ 4096) : (allR h most = (levs h (h.Writes.length + 1), 0) ∧ ((levs h (h.Writes.length + 1)).length : Int) ≤ most) ∨ allR h most = ([], 6) ∧ most < ((levs h (h.Writes.length + 1)).length : Int) := by
  unfold allR
  rw [if_neg (fun t => t hz), if_neg (by omega)]
  exact allK_spec (f := h.Writes.length + 2) (k := 0) (by omega) (by omega) (by show (0 : Int) ≤ most; exact h0)
theorem allR_small {h : api_History} {most : Int} (hw : h.Writes.length ≤ 4096) : (allR h most).1.length ≤ 4096 ∧ ∀ c ∈ (allR h most).1, c.length ≤ 4096 := by
  by_cases hz : histE h = 0
  · by_cases q : most < 0 ∨ 4096 < most
    · unfold allR
      rw [if_neg (fun t => t hz), if_pos q]
      exact ⟨Nat.zero_le _, fun c hc => absurd hc (by simp)⟩
    · rcases allR_spec hz (most := most) (by omega) (by omega) with ⟨e, hl⟩ | ⟨e, _⟩
      · rw [e]
        refine ⟨by show (levs h (h.Writes.length + 1)).length ≤ 4096; omega, fun c hc => ?_⟩
        have := (mem_levs hz).1 hc
        omega
      · rw [e]; exact ⟨Nat.zero_le _, fun c hc => absurd hc (by simp)⟩
  · unfold allR
    rw [if_pos hz]
    exact ⟨Nat.zero_le _, fun c hc => absurd hc (by simp)⟩
theorem sort_ins {n : Int} {c : List Int} (hc : c.Pairwise (· < ·)) (hn : n ∉ c) : sortI (c ++ [n]) = insI n c := by
  have h1 : (sortI (c ++ [n])).Perm (insI n c) := (sortI_perm _).trans ((List.perm_append_comm (l₁ := c) (l₂ := [n])).trans (insI_perm n c).symm)
  have h2 := sortI_sorted (c ++ [n])
  have h3 : (insI n c).Pairwise (· ≤ ·) := (insI_lt hc hn).imp fun {a b} h => by omega
  exact List.Perm.eq_of_pairwise (le := fun a b : Int => a ≤ b) (fun a b _ _ h k => by omega) h2 h3 h1
theorem digS_inj {a b : Int} (ha : 0 ≤ a) (ha2 : a < 100) (hb : 0 ≤ b) (hb2 : b < 100) {x y : List UInt8} (h : digS a ++ x = digS b ++ y) : a = b ∧ x = y := by
  obtain ⟨n, rfl⟩ : ∃ n : Nat, a = (n : Int) := ⟨a.toNat, by omega⟩
  obtain ⟨m, rfl⟩ : ∃ m : Nat, b = (m : Int) := ⟨b.toNat, by omega⟩
  have dig : ∀ k j : Nat, k < 10 → j < 10 → UInt8.ofNat (48 + k) = UInt8.ofNat (48 + j) → k = j := by
    intro k j hk hj e
    have := congrArg UInt8.toNat e
    rw [UInt8.toNat_ofNat', UInt8.toNat_ofNat'] at this
    omega
  have spc : ∀ k : Nat, k < 10 → UInt8.ofNat (48 + k) = 32 → False := by
    intro k hk e
    have := congrArg UInt8.toNat e
    rw [UInt8.toNat_ofNat'] at this
    have e2 : (32 : UInt8).toNat = 32 := rfl
    rw [e2] at this
    omega
  unfold digS at h
  simp only [Int.toNat_natCast] at h
  by_cases p : (n : Int) < 10
  · rw [if_pos p] at h
    by_cases q : (m : Int) < 10
    · rw [if_pos q] at h
      simp only [List.cons_append, List.nil_append, List.cons.injEq, true_and] at h
      exact ⟨by rw [dig n m (by omega) (by omega) h.1], h.2⟩
    · rw [if_neg q] at h
      simp only [List.cons_append, List.nil_append, List.cons.injEq] at h
      exact (spc (m % 10) (by omega) h.2.1.symm).elim
  · rw [if_neg p] at h
    by_cases q : (m : Int) < 10
    · rw [if_pos q] at h
      simp only [List.cons_append, List.nil_append, List.cons.injEq] at h
      exact (spc (n % 10) (by omega) h.2.1).elim
    · rw [if_neg q] at h
      simp only [List.cons_append, List.nil_append, List.cons.injEq, true_and] at h
      have e1 := dig (n / 10) (m / 10) (by omega) (by omega) h.1
      have e2 := dig (n % 10) (m % 10) (by omega) (by omega) h.2.1
      exact ⟨by omega, h.2.2⟩
theorem digs_inj : ∀ {a b : List Int}, (∀ x ∈ a, 0 ≤ x ∧ x < 100) → (∀ x ∈ b, 0 ≤ x ∧ x < 100) → a.flatMap digS = b.flatMap digS → a = b
  | [], [], _, _, _ => rfl
  | [], y :: b, _, _, h => by
    rw [List.flatMap_nil, List.flatMap_cons] at h
    unfold digS at h
    split at h <;> cases h
  | x :: a, [], _, _, h => by
    rw [List.flatMap_nil, List.flatMap_cons] at h
    unfold digS at h
    split at h <;> cases h
  | x :: a, y :: b, ha, hb, h => by
    rw [List.flatMap_cons, List.flatMap_cons] at h
    have h1 := ha x List.mem_cons_self
    have h2 := hb y List.mem_cons_self
    obtain ⟨rfl, h3⟩ := digS_inj h1.1 h1.2 h2.1 h2.2 h
    rw [digs_inj (fun z hz => ha z (List.mem_cons_of_mem _ hz)) (fun z hz => hb z (List.mem_cons_of_mem _ hz)) h3]
theorem textS_inj {a b : List Int} (ha : ∀ x ∈ a, 0 ≤ x ∧ x < 100) (hb : ∀ x ∈ b, 0 ≤ x ∧ x < 100) (h : textS a = textS b) : a = b := by
  refine digs_inj ha hb ?_
  have h1 : (textS a).data = (textS b).data := congrArg ByteArray.data h
  have h2 : (textS a).data.toList = (textS b).data.toList := congrArg Array.toList h1
  exact h2
theorem smallB_of {l : List Int} (hl : l.length ≤ 4096) (h : ∀ x ∈ l, 0 ≤ x ∧ x < 100) : smallB l = true := by
  unfold smallB
  rw [Bool.and_eq_true, List.all_eq_true]
  exact ⟨Nat.ble_eq_true_of_le hl, fun x hx => by rw [Bool.and_eq_true, decide_eq_true_iff, decide_eq_true_iff]; exact h x hx⟩
theorem mfind_putE {κ ν : Type} [DecidableEq κ] (k : κ) (v : ν) (c : κ) : ∀ m : List (κ × ν), mfind (mput m k v) c = if c = k then some v else mfind m c
  | [] => by
    unfold mput mfind mfind
    rfl
  | p :: l => by
    have ih := mfind_putE k v c l
    unfold mput
    by_cases h1 : k = p.1
    · rw [if_pos h1]
      unfold mfind
      by_cases h2 : c = p.1
      · rw [if_pos h2, if_pos (h2.trans h1.symm)]
      · simp only [if_neg h2, if_neg (show ¬ c = k from fun e => h2 (e.trans h1))]
    · rw [if_neg h1]
      conv => lhs; unfold mfind
      by_cases h2 : c = p.1
      · rw [if_pos h2, if_neg (fun e => h1 (e.symm.trans h2))]
        conv => rhs; unfold mfind
        rw [if_pos h2]
      · rw [if_neg h2, ih]
        by_cases h3 : c = k
        · rw [if_pos h3, if_pos h3]
        · rw [if_neg h3, if_neg h3]
          conv => rhs; unfold mfind
          rw [if_neg h2]
theorem mget_putE {κ ν : Type} [DecidableEq κ] (k : κ) (v z : ν) (c : κ) (m : List (κ × ν)) : mget (mput m k v) c z = if c = k then v else mget m c z := by
  unfold mget
  rw [mfind_putE]
  by_cases q : c = k
  · rw [if_pos q, if_pos q]
  · rw [if_neg q, if_neg q]
theorem cut_ready_ok {h : api_History} {c : List Int} {n : Nat} {Φ : Bool → Prop} (hz : histE h = 0) (hw : h.Writes.length ≤ 4096) (hn : n < h.Writes.length) (hΦ : Φ (allN (fun a => !befP h a n || decide ((a : Int) ∈ c)) h.Writes.length)) : cut_relation_ready_W (relP h) (markL h.Writes.length c) (n : Int) Φ := by
  refine LoopW.allL h.Writes.length (fun a => !befP h a n || decide ((a : Int) ∈ c)) hΦ (fun a rec ha _ hf ht => ⟨fun _ => ?_, fun r => absurd (show (a : Int) < (h.Writes.length : Int) by omega) r⟩) fun rec h0 _ => ⟨fun r => absurd r (by show ¬ ((h.Writes.length : Int) < (h.Writes.length : Int)); omega), fun _ => h0⟩
  have hx : ix (markL h.Writes.length c) (a : Int) = decide ((a : Int) ∈ c) := ix_markL ha
  have eb : befC h a n = befP h a n := befC_eq hz ha hn
  refine cut_before_ok ha hn ⟨fun t => ⟨iX (by omega) (by rw [markL_len]; omega), fun q => hf ?_, fun q => ⟨iI (by omega) (by omega), ht ?_⟩⟩, fun t => ⟨iI (by omega) (by omega), ht ?_⟩⟩
  · rw [hx] at q
    show (!befP h a n || decide ((a : Int) ∈ c)) = false
    rw [← eb, t, Bool.eq_false_iff.2 q]; rfl
  · rw [hx] at q
    show (!befP h a n || decide ((a : Int) ∈ c)) = true
    rw [Classical.not_not.1 q, Bool.or_true]
  · show (!befP h a n || decide ((a : Int) ∈ c)) = true
    rw [← eb, Bool.eq_false_iff.2 t]; rfl
def FoundM (h : api_History) (pre : List (List Int)) (m : List (ByteArray × Bool)) : Prop := ∀ c : List Int, isSetB c (h.Writes.length : Int) = true → mget m (textS c) false = decide (c ∈ pre)
theorem set_small {h : api_History} (hw : h.Writes.length ≤ 90) {c : List Int} (hc : isSetB c (h.Writes.length : Int) = true) : ∀ x ∈ c, 0 ≤ x ∧ x < 100 := fun x hx => by have := isSetB_mem hc hx; omega
theorem FoundM.put {h : api_History} (hw : h.Writes.length ≤ 90) {pre : List (List Int)} {m : List (ByteArray × Bool)} (hm : FoundM h pre m) {d : List Int} (hd : isSetB d (h.Writes.length : Int) = true) : FoundM h (pre ++ [d]) (mput m (textS d) true) := fun c hc => by
  rw [mget_putE, hm c hc]
  by_cases q : c = d
  · rw [if_pos (by rw [q]), decide_eq_true (by rw [q]; simp)]
  · rw [if_neg (fun e => q (textS_inj (set_small hw hc) (set_small hw hd) e))]
    by_cases r : c ∈ pre
    · rw [decide_eq_true r, decide_eq_true (List.mem_append_left _ r)]
    · rw [decide_eq_false r, decide_eq_false (fun t => (List.mem_append.1 t).elim r fun s => q (List.mem_singleton.1 s))]
theorem FoundM.old {h : api_History} {pre : List (List Int)} {m : List (ByteArray × Bool)} (hm : FoundM h pre m) {d : List Int} (hd : d ∈ pre) : FoundM h (pre ++ [d]) m := fun c hc => by
  rw [hm c hc]
  by_cases r : c ∈ pre
  · rw [decide_eq_true r, decide_eq_true (List.mem_append_left _ r)]
  · rw [decide_eq_false r, decide_eq_false (fun t => (List.mem_append.1 t).elim r fun s => r (List.mem_singleton.1 s ▸ hd))]
theorem ext_split {h : api_History} {c : List Int} {k : Nat} : ∀ j, ∃ r, extK h c (k + j) = extK h c k ++ r
  | 0 => ⟨[], by simp⟩
  | j + 1 => by
    obtain ⟨r, e⟩ := ext_split (h := h) (c := c) (k := k) j
    exact ⟨r ++ (if canB h c (k + j) = true then [insI ((k + j : Nat) : Int) c] else []), by rw [show k + (j + 1) = (k + j) + 1 by omega, extK_succ, e, List.append_assoc]⟩
def preL (h : api_History) (L : List (List Int)) (i n : Nat) : List (List Int) := candL h (L.take i) ++ extK h (ix L (i : Int)) n
theorem preL_all {h : api_History} {L : List (List Int)} {i : Nat} (hi : i < L.length) : preL h L i h.Writes.length = candL h (L.take (i + 1)) := (candL_take hi).symm
theorem cand_split {h : api_History} {L : List (List Int)} {i : Nat} : ∃ r, candL h L = candL h (L.take i) ++ r := ⟨candL h (L.drop i), by
  unfold candL
  rw [← List.flatMap_append, List.take_append_drop]⟩
theorem preL_split {h : api_History} {L : List (List Int)} {i n : Nat} (hi : i < L.length) (hn : n ≤ h.Writes.length) : ∃ r, candL h L = preL h L i n ++ r := by
  obtain ⟨r, e⟩ := cand_split (h := h) (L := L) (i := i + 1)
  obtain ⟨r2, e2⟩ := ext_split (h := h) (c := ix L (i : Int)) (k := n) (h.Writes.length - n)
  rw [show n + (h.Writes.length - n) = h.Writes.length by omega] at e2
  refine ⟨r2 ++ r, ?_⟩
  rw [e, candL_take hi, e2]
  unfold preL
  rw [List.append_assoc, List.append_assoc, List.append_assoc]
theorem preL_succ {h : api_History} {L : List (List Int)} {i n : Nat} : preL h L i (n + 1) = preL h L i n ++ (if canB h (ix L (i : Int)) n = true then [insI (n : Int) (ix L (i : Int))] else []) := by
  unfold preL
  rw [extK_succ, List.append_assoc]
theorem cut_next_ok {h : api_History} {k : Nat} {L : List (List Int)} {most : Int} {Φ : List (List Int) × Bool → Prop} (hz : histE h = 0) (hw : h.Writes.length ≤ 90) (hL : LevelOk h k L) (hl : L.length ≤ 100000) (h0 : 0 ≤ most) (hm : most ≤ 5000)
    (h1 : ((nextL h L).length : Int) ≤ most → Φ (nextL h L, true)) (h2 : most < ((nextL h L).length : Int) → Φ ([], false)) : cut_relation_next_W (relP h) L most Φ := by
  have fail : ∀ pre r, candL h L = pre ++ r → most < ((dedF pre).length : Int) → Φ ([], false) := fun pre r e q => h2 (by
    have := dedF_le pre r
    rw [← e, dedF_len (candL h L)] at this
    show most < ((dedS (candL h L)).length : Int)
    omega)
  refine LoopW.of_inv (fun s => ∃ i : Nat, i ≤ L.length ∧ s.1 = (i : Int) ∧ FoundM h (candL h (L.take i)) s.2.1 ∧ s.2.2 = dedF (candL h (L.take i)) ∧ (s.2.2.length : Int) ≤ most) (fun s => L.length - s.1.toNat) ?_ ⟨0, Nat.zero_le _, rfl, fun c _ => rfl, rfl, h0⟩
  rintro ⟨v1, m, out⟩ rec1 ⟨i, hi, hv1, hfm, hout, hlen⟩ hrec1
  have hv1 : v1 = (i : Int) := hv1
  subst hv1
  have hout : out = dedF (candL h (L.take i)) := hout
  have hlen : (out.length : Int) ≤ most := hlen
  have hfm : FoundM h (candL h (L.take i)) m := hfm
  refine ⟨fun q => ?_, fun q => ?_⟩
  · have hil : i < L.length := by omega
    have hc := hL (ix L (i : Int)) (ix_mem ⟨by omega, by omega⟩)
    have hcl : (ix L (i : Int)).length ≤ 90 := by have := isSetB_le hc.1 (by omega); omega
    refine ⟨iX (by omega) (by omega), cut_relation_mark_ok (r := relP h) rfl (by omega) (by omega) (fun _ => ?_) fun t => absurd hc.1 (by rw [t]; simp)⟩
    have key : LoopW (cut_relation_next_L2 (relP h) L most (i : Int) rec1 (markL h.Writes.length (ix L (i : Int)), true) Φ) (0, m, out) := by
      refine LoopW.of_inv (fun s => ∃ n : Nat, n ≤ h.Writes.length ∧ s.1 = (n : Int) ∧ FoundM h (preL h L i n) s.2.1 ∧ s.2.2 = dedF (preL h L i n) ∧ (s.2.2.length : Int) ≤ most) (fun s => h.Writes.length - s.1.toNat) ?_ ⟨0, Nat.zero_le _, rfl, by
        have : preL h L i 0 = candL h (L.take i) := by unfold preL extK; simp
        rw [this]; exact hfm, by
        have : preL h L i 0 = candL h (L.take i) := by unfold preL extK; simp
        rw [this]; exact hout, hlen⟩
      rintro ⟨v5, m, out⟩ rec2 ⟨n, hn, hv5, hfm, hout, hlen⟩ hrec2
      have hv5 : v5 = (n : Int) := hv5
      subst hv5
      have hout : out = dedF (preL h L i n) := hout
      have hlen : (out.length : Int) ≤ most := hlen
      have hfm : FoundM h (preL h L i n) m := hfm
      refine ⟨fun q => ?_, fun q => ⟨iI (by omega) (by omega), hrec1 _ ⟨i + 1, hil, rfl, ?_, ?_, hlen⟩ ?_⟩⟩
      · have q : (n : Int) < (h.Writes.length : Int) := q
        have hnl : n < h.Writes.length := by omega
        have hx : ix (markL h.Writes.length (ix L (i : Int))) (n : Int) = decide ((n : Int) ∈ ix L (i : Int)) := ix_markL hnl
        have j3 : ∀ b, b = !canB h (ix L (i : Int)) n → cut_relation_next_J3 L most (i : Int) (n : Int) m out rec2 Φ b := by
          intro b hb
          refine ⟨fun t => ⟨iI (by omega) (by omega), hrec2 _ ⟨n + 1, hnl, rfl, ?_, ?_, hlen⟩ ?_⟩, fun t => ?_⟩
          · have e : canB h (ix L (i : Int)) n = false := by rw [t] at hb; simpa using hb.symm
            rw [preL_succ, if_neg (by rw [e]; simp), List.append_nil]; exact hfm
          · have e : canB h (ix L (i : Int)) n = false := by rw [t] at hb; simpa using hb.symm
            rw [preL_succ, if_neg (by rw [e]; simp), List.append_nil]; exact hout
          · show h.Writes.length - ((n : Int) + 1).toNat < h.Writes.length - ((n : Int)).toNat
            omega
          · have e : canB h (ix L (i : Int)) n = true := by
              have : b = false := Bool.eq_false_iff.2 t
              rw [this] at hb; simpa using hb.symm
            have ps : preL h L i (n + 1) = preL h L i n ++ [insI (n : Int) (ix L (i : Int))] := by rw [preL_succ, if_pos e]
            have hno : (n : Int) ∉ ix L (i : Int) := canB_not e
            have hd : isSetB (insI (n : Int) (ix L (i : Int))) (h.Writes.length : Int) = true := insI_set (by omega) hc.1 hno
            have hdl : (insI (n : Int) (ix L (i : Int))).length ≤ 91 := by rw [(insI_perm _ _).length_eq, List.length_cons]; omega
            have sc : sortI (ix L (i : Int) ++ [(n : Int)]) = insI (n : Int) (ix L (i : Int)) := sort_ins (set_pair hc.1) hno
            have lo : lenOk (ix L (i : Int) ++ ([(n : Int)] : List Int)).length 8 := by
              refine iL ?_ (by omega)
              rw [List.length_append, List.length_singleton]; omega
            have j4 : ∀ s : (List (ByteArray × Bool)) × List (List Int), FoundM h (preL h L i (n + 1)) s.1 → s.2 = dedF (preL h L i (n + 1)) → cut_relation_next_J4 most (n : Int) rec2 Φ s := by
              rintro ⟨m2, o2⟩ f1 f2
              refine ⟨fun t => ?_, fun t => ⟨iI (by omega) (by omega), hrec2 _ ⟨n + 1, hnl, rfl, f1, f2, ?_⟩ ?_⟩⟩
              · obtain ⟨r, er⟩ := preL_split (h := h) (L := L) (i := i) (n := n + 1) hil hnl
                have f2 : o2 = dedF (preL h L i (n + 1)) := f2
                exact fail _ r er (by rw [← f2]; exact t)
              · show (o2.length : Int) ≤ most
                omega
              · show h.Writes.length - ((n : Int) + 1).toNat < h.Writes.length - ((n : Int)).toNat
                omega
            have fin : slices_Sort_int_int_W (ix L (i : Int) ++ ([(n : Int)] : List Int)) fun v10 => Join (cut_relation_next_J4 most (n : Int) rec2 Φ) fun J4 => cut_text_W v10 fun v13 =>
              (¬ ((mget m v13 false) = true) → lenOk (out ++ ([v10] : List (List Int))).length 24 ∧ J4 ((mput m v13 true), (out ++ ([v10] : List (List Int))))) ∧ (¬ (¬ ((mget m v13 false) = true)) → J4 (m, out)) := by
              refine ⟨by rw [List.length_append, List.length_singleton]; omega, ?_⟩
              rw [sc]
              refine ⟨smallB_of (by omega) (set_small hw hd), fun r => ⟨?_, j4 _ ?_ ?_⟩, fun r => j4 _ ?_ ?_⟩
              · refine iL ?_ (by omega)
                rw [List.length_append, List.length_singleton]; omega
              · rw [ps]; exact hfm.put hw hd
              · rw [hfm _ hd, decide_eq_true_iff] at r
                show out ++ [_] = _
                rw [ps, dedF_snoc, if_neg (fun t => r (mem_dedF.1 t)), ← hout]
              · rw [hfm _ hd, decide_eq_true_iff] at r
                rw [ps]; exact hfm.old (Classical.not_not.1 r)
              · rw [hfm _ hd, decide_eq_true_iff] at r
                show out = _
                rw [ps, dedF_snoc, if_pos (mem_dedF.2 (Classical.not_not.1 r)), ← hout]
            refine ⟨fun e0 => ?_, ⟨by rw [List.nil_append]; exact iL (by omega) (by omega), ?_⟩⟩
            · rw [e0] at lo fin
              exact ⟨lo, fin⟩
            · rw [List.nil_append]
              exact ⟨lo, fin⟩
        show inX (n : Int) (markL h.Writes.length (ix L (i : Int))).length ∧ _
        refine ⟨iX (by omega) (by rw [markL_len]; omega), fun t => j3 true ?_, fun t => cut_ready_ok hz (by omega) hnl (j3 _ ?_)⟩
        · have t : ix (markL h.Writes.length (ix L (i : Int))) (n : Int) = true := t
          rw [hx, decide_eq_true_iff] at t
          unfold canB
          rw [decide_eq_true t]; rfl
        · have t : ¬ ix (markL h.Writes.length (ix L (i : Int))) (n : Int) = true := t
          rw [hx, decide_eq_true_iff] at t
          unfold canB
          rw [decide_eq_false t, Bool.not_false, Bool.true_and]
          cases allN (fun a => !befP h a n || decide ((a : Int) ∈ ix L (i : Int))) h.Writes.length <;> rfl
      · have q : ¬ (n : Int) < (h.Writes.length : Int) := q
        obtain rfl : n = h.Writes.length := by omega
        rw [← preL_all hil]; exact hfm
      · have q : ¬ (n : Int) < (h.Writes.length : Int) := q
        obtain rfl : n = h.Writes.length := by omega
        rw [← preL_all hil]; exact hout
      · show L.length - ((i : Int) + 1).toNat < L.length - ((i : Int)).toNat
        omega
    exact key
  · obtain rfl : i = L.length := by omega
    rw [List.take_length] at hout
    refine ⟨by omega, ?_⟩
    rw [hout, sort_dedF]
    refine h1 ?_
    have e1 := dedF_len (candL h L)
    have e2 : out.length = (dedF (candL h L)).length := congrArg List.length hout
    show ((dedS (candL h L)).length : Int) ≤ most
    omega
theorem all_relate {h : api_History} {most : Int} {Φ : List (List Int) × Int → Prop} (hh : SmallH h) (hz : histE h = 0) (he : Join (cut_All_J4 h most (issW h) (ackW h) Φ) fun J4 => (most < 0 → J4 true) ∧ (¬ (most < 0) → J4 (decide (4096 < most)))) :
    LoopW (cut_All_L3 h most Φ) (0, List.replicate h.Writes.length (h.Events.length : Int), List.replicate h.Writes.length (h.Events.length : Int)) := by
  have hev := hh.ev
  refine LoopW.upT h.Events.length (fun k => ((k : Int), relL h.Events 0 h.Writes.length h.Events.length k, relL h.Events 1 h.Writes.length h.Events.length k)) (by rw [relL_zero, relL_zero]; rfl) (fun k rec hk hr => ⟨fun _ => ⟨iX (by omega) (by omega), fun q => ?_, fun q => ?_⟩, fun r => absurd (show (k : Int) < (h.Events.length : Int) by omega) r⟩) fun rec => ⟨fun r => absurd r (by show ¬ ((h.Events.length : Int) < (h.Events.length : Int)); omega), fun _ => ⟨fun r => absurd rfl r, fun _ => he⟩⟩
  · obtain ⟨w, e1, e2, e3, e4⟩ := (ev_put hz (N := (h.Events.length : Int)) hk).1 q
    refine ⟨iX (by rw [e1]; omega) (by rw [e1, relL_len]; omega), iI (by omega) (by omega), hr _ ?_⟩
    rw [e1, e3, e4]; rfl
  · obtain ⟨w, e1, e2, e3, e4⟩ := (ev_put hz (N := (h.Events.length : Int)) hk).2 q
    refine ⟨iX (by rw [e1]; omega) (by rw [e1, relL_len]; omega), iI (by omega) (by omega), hr _ ?_⟩
    rw [e1, e3, e4]; rfl
theorem allK_over {h : api_History} {most : Int} {f : Nat} {out L : List (List Int)} (hL : L ≠ []) (hm : most < ((out ++ L).length : Int)) : allK h most f out L = ([], 6) := by
  cases f with
  | zero => rfl
  | succ f => unfold allK; rw [if_neg hL, if_pos hm]
theorem all_L5 {h : api_History} {most : Int} {Φ : List (List Int) × Int → Prop} (hz : histE h = 0) (hw : h.Writes.length ≤ 90) (h0 : 0 ≤ most) (hm : most ≤ 4096) : ∀ {f k : Nat} {out L : List (List Int)}, h.Writes.length + 2 ≤ f + 1 + k → LevelOk h k L → L.length ≤ 4096 → (out.length : Int) ≤ most → Φ (allK h most (f + 1) out L) → LoopN (cut_All_L5 h most (issW h) (ackW h) Φ) (f + 1) (out, L)
  | f, k, out, L, hk, hL, hl, ho, hΦ => by
    unfold allK at hΦ
    refine ⟨fun q => ?_, fun q => ?_⟩
    · have hn : L ≠ [] := fun e => by rw [e] at q; simp at q
      have hkl := level_le hL hn
      have la : ((out ++ L).length : Int) = (out.length : Int) + (L.length : Int) := by rw [List.length_append]; omega
      rw [if_neg hn] at hΦ
      refine ⟨iI (by omega) (by omega), fun r => ?_, fun r => ?_⟩
      · rw [if_pos (by omega)] at hΦ; exact hΦ
      · rw [if_neg (by omega)] at hΦ
        obtain ⟨f, rfl⟩ : ∃ g, f = g + 1 := ⟨f - 1, by omega⟩
        refine ⟨iL (by omega) (by omega), iI (by omega) (by omega), cut_next_ok hz hw hL (by omega) (by omega) (by omega) (fun t => ⟨fun u => absurd rfl u, fun _ => ?_⟩) fun t => ⟨fun _ => ?_, fun u => absurd (fun v => Bool.noConfusion v) u⟩⟩
        · have t : ((nextL h L).length : Int) ≤ most - ((out ++ L).length : Int) := t
          exact all_L5 hz hw h0 hm (f := f) (k := k + 1) (by omega) (next_ok hL) (show (nextL h L).length ≤ 4096 by omega) (by omega) hΦ
        · have e : nextL h L ≠ [] := fun e => by rw [e] at t; simp at t; omega
          rw [allK_over e (by rw [List.length_append]; omega)] at hΦ
          exact hΦ
    · have hn : L = [] := List.eq_nil_of_length_eq_zero (by omega)
      rw [if_pos hn] at hΦ
      exact hΦ
theorem cut_All_ok {h : api_History} {most : Int} {Φ : List (List Int) × Int → Prop} (hh : SmallH h) (hw : h.Writes.length ≤ 90) (hΦ : Φ (allR h most)) : cut_All_W h most Φ := by
  unfold allR at hΦ
  refine history_Check_ok hh ⟨fun q => ⟨fun _ => by rw [if_pos q] at hΦ; exact hΦ, fun r => absurd q r⟩, fun q => ?_⟩
  rw [if_neg q] at hΦ
  have hz : histE h = 0 := Classical.not_not.1 q
  refine ⟨_, slices_Repeat_int_ok (by omega) rfl, _, slices_Repeat_int_ok (by omega) rfl, all_relate hh hz ?_⟩
  have j4 : ∀ b, b = decide (most < 0 ∨ 4096 < most) → cut_All_J4 h most (issW h) (ackW h) Φ b := by
    intro b hb
    refine ⟨fun t => ?_, fun t => ?_⟩
    · rw [t] at hb
      rw [if_pos (of_decide_eq_true hb.symm)] at hΦ
      exact hΦ
    · have : b = false := Bool.eq_false_iff.2 t
      rw [this] at hb
      have hb := of_decide_eq_false hb.symm
      rw [if_neg hb] at hΦ
      exact ⟨_, all_L5 hz hw (by omega) (by omega) (f := h.Writes.length + 1) (k := 0) (by omega) (fun c hc => by rw [List.mem_singleton.1 hc]; exact ⟨rfl, rfl⟩) (by simp) (by simp; omega) hΦ⟩
  refine ⟨fun t => j4 true ?_, fun t => j4 _ ?_⟩
  · rw [decide_eq_true (.inl t)]
  · rw [decide_eq_decide]
    exact ⟨fun u => .inr u, fun u => u.resolve_left t⟩
theorem law16_few_ok {h : api_History} {L : List (List Int)} {Φ : Bool → Prop} (hL : L.length ≤ 100) (hF : Φ false) (hT : SmallH h → h.Writes.length ≤ 40 → h.Events.length ≤ 90 → (∀ x ∈ L, x.length ≤ 60) → Φ true) : law16_few_W h L Φ := by
  refine ref15_Few_ok ⟨fun t => ?_, fun _ => hF⟩
  have hs := fewH_small t
  have he : h.Events.length ≤ 90 := by
    unfold fewH at t
    rw [Bool.and_eq_true, decide_eq_true_iff] at t
    exact t.1.2.2
  refine LoopW.upI L.length (fun k => (k : Int)) (fun k => ∀ j, j < k → (ix L (j : Int)).length ≤ 60) rfl (fun j hj => absurd hj (Nat.not_lt_zero j)) (fun k rec hk hI hr => ⟨fun hlt => ⟨iX (by omega) hlt, fun t => ?_, fun t => ⟨iI (by omega) (by omega), hr (fun j hj => ?_) _ rfl⟩⟩, fun r => absurd (show (k : Int) < (L.length : Int) by omega) r⟩) fun rec hI => ⟨fun r => absurd r (by omega), fun _ => ?_⟩
  · rw [decide_eq_false (show ¬ ¬ (0 : Int) ≤ (k : Int) by omega)]; exact hF
  · rcases Nat.lt_or_ge j k with c | c
    · exact hI j c
    · obtain rfl : j = k := by omega
      rw [decide_eq_true_iff] at t; omega
  · rw [show decide (¬ (0 : Int) ≤ -1) = true by decide]
    refine hT hs.1 hs.2 he fun x hx => ?_
    obtain ⟨k, hk, e⟩ := List.getElem_of_mem hx
    have := hI k hk
    rw [ix_get hk, e] at this; exact this
end Go.Proofs.YtpmjodnmnffmhaaGreatDoor
